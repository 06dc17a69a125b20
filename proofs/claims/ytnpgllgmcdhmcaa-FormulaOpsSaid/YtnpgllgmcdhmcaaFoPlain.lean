/- Formulas, in plain Lean: formed formulas are told by what they hold for; how many parts one may have. Conditions: none. -/
import Derived.Test.YtnpgllgmcdhmcaaEv

namespace Go.Proofs.Ytnpgllgmcdhmcaa.fo
open Go Go.Ev

abbrev Prt := List Int
abbrev Fml := List (List Int)
def subP (a b : Prt) : Prop := ∀ n ∈ a, n ∈ b
def Rises (p : Prt) : Prop := (∀ n ∈ p, 0 ≤ n) ∧ p.Pairwise (· < ·)
def lexB : Prt → Prt → Bool
  | a :: as, b :: bs => if a = b then lexB as bs else decide (a < b)
  | _, _ => false
def lessP (a b : Prt) : Prop := a.length < b.length ∨ (a.length = b.length ∧ lexB a b = true)
theorem lex_irrefl : ∀ a, lexB a a = false
  | [] => rfl
  | a :: as => by rw [lexB, if_pos rfl]; exact lex_irrefl as
theorem lex_trans : ∀ {a b c : Prt}, lexB a b = true → lexB b c = true → lexB a c = true
  | [], _, _, h, _ => by rw [lexB] at h; cases h; simp
  | _ :: _, [], _, h, _ => by rw [lexB] at h; cases h; simp
  | _ :: _, _ :: _, [], _, h => by rw [lexB] at h; cases h; simp
  | a :: as, b :: bs, c :: cs, h1, h2 => by
    rw [lexB] at h1 h2 ⊢
    by_cases e1 : a = b
    · subst e1
      rw [if_pos rfl] at h1
      by_cases e2 : a = c
      · subst e2; rw [if_pos rfl] at h2 ⊢; exact lex_trans h1 h2
      · rw [if_neg e2] at h2 ⊢; exact h2
    · rw [if_neg e1] at h1
      have h1 := of_decide_eq_true h1
      by_cases e2 : b = c
      · subst e2; rw [if_neg e1]; exact decide_eq_true h1
      · rw [if_neg e2] at h2
        have h2 := of_decide_eq_true h2
        rw [if_neg (by omega)]
        exact decide_eq_true (by omega)
theorem lex_total : ∀ {a b : Prt}, a.length = b.length → lexB a b = true ∨ a = b ∨ lexB b a = true
  | [], [], _ => .inr (.inl rfl)
  | [], _ :: _, h => by simp at h
  | _ :: _, [], h => by simp at h
  | a :: as, b :: bs, h => by
    rw [lexB, lexB]
    by_cases e : a = b
    · subst e
      rw [if_pos rfl, if_pos rfl]
      rcases lex_total (a := as) (b := bs) (by simpa using h) with h | h | h
      · exact .inl h
      · exact .inr (.inl (by rw [h]))
      · exact .inr (.inr h)
    · rw [if_neg e, if_neg (fun h => e h.symm)]
      rcases Int.lt_or_gt_of_ne e with h | h
      · exact .inl (decide_eq_true h)
      · exact .inr (.inr (decide_eq_true h))
theorem less_irrefl (a : Prt) : ¬ lessP a a := by
  rintro (h | ⟨-, h⟩)
  · omega
  · rw [lex_irrefl] at h; cases h
theorem less_trans {a b c : Prt} (h1 : lessP a b) (h2 : lessP b c) : lessP a c := by
  rcases h1 with h1 | ⟨h1, k1⟩ <;> rcases h2 with h2 | ⟨h2, k2⟩
  · exact .inl (by omega)
  · exact .inl (by omega)
  · exact .inl (by omega)
  · exact .inr ⟨by omega, lex_trans k1 k2⟩
theorem less_total (a b : Prt) : lessP a b ∨ a = b ∨ lessP b a := by
  rcases Nat.lt_trichotomy a.length b.length with h | h | h
  · exact .inl (.inl h)
  · rcases lex_total h with k | k | k
    · exact .inl (.inr ⟨h, k⟩)
    · exact .inr (.inl k)
    · exact .inr (.inr (.inr ⟨h.symm, k⟩))
  · exact .inr (.inr (.inl h))
theorem pw_ext {α : Type} {r : α → α → Prop} (hi : ∀ a, ¬ r a a) (ht : ∀ {a b c}, r a b → r b c → r a c) : ∀ (l l' : List α), l.Pairwise r → l'.Pairwise r → (∀ x, x ∈ l ↔ x ∈ l') → l = l'
  | [], [], _, _, _ => rfl
  | [], b :: l', _, _, h => by have := (h b).2 (by simp); cases this
  | a :: l, [], _, _, h => by have := (h a).1 (by simp); cases this
  | a :: l, b :: l', h1, h2, h => by
    obtain ⟨ha, k1'⟩ := List.pairwise_cons.1 h1
    obtain ⟨hb, k2'⟩ := List.pairwise_cons.1 h2
    have hab : a = b := by
      refine Classical.byContradiction fun hne => ?_
      have k1 : r b a := by
        rcases List.mem_cons.1 ((h a).1 (by simp)) with e | e
        · exact absurd e hne
        · exact hb a e
      have k2 : r a b := by
        rcases List.mem_cons.1 ((h b).2 (by simp)) with e | e
        · exact absurd e.symm hne
        · exact ha b e
      exact hi a (ht k2 k1)
    subst hab
    rw [pw_ext hi @ht l l' k1' k2' fun x => ⟨fun hx => ?_, fun hx => ?_⟩]
    · rcases List.mem_cons.1 ((h x).1 (by simp [hx])) with e | e
      · subst e; exact absurd (ha x hx) (hi x)
      · exact e
    · rcases List.mem_cons.1 ((h x).2 (by simp [hx])) with e | e
      · subst e; exact absurd (hb x hx) (hi x)
      · exact e
theorem Rises.tail {a : Int} {p : Prt} (h : Rises (a :: p)) : Rises p := ⟨fun n hn => h.1 n (by simp [hn]), (List.pairwise_cons.1 h.2).2⟩
theorem sub_eq {p q : Prt} (hp : Rises p) (hq : Rises q) (h1 : subP p q) (h2 : subP q p) : p = q :=
  pw_ext (r := (· < ·)) (fun a => Int.lt_irrefl a) (fun h k => Int.lt_trans h k) p q hp.2 hq.2 fun x => ⟨h1 x, h2 x⟩
theorem sub_list : ∀ {q p : Prt}, Rises p → Rises q → subP p q → p.Sublist q
  | [], [], _, _, _ => List.Sublist.refl _
  | [], a :: p, _, _, h => by have := h a (by simp); cases this
  | b :: q, [], _, _, _ => List.nil_sublist _
  | b :: q, a :: p, hp, hq, h => by
    have hpa := (List.pairwise_cons.1 hp.2).1
    have hqb := (List.pairwise_cons.1 hq.2).1
    by_cases e : a = b
    · subst e
      refine List.Sublist.cons_cons a (sub_list hp.tail hq.tail fun n hn => ?_)
      rcases List.mem_cons.1 (h n (by simp [hn])) with e | e
      · have := hpa n hn; omega
      · exact e
    · have hab : a ∈ q := by rcases List.mem_cons.1 (h a (by simp)) with k | k; exact absurd k e; exact k
      have hba := hqb a hab
      refine List.Sublist.cons b (sub_list hp hq.tail fun n hn => ?_)
      rcases List.mem_cons.1 (h n hn) with k | k
      · rcases List.mem_cons.1 hn with k2 | k2
        · omega
        · have := hpa n k2; omega
      · exact k
theorem list_sub {p q : Prt} (h : p.Sublist q) : subP p q := fun n hn => h.subset hn
theorem within_iff {p q : Prt} (hp : Rises p) (hq : Rises q) : p.isSublist q = true ↔ subP p q := by
  rw [List.isSublist_iff_sublist]
  exact ⟨list_sub, sub_list hp hq⟩

structure FormedP (f : Fml) : Prop where
  rises : ∀ p ∈ f, Rises p
  less : f.Pairwise lessP
  apart : f.Pairwise fun a b => ¬ subP a b
theorem FormedP.nil : FormedP [] := ⟨fun _ h => by (cases h), .nil, .nil⟩
theorem FormedP.sub {f g : Fml} (h : FormedP f) (hs : g.Sublist f) : FormedP g := ⟨fun p hp => h.rises p (hs.subset hp), h.less.sublist hs, h.apart.sublist hs⟩
theorem FormedP.snoc {g : Fml} {p : Prt} (h : FormedP g) (hp : Rises p) (hl : ∀ q, g.getLast? = some q → lessP q p) (ha : ∀ q ∈ g, ¬ subP q p) : FormedP (g ++ [p]) := by
  refine ⟨fun q hq => ?_, List.pairwise_append.2 ⟨h.less, List.pairwise_singleton _ _, fun a ha b hb => ?_⟩, List.pairwise_append.2 ⟨h.apart, List.pairwise_singleton _ _, fun a ha' b hb => by rw [List.mem_singleton.1 hb]; exact ha a ha'⟩⟩
  · rcases List.mem_append.1 hq with hq | hq
    · exact h.rises q hq
    · rw [List.mem_singleton.1 hq]; exact hp
  · rw [List.mem_singleton.1 hb]
    cases hg : g.getLast? with
    | none => rw [List.getLast?_eq_none_iff] at hg; subst hg; cases ha
    | some q =>
      have hq := hl q hg
      obtain ⟨g', rfl⟩ := List.getLast?_eq_some_iff.1 hg
      rcases List.mem_append.1 ha with ha | ha
      · exact less_trans ((List.pairwise_append.1 h.less).2.2 a ha q (by simp)) hq
      · rw [List.mem_singleton.1 ha]; exact hq
theorem FormedP.one {f : Fml} (h : FormedP f) {p q : Prt} (hp : p ∈ f) (hq : q ∈ f) (hs : subP q p) : q = p := by
  obtain ⟨i, hi, rfl⟩ := List.getElem_of_mem hp
  obtain ⟨k, hk, rfl⟩ := List.getElem_of_mem hq
  rcases Nat.lt_trichotomy k i with h1 | h1 | h1
  · exact absurd hs (List.pairwise_iff_getElem.1 h.apart k i hk hi h1)
  · subst h1; rfl
  · have hl := List.pairwise_iff_getElem.1 h.less i k hi hk h1
    have hsl := sub_list (h.rises _ hq) (h.rises _ hp) hs
    have hlen := hsl.length_le
    refine hsl.eq_of_length ?_
    rcases hl with hl | hl
    · omega
    · omega
def holdsP (f : Fml) (S : Prt) : Prop := ∃ p ∈ f, subP p S
theorem holds_app {f g : Fml} {S : Prt} : holdsP (f ++ g) S ↔ holdsP f S ∨ holdsP g S := by
  constructor
  · rintro ⟨p, hp, hs⟩
    rcases List.mem_append.1 hp with hp | hp
    · exact .inl ⟨p, hp, hs⟩
    · exact .inr ⟨p, hp, hs⟩
  · rintro (⟨p, hp, hs⟩ | ⟨p, hp, hs⟩)
    · exact ⟨p, List.mem_append_left _ hp, hs⟩
    · exact ⟨p, List.mem_append_right _ hp, hs⟩
theorem canon_sub {f g : Fml} (hf : FormedP f) (hg : FormedP g) (h : ∀ S, holdsP f S ↔ holdsP g S) {p : Prt} (hp : p ∈ f) : p ∈ g := by
  obtain ⟨q, hq, hqp⟩ := (h p).1 ⟨p, hp, fun _ h => h⟩
  obtain ⟨p', hp', hpq⟩ := (h q).2 ⟨q, hq, fun _ h => h⟩
  have e := hf.one hp hp' fun n hn => hqp n (hpq n hn)
  subst e
  rw [sub_eq (hf.rises p' hp') (hg.rises q hq) hpq hqp]
  exact hq
/-- Two formed formulas that hold for the same are one. -/
theorem canon {f g : Fml} (hf : FormedP f) (hg : FormedP g) (h : ∀ S, holdsP f S ↔ holdsP g S) : f = g :=
  pw_ext less_irrefl less_trans f g hf.less hg.less fun _ => ⟨canon_sub hf hg h, canon_sub hg hf fun S => (h S).symm⟩

/-! ### the least parts -/
def addM (out : Fml) (p : Prt) : Fml := if (out.any fun q => q.isSublist p) = true then out else out ++ [p]
def mini (l : Fml) : Fml := l.foldl addM []
theorem mini_snoc (l : Fml) (p : Prt) : mini (l ++ [p]) = addM (mini l) p := by unfold mini; rw [List.foldl_append]; rfl
/-- The formed formula that holds for the same. -/
structure Canon (l r : Fml) : Prop where
  formed : FormedP r
  mem : ∀ q ∈ r, q ∈ l
  holds : ∀ S, holdsP r S ↔ holdsP l S
theorem mini_take {l : Fml} (hr : ∀ p ∈ l, Rises p) (hs : l.Pairwise fun a b => ¬ lessP b a) : ∀ n, n ≤ l.length → FormedP (mini (l.take n)) ∧ (∀ q ∈ mini (l.take n), q ∈ l.take n) ∧ ∀ p ∈ l.take n, ∃ q ∈ mini (l.take n), subP q p
  | 0, _ => ⟨by rw [List.take_zero]; exact FormedP.nil, by simp [mini], by simp⟩
  | n + 1, hn => by
    obtain ⟨h1, h2, h3⟩ := mini_take hr hs n (by omega)
    have htk : l.take (n + 1) = l.take n ++ [l[n]] := by rw [List.take_add_one, List.getElem?_eq_getElem (by omega)]; rfl
    have hp : Rises l[n] := hr _ (List.getElem_mem _)
    have hord : ∀ q ∈ l.take n, ¬ lessP l[n] q := fun q hq => by
      obtain ⟨i, hi, rfl⟩ := List.getElem_of_mem hq
      rw [List.length_take] at hi
      rw [List.getElem_take]
      exact List.pairwise_iff_getElem.1 hs i n (by omega) (by omega) (by omega)
    rw [htk, mini_snoc]
    generalize l[n] = p at *
    unfold addM
    by_cases ha : ((mini (l.take n)).any fun q => q.isSublist p) = true
    · rw [if_pos ha]
      obtain ⟨q, hq, hqp⟩ := List.any_eq_true.1 ha
      refine ⟨h1, fun q hq => List.mem_append_left _ (h2 q hq), fun x hx => ?_⟩
      rcases List.mem_append.1 hx with hx | hx
      · exact h3 x hx
      · rw [List.mem_singleton.1 hx]; exact ⟨q, hq, list_sub (List.isSublist_iff_sublist.1 hqp)⟩
    · rw [if_neg ha]
      have hno : ∀ q ∈ mini (l.take n), ¬ subP q p := fun q hq hs2 => ha (List.any_eq_true.2 ⟨q, hq, (within_iff (h1.rises q hq) hp).2 hs2⟩)
      refine ⟨h1.snoc hp (fun q hq => ?_) hno, fun q hq => ?_, fun x hx => ?_⟩
      · have hqm := List.mem_of_getLast? hq
        rcases less_total q p with h | h | h
        · exact h
        · subst h; exact absurd (fun _ h => h) (hno q hqm)
        · exact absurd h (hord q (h2 q hqm))
      · rcases List.mem_append.1 hq with hq | hq
        · exact List.mem_append_left _ (h2 q hq)
        · exact List.mem_append_right _ hq
      · rcases List.mem_append.1 hx with hx | hx
        · obtain ⟨q, hq, hs2⟩ := h3 x hx; exact ⟨q, List.mem_append_left _ hq, hs2⟩
        · rw [List.mem_singleton.1 hx]; exact ⟨p, by simp, fun _ h => h⟩
theorem mini_canon {l : Fml} (hr : ∀ p ∈ l, Rises p) (hs : l.Pairwise fun a b => ¬ lessP b a) : Canon l (mini l) := by
  obtain ⟨h1, h2, h3⟩ := mini_take hr hs l.length (Nat.le_refl _)
  rw [List.take_length] at h1 h2 h3
  refine ⟨h1, h2, fun S => ⟨fun ⟨p, hp, hS⟩ => ⟨p, h2 p hp, hS⟩, fun ⟨p, hp, hS⟩ => ?_⟩⟩
  obtain ⟨q, hq, hqp⟩ := h3 p hp
  exact ⟨q, hq, fun n hn => hS n (hqp n hn)⟩
theorem Canon.perm {l l' r : Fml} (h : Canon l r) (hp : l.Perm l') : Canon l' r :=
  ⟨h.formed, fun q hq => hp.mem_iff.1 (h.mem q hq), fun S => (h.holds S).trans ⟨fun ⟨p, hm, hs⟩ => ⟨p, hp.mem_iff.1 hm, hs⟩, fun ⟨p, hm, hs⟩ => ⟨p, hp.mem_iff.2 hm, hs⟩⟩⟩

/-! ### how many parts -/
def maskA : Prt → Prt → Nat
  | [], _ => 0
  | a :: A, p => (if a ∈ p then 1 else 0) + 2 * maskA A p
theorem mask_lt : ∀ (A p : Prt), maskA A p < 2 ^ A.length
  | [], _ => by simp [maskA]
  | a :: A, p => by
    have := mask_lt A p
    rw [maskA, List.length_cons, Nat.pow_succ]
    split <;> omega
theorem mask_bit : ∀ (A p : Prt) (i : Nat) (h : i < A.length), (maskA A p).testBit i = decide (A[i] ∈ p)
  | a :: A, p, 0, _ => by
    rw [maskA, Nat.testBit_zero]
    show decide (_ % 2 = 1) = decide (a ∈ p)
    split
    · rename_i h; rw [decide_eq_true h]; exact decide_eq_true (by omega)
    · rename_i h; rw [decide_eq_false h]; exact decide_eq_false (by omega)
  | a :: A, p, i + 1, h => by
    rw [maskA, Nat.testBit_succ]
    have : ((if a ∈ p then 1 else 0) + 2 * maskA A p) / 2 = maskA A p := by split <;> omega
    rw [this]
    exact mask_bit A p i (by simpa using h)
theorem mask_sub {A p q : Prt} (hp : ∀ n ∈ p, n ∈ A) (h : maskA A p &&& maskA A q = maskA A p) : subP p q := by
  intro n hn
  obtain ⟨i, hi, rfl⟩ := List.getElem_of_mem (hp n hn)
  have h1 := mask_bit A p i hi
  rw [← h, Nat.testBit_and, mask_bit A p i hi, mask_bit A q i hi, decide_eq_true hn] at h1
  simpa using h1
def chains : List (List Nat) := [[0, 1, 3, 7, 15, 31, 63, 127, 255, 511], [2, 6, 14, 30, 62, 126, 254, 510], [4, 5, 13, 29, 61, 125, 253, 509], [8, 9, 11, 27, 59, 123, 251, 507], [10, 26, 58, 122, 250, 506], [12, 28, 60, 124, 252, 508], [16, 17, 19, 23, 55, 119, 247, 503], [18, 22, 54, 118, 246, 502], [20, 21, 53, 117, 245, 501], [24, 25, 57, 121, 249, 505], [32, 33, 35, 39, 47, 111, 239, 495], [34, 38, 46, 110, 238, 494], [36, 37, 45, 109, 237, 493], [40, 41, 43, 107, 235, 491], [42, 106, 234, 490], [44, 108, 236, 492], [48, 49, 51, 115, 243, 499], [50, 114, 242, 498], [52, 116, 244, 500], [56, 120, 248, 504], [64, 65, 67, 71, 79, 95, 223, 479], [66, 70, 78, 94, 222, 478], [68, 69, 77, 93, 221, 477], [72, 73, 75, 91, 219, 475], [74, 90, 218, 474], [76, 92, 220, 476], [80, 81, 83, 87, 215, 471], [82, 86, 214, 470], [84, 85, 213, 469], [88, 89, 217, 473], [96, 97, 99, 103, 231, 487], [98, 102, 230, 486], [100, 101, 229, 485], [104, 105, 233, 489], [112, 113, 241, 497], [128, 129, 131, 135, 143, 159, 191, 447], [130, 134, 142, 158, 190, 446], [132, 133, 141, 157, 189, 445], [136, 137, 139, 155, 187, 443], [138, 154, 186, 442], [140, 156, 188, 444], [144, 145, 147, 151, 183, 439], [146, 150, 182, 438], [148, 149, 181, 437], [152, 153, 185, 441], [160, 161, 163, 167, 175, 431], [162, 166, 174, 430], [164, 165, 173, 429], [168, 169, 171, 427], [170, 426], [172, 428], [176, 177, 179, 435], [178, 434], [180, 436], [184, 440], [192, 193, 195, 199, 207, 463], [194, 198, 206, 462], [196, 197, 205, 461], [200, 201, 203, 459], [202, 458], [204, 460], [208, 209, 211, 467], [210, 466], [212, 468], [216, 472], [224, 225, 227, 483], [226, 482], [228, 484], [232, 488], [240, 496], [256, 257, 259, 263, 271, 287, 319, 383], [258, 262, 270, 286, 318, 382], [260, 261, 269, 285, 317, 381], [264, 265, 267, 283, 315, 379], [266, 282, 314, 378], [268, 284, 316, 380], [272, 273, 275, 279, 311, 375], [274, 278, 310, 374], [276, 277, 309, 373], [280, 281, 313, 377], [288, 289, 291, 295, 303, 367], [290, 294, 302, 366], [292, 293, 301, 365], [296, 297, 299, 363], [298, 362], [300, 364], [304, 305, 307, 371], [306, 370], [308, 372], [312, 376], [320, 321, 323, 327, 335, 351], [322, 326, 334, 350], [324, 325, 333, 349], [328, 329, 331, 347], [330, 346], [332, 348], [336, 337, 339, 343], [338, 342], [340, 341], [344, 345], [352, 353, 355, 359], [354, 358], [356, 357], [360, 361], [368, 369], [384, 385, 387, 391, 399, 415], [386, 390, 398, 414], [388, 389, 397, 413], [392, 393, 395, 411], [394, 410], [396, 412], [400, 401, 403, 407], [402, 406], [404, 405], [408, 409], [416, 417, 419, 423], [418, 422], [420, 421], [424, 425], [432, 433], [448, 449, 451, 455], [450, 454], [452, 453], [456, 457], [464, 465], [480, 481]]
set_option maxRecDepth 100000 in
theorem chains_cmp : (chains.all fun c => c.all fun x => c.all fun y => (x &&& y == x) || (x &&& y == y)) = true := by decide +kernel
set_option maxRecDepth 100000 in
theorem chains_all : ((List.range 512).all fun x => chains.any fun c => c.contains x) = true := by decide +kernel
theorem chains_len : chains.length = 126 := by decide +kernel
def chainOf (x : Nat) : Nat := chains.findIdx fun c => c.contains x
theorem chain_lt {x : Nat} (h : x < 512) : chainOf x < 126 := by
  have := List.all_eq_true.1 chains_all x (List.mem_range.2 h)
  obtain ⟨c, hc, hx⟩ := List.any_eq_true.1 this
  rw [← chains_len]
  exact List.findIdx_lt_length_of_exists ⟨c, hc, hx⟩
theorem chain_cmp {x y : Nat} (hx : x < 512) (hy : y < 512) (h : chainOf x = chainOf y) : x &&& y = x ∨ x &&& y = y := by
  have l1 : chainOf x < chains.length := by rw [chains_len]; exact chain_lt hx
  have l2 : chainOf y < chains.length := by rw [chains_len]; exact chain_lt hy
  have m1 : (chains[chainOf x]).contains x = true := List.findIdx_getElem (xs := chains) (p := fun c : List Nat => c.contains x) (w := l1)
  have m2 : (chains[chainOf y]).contains y = true := List.findIdx_getElem (xs := chains) (p := fun c : List Nat => c.contains y) (w := l2)
  have e : chains[chainOf y] = chains[chainOf x] := by congr 1; exact h.symm
  rw [e] at m2
  have hc := List.all_eq_true.1 (List.all_eq_true.1 (List.all_eq_true.1 chains_cmp _ (List.getElem_mem l1)) x (by simpa using m1)) y (by simpa using m2)
  rw [Bool.or_eq_true, beq_iff_eq, beq_iff_eq] at hc
  exact hc
theorem nodup_le : ∀ (n : Nat) (l : List Nat), l.Nodup → (∀ x ∈ l, x < n) → l.length ≤ n
  | 0, l, _, h => by cases l with | nil => simp | cons a l => exact absurd (h a (by simp)) (by omega)
  | n + 1, l, hn, h => by
    have h1 := nodup_le n (l.erase n) (hn.erase n) fun x hx => by
      have := h x (List.mem_of_mem_erase hx)
      have hne : x ≠ n := fun e => by subst e; exact hn.not_mem_erase hx
      omega
    have := List.length_erase (a := n) (l := l)
    split at this <;> omega
/-- A formed formula of few numbers has few parts. -/
theorem anti_le {f : Fml} {A : Prt} (hA : A.length ≤ 9) (hf : FormedP f) (hin : ∀ p ∈ f, ∀ n ∈ p, n ∈ A) : f.length ≤ 126 := by
  have h512 : ∀ p, maskA A p < 512 := fun p => Nat.lt_of_lt_of_le (mask_lt A p) (by rw [show 512 = 2 ^ 9 from rfl]; exact Nat.pow_le_pow_right (by decide) hA)
  have hnd : (f.map fun p => chainOf (maskA A p)).Nodup := by
    unfold List.Nodup
    rw [List.pairwise_map]
    refine List.Pairwise.imp_of_mem (R := lessP) (fun {a b} ha hb hl hc => ?_) hf.less
    have e : a = b := by
      rcases chain_cmp (h512 a) (h512 b) hc with h | h
      · exact hf.one hb ha (mask_sub (hin a ha) h)
      · rw [Nat.and_comm] at h; exact (hf.one ha hb (mask_sub (hin b hb) h)).symm
    subst e
    exact less_irrefl a hl
  have := nodup_le 126 _ hnd fun x hx => by
    obtain ⟨p, -, rfl⟩ := List.mem_map.1 hx
    exact chain_lt (h512 p)
  simpa using this
end Go.Proofs.Ytnpgllgmcdhmcaa.fo
