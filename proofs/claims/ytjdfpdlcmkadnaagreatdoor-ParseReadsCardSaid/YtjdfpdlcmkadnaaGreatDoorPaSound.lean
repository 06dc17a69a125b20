/- What the parser answers is plain; where it fails, the place lies in the text. In plain Lean. Conditions: none. -/
import Derived.Test.YtjdfpdlcmkadnaaGreatDoorPaBack
import Derived.Test.YtjdfpdlcmkadnaaGreatDoorPaParse
import Derived.Test.YtjdfpdlcmkadnaaGreatDoorLxJoin
import Derived.Test.YtjdfpdlcmkadnaaGreatDoorPrRef

namespace Go.Proofs.YtjdfpdlcmkadnaaGreatDoor.pa
open Go Go.Ev Go.Proofs Go.Proofs.YtjdfpdlcmkadnaaGreatDoor.lx Go.Proofs.YtjdfpdlcmkadnaaGreatDoor.tree
open Go.Proofs.YtjdfpdlcmkadnaaGreatDoor.pt (textR)

/-- Words and errors stand in the text. -/
def Pos (fin : Nat) (s : PS) : Prop := (∀ x ∈ s.l, x.1 ≤ fin) ∧ (s.e = 0 ∨ ((s.e = 2 ∨ s.e = 5 ∨ s.e = 8) ∧ 0 ≤ s.at_ ∧ s.at_ ≤ fin))
section
variable {fin : Nat} {s : PS}
theorem Pos.next (h : Pos fin s) : Pos fin (nextP s) := ⟨fun x hx => h.1 x (List.mem_of_mem_tail hx), h.2⟩
theorem Pos.close (h : Pos fin s) : Pos fin (closeP s) := h
theorem Pos.here (h : Pos fin s) : hereP fin s ≤ fin := by
  obtain ⟨l, d, a, e⟩ := s
  cases l with
  | nil => exact Nat.le_refl _
  | cons x l => exact h.1 x (by simp)
theorem Pos.head (h : Pos fin s) : (headW s).1 ≤ fin := by
  obtain ⟨l, d, a, e⟩ := s
  cases l with
  | nil => exact Nat.zero_le _
  | cons x l => exact h.1 x (by simp)
theorem Pos.fail {e at_ : Int} (h : Pos fin s) (he : e = 2 ∨ e = 5 ∨ e = 8) (ha : 0 ≤ at_ ∧ at_ ≤ fin) : Pos fin (failP e at_ s) := by
  unfold failP
  split
  · exact ⟨h.1, .inr ⟨he, ha⟩⟩
  · exact h
theorem Pos.enter {n : Nat} (h : Pos fin s) (hn : n ≤ fin) : Pos fin (enterP n s) := by
  unfold enterP
  split
  · exact Pos.fail (s := { s with deep := s.deep + 1 }) h (.inr (.inr rfl)) ⟨by omega, by omega⟩
  · exact h
end
theorem P_pos (fin : Nat) (defs : List (List UInt8 × Re)) : ∀ (k : Nat) (t : Task) (s : PS) (x : Re × PS), P fin defs k t s = some x → (∀ n, t = .inner n → n ≤ fin) → Pos fin s → Pos fin x.2 := by
  intro k
  induction k with
  | zero => intro t s x h; simp [P] at h
  | succ k ih =>
    intro t s x h hn hp
    cases t with
    | alt =>
      rw [P] at h
      obtain ⟨y, h1, h2⟩ := Option.bind_eq_some_iff.1 h
      exact ih _ _ _ h2 (by simp) (ih _ _ y h1 (by simp) hp)
    | altL acc =>
      rw [P] at h
      split at h
      · obtain ⟨y, h1, h2⟩ := Option.bind_eq_some_iff.1 h
        exact ih _ _ _ h2 (by simp) (ih _ _ y h1 (by simp) hp.next)
      · cases h; exact hp
    | both =>
      rw [P] at h
      obtain ⟨y, h1, h2⟩ := Option.bind_eq_some_iff.1 h
      exact ih _ _ _ h2 (by simp) (ih _ _ y h1 (by simp) hp)
    | bothL acc =>
      rw [P] at h
      split at h
      · obtain ⟨y, h1, h2⟩ := Option.bind_eq_some_iff.1 h
        exact ih _ _ _ h2 (by simp) (ih _ _ y h1 (by simp) hp.next)
      · cases h; exact hp
    | cat => rw [P] at h; exact ih _ _ _ h (by simp) hp
    | catL acc =>
      rw [P] at h
      split at h
      · obtain ⟨y, h1, h2⟩ := Option.bind_eq_some_iff.1 h
        exact ih _ _ _ h2 (by simp) (ih _ _ y h1 (by simp) hp)
      · cases h; exact hp
    | no =>
      rw [P] at h
      split at h
      · obtain ⟨y, h1, h2⟩ := Option.bind_eq_some_iff.1 h
        cases h2
        exact (ih _ _ y h1 (by simp) (hp.next.enter hp.head)).close
      · exact ih _ _ _ h (by simp) hp
    | post =>
      rw [P] at h
      obtain ⟨y, h1, h2⟩ := Option.bind_eq_some_iff.1 h
      exact ih _ _ _ h2 (by simp) (ih _ _ y h1 (by simp) hp)
    | postL r =>
      rw [P] at h
      split at h
      · exact ih _ _ _ h (by simp) hp.next
      · cases h; exact hp
    | atom =>
      have hh := hp.head
      have hh2 := hp.here
      rw [P] at h
      split at h
      · cases h; exact hp.fail (.inl rfl) ⟨by omega, by omega⟩
      split at h
      · cases h; exact hp.next
      split at h
      · exact ih _ _ _ h (by intro n e; cases e; exact hh) hp.next
      split at h
      · obtain ⟨y, h1, h2⟩ := Option.bind_eq_some_iff.1 h
        cases h2
        exact ih _ _ y h1 (by intro n e; cases e; exact hh) hp.next
      split at h
      · cases h; exact hp.next
      split at h
      · cases h; exact hp.next
      split at h
      · split at h
        · cases h; exact hp.next
        · cases h; exact hp.next.fail (.inr (.inl rfl)) ⟨by omega, by omega⟩
      · cases h; exact hp.fail (.inl rfl) ⟨by omega, by omega⟩
    | inner n =>
      rw [P] at h
      obtain ⟨y, h1, h2⟩ := Option.bind_eq_some_iff.1 h
      have h3 := (ih _ _ y h1 (by simp) (hp.enter (hn n rfl))).close
      have h4 := h3.here
      split at h2
      · cases h2; exact h3.fail (.inl rfl) ⟨by omega, by omega⟩
      · cases h2; exact h3.next

theorem fail_e {e at_ : Int} {s : PS} (he : e ≠ 0) : (failP e at_ s).e ≠ 0 := by
  unfold failP
  split
  · exact he
  · assumption
theorem enter_e {n : Int} {s : PS} (h : (enterP n s).e = 0) : s.e = 0 := by
  unfold enterP at h
  split at h
  · exact absurd h (fail_e (by decide))
  · exact h
def TaskPl : Task → Prop
  | .altL acc => acc ≠ [] ∧ ∀ p ∈ acc, Pl p
  | .bothL acc => acc ≠ [] ∧ ∀ p ∈ acc, Pl p
  | .catL acc => ∀ p ∈ acc, Pl p
  | .postL r => Pl r
  | _ => True
theorem join_pl {k : Int} (hk : k ≠ 0) {l : List Re} (hl : l ≠ []) (h : ∀ p ∈ l, Pl p) : Pl (joinR k l) := by
  match l, hl, h with
  | [p], _, h => exact h p (by simp)
  | p :: q :: l, _, h => exact .mk _ _ _ _ _ _ _ _ _ hk (fun _ => by simp) h
theorem snoc_pl {acc : List Re} {r : Re} (h : ∀ p ∈ acc, Pl p) (hr : Pl r) : ∀ p ∈ acc ++ [r], Pl p := by
  intro p hp
  rcases List.mem_append.1 hp with hp | hp
  · exact h p hp
  · rw [List.mem_singleton.1 hp]; exact hr
theorem P_plain (fin : Nat) : ∀ (k : Nat) (t : Task) (s : PS) (x : Re × PS), P fin [] k t s = some x → x.2.e = 0 → s.e = 0 ∧ (TaskPl t → Pl x.1) := by
  intro k
  induction k with
  | zero => intro t s x h; simp [P] at h
  | succ k ih =>
    intro t s x h h0
    cases t with
    | alt =>
      rw [P] at h
      obtain ⟨y, h1, h2⟩ := Option.bind_eq_some_iff.1 h
      have g2 := ih _ _ _ h2 h0
      have g1 := ih _ _ y h1 g2.1
      exact ⟨g1.1, fun _ => g2.2 ⟨by simp, by intro p hp; rw [List.mem_singleton.1 hp]; exact g1.2 trivial⟩⟩
    | altL acc =>
      rw [P] at h
      split at h
      · obtain ⟨y, h1, h2⟩ := Option.bind_eq_some_iff.1 h
        have g2 := ih _ _ _ h2 h0
        have g1 := ih _ _ y h1 g2.1
        exact ⟨g1.1, fun ht => g2.2 ⟨by simp, snoc_pl ht.2 (g1.2 trivial)⟩⟩
      · cases h; exact ⟨h0, fun ht => join_pl (by decide) ht.1 ht.2⟩
    | both =>
      rw [P] at h
      obtain ⟨y, h1, h2⟩ := Option.bind_eq_some_iff.1 h
      have g2 := ih _ _ _ h2 h0
      have g1 := ih _ _ y h1 g2.1
      exact ⟨g1.1, fun _ => g2.2 ⟨by simp, by intro p hp; rw [List.mem_singleton.1 hp]; exact g1.2 trivial⟩⟩
    | bothL acc =>
      rw [P] at h
      split at h
      · obtain ⟨y, h1, h2⟩ := Option.bind_eq_some_iff.1 h
        have g2 := ih _ _ _ h2 h0
        have g1 := ih _ _ y h1 g2.1
        exact ⟨g1.1, fun ht => g2.2 ⟨by simp, snoc_pl ht.2 (g1.2 trivial)⟩⟩
      · cases h; exact ⟨h0, fun ht => join_pl (by decide) ht.1 ht.2⟩
    | cat =>
      rw [P] at h
      have g := ih _ _ _ h h0
      exact ⟨g.1, fun _ => g.2 (by intro p hp; simp at hp)⟩
    | catL acc =>
      rw [P] at h
      split at h
      · obtain ⟨y, h1, h2⟩ := Option.bind_eq_some_iff.1 h
        have g2 := ih _ _ _ h2 h0
        have g1 := ih _ _ y h1 g2.1
        exact ⟨g1.1, fun ht => g2.2 (snoc_pl ht (g1.2 trivial))⟩
      · cases h
        refine ⟨h0, fun ht => ?_⟩
        show Pl (if acc = [] then leafR 1 else joinR 3 acc)
        split
        · exact Pl.leaf (.inl rfl)
        · rename_i hne; exact join_pl (by decide) hne ht
    | no =>
      rw [P] at h
      split at h
      · obtain ⟨y, h1, h2⟩ := Option.bind_eq_some_iff.1 h
        cases h2
        have g1 := ih _ _ y h1 h0
        exact ⟨(enter_e g1.1 : (nextP s).e = 0), fun _ => .mk _ _ _ _ _ _ _ _ _ (by decide) (by omega) (by intro p hp; rw [List.mem_singleton.1 hp]; exact g1.2 trivial)⟩
      · have g := ih _ _ _ h h0
        exact ⟨g.1, fun _ => g.2 trivial⟩
    | post =>
      rw [P] at h
      obtain ⟨y, h1, h2⟩ := Option.bind_eq_some_iff.1 h
      have g2 := ih _ _ _ h2 h0
      have g1 := ih _ _ y h1 g2.1
      exact ⟨g1.1, fun _ => g2.2 (g1.2 trivial)⟩
    | postL r =>
      rw [P] at h
      split at h
      · have g := ih _ _ _ h h0
        exact ⟨g.1, fun ht => g.2 (.mk _ _ _ _ _ _ _ _ _ (by decide) (by omega) (by intro p hp; rw [List.mem_singleton.1 hp]; exact ht))⟩
      · cases h; exact ⟨h0, fun ht => ht⟩
    | atom =>
      rw [P] at h
      split at h
      · cases h; exact absurd h0 (fail_e (by decide))
      split at h
      · cases h; exact ⟨h0, fun _ => .mk _ _ _ _ _ _ _ _ _ (by decide) (by omega) (by simp)⟩
      split at h
      · have g := ih _ _ _ h h0
        exact ⟨g.1, fun _ => g.2 trivial⟩
      split at h
      · obtain ⟨y, h1, h2⟩ := Option.bind_eq_some_iff.1 h
        cases h2
        have g := ih _ _ y h1 h0
        exact ⟨g.1, fun _ => .mk _ _ _ _ _ _ _ _ _ (by split <;> decide) (by split <;> omega) (by intro p hp; rw [List.mem_singleton.1 hp]; exact g.2 trivial)⟩
      split at h
      · cases h; exact ⟨h0, fun _ => Pl.leaf (.inr (.inr (.inl rfl)))⟩
      split at h
      · cases h; exact ⟨h0, fun _ => Pl.leaf (.inr (.inr (.inr rfl)))⟩
      split at h
      · split at h
        · rename_i hf; simp [findD] at hf
        · cases h; exact absurd h0 (fail_e (by decide))
      · cases h; exact absurd h0 (fail_e (by decide))
    | inner n =>
      rw [P] at h
      obtain ⟨y, h1, h2⟩ := Option.bind_eq_some_iff.1 h
      split at h2
      · cases h2; exact absurd h0 (fail_e (by decide))
      · cases h2
        have g := ih _ _ y h1 h0
        exact ⟨enter_e g.1, fun _ => g.2 trivial⟩

theorem goT_bad : ∀ (k : Nat) (r : List UInt8) (n : Nat) (out : List (Nat × W)) (p : Nat), goT k r n out = .inr p → r.length < k → p ≤ n + r.length := by
  intro k
  induction k with
  | zero => intro r n out p _ h; omega
  | succ k ih =>
    intro r n out p h hk
    cases r with
    | nil => rw [goT] at h; cases h
    | cons c r =>
      simp only [goT] at h
      simp only [List.length_cons] at hk ⊢
      have hlen := stepT_len (c :: r)
      simp only [List.length_cons] at hlen
      split at h
      · have := ih _ _ _ _ h (by omega); omega
      split at h
      · cases h; omega
      · have := ih _ _ _ _ h (by rw [List.length_drop, List.length_cons]; omega)
        rw [List.length_drop, List.length_cons] at this; omega
theorem parse_run (s : List UInt8) (h0 : (outT s).2.2 = 0) : ∃ x, P s.length [] (16 * (outT s).1.length + 8) .alt (startP (outT s).1) = some x ∧ parseT s [] = checkP x.1 (endP s.length x.2) := by
  obtain ⟨x, hx⟩ := P_total s.length [] (16 * (outT s).1.length + 8) .alt (startP (outT s).1) (by have := lft_le (startP (outT s).1); simp only [startP, rank] at this ⊢; omega)
  refine ⟨x, hx, ?_⟩
  unfold parseT
  rw [if_neg (fun h => h h0), hx]
theorem parse_bad (s : List UInt8) (hs : s.length ≤ 10000) (h : (parseT s []).2.2 ≠ 0) :
    (parseT s []).1 = leafR 0 ∧ (0 ≤ (parseT s []).2.1 ∧ (parseT s []).2.1 ≤ s.length) ∧ ((parseT s []).2.2 = 2 ∨ (parseT s []).2.2 = 5 ∨ (parseT s []).2.2 = 8 ∨ (parseT s []).2.2 = 9) := by
  by_cases h0 : (outT s).2.2 = 0
  · obtain ⟨x, hx, e⟩ := parse_run s h0
    obtain ⟨a, ha1, ha2⟩ := out_words hs h0
    have hpos : Pos s.length (startP (outT s).1) := ⟨by
      rw [ha2]
      exact goT_pos s.length _ _ _ _ _ ha1 (by omega) (by simp), .inl rfl⟩
    have hx2 := P_pos _ _ _ _ _ _ hx (by simp) hpos
    have he : Pos s.length (endP s.length x.2) := by
      unfold endP
      split
      · exact hx2.fail (.inl rfl) ⟨by omega, by have := hx2.here; omega⟩
      · exact hx2
    rw [e] at h ⊢
    unfold checkP at h ⊢
    split
    · rename_i hne
      rcases he.2 with e0 | ⟨e1, e2⟩
      · exact absurd e0 hne
      · exact ⟨rfl, e2, by show (endP s.length x.2).e = 2 ∨ (endP s.length x.2).e = 5 ∨ (endP s.length x.2).e = 8 ∨ (endP s.length x.2).e = 9; omega⟩
    · rename_i hne
      rw [if_neg hne] at h
      split
      · exact ⟨rfl, ⟨Int.le_refl _, by simp only; omega⟩, by simp⟩
      · rename_i hne2
        rw [if_neg hne2] at h
        split
        · exact ⟨rfl, ⟨Int.le_refl _, by simp only; omega⟩, by simp⟩
        · rename_i hne3
          rw [if_neg hne3] at h
          split
          · rename_i hf; rw [if_pos hf] at h; exact absurd rfl h
          · exact ⟨rfl, ⟨Int.le_refl _, by simp only; omega⟩, by simp⟩
  · unfold parseT
    rw [if_pos h0]
    unfold outT at h0 ⊢
    rw [if_neg (by omega)] at h0 ⊢
    cases hw : wordsT s with
    | inl a => rw [hw] at h0; exact absurd rfl h0
    | inr p =>
      have := goT_bad _ _ _ _ _ hw (by omega)
      exact ⟨rfl, ⟨by simp only; omega, by simp only; omega⟩, by simp⟩
theorem parse_good (s : List UInt8) (h : (parseT s []).2.2 = 0) : formedR (parseT s []).1 = true ∧ (parseT s []).2.1 = 0 ∧ Pl (parseT s []).1 := by
  by_cases h0 : (outT s).2.2 = 0
  · obtain ⟨x, hx, e⟩ := parse_run s h0
    rw [e] at h ⊢
    unfold checkP at h ⊢
    split
    · rename_i hne; rw [if_pos hne] at h; exact absurd h hne
    rename_i he
    rw [if_neg he] at h
    split
    · rename_i hne; rw [if_pos hne] at h; exact absurd h (by decide)
    rename_i h2
    rw [if_neg h2] at h
    split
    · rename_i hne; rw [if_pos hne] at h; exact absurd h (by decide)
    rename_i h3
    rw [if_neg h3] at h
    split
    · rename_i hf
      refine ⟨hf, rfl, ?_⟩
      have he0 : (endP s.length x.2).e = 0 := by omega
      have hx0 : x.2.e = 0 := by
        unfold endP at he0
        split at he0
        · exact absurd he0 (fail_e (by decide))
        · exact he0
      exact (P_plain _ _ _ _ _ hx hx0).2 trivial
    · rename_i hf; rw [if_neg hf] at h; exact absurd h (by decide)
  · unfold parseT at h
    rw [if_pos h0] at h
    exact absurd h h0
theorem parse_back (r : Re) (hr : Rd r) (hf : formedR r = true) (ho : openR r ≤ 40) (hl : (textR r).length ≤ 10000) : parseT (textR r) [] = (r, 0, 0) := by
  obtain ⟨k', l, h1, h2, h3⟩ := read_text r hr ((textR r).length + 1) [] 0 [] (by simp)
  rw [List.append_nil, List.nil_append, Nat.zero_add] at h3
  have hw : outT (textR r) = (l, 0, 0) := by
    unfold outT wordsT
    rw [if_neg (by omega), h3]
    cases k' with
    | zero => exact absurd h1 (by simp)
    | succ k' => rfl
  have h0 : (outT (textR r)).2.2 = 0 := by rw [hw]
  obtain ⟨x, hx, e⟩ := parse_run (textR r) h0
  rw [hw] at hx
  obtain ⟨k, hb⟩ := back (fin := (textR r).length) (ds := []) r hr l [] 0 0 h2 (by omega) (.inl rfl)
  rw [List.append_nil] at hb
  have a1 := P_more _ _ (Nat.le_max_left k (16 * l.length + 8)) hb
  have a2 := P_more _ _ (Nat.le_max_right k (16 * l.length + 8)) hx
  have ex : x = (r, S [] 0 0) := Option.some.inj (a2.symm.trans a1)
  subst ex
  simp only [formedR, Bool.and_eq_true, decide_eq_true_eq] at hf
  rw [e]
  show checkP r (endP (textR r).length (S [] 0 0)) = _
  unfold endP
  rw [if_neg (fun h => h rfl)]
  unfold checkP
  rw [if_neg (fun h => h rfl), if_neg (by omega), if_neg (by omega), if_pos (by simp only [formedR, Bool.and_eq_true, decide_eq_true_eq]; exact hf)]
theorem nodes_size (r : Re) : sizeR r ≤ 1000 → pt.nodesR r ≤ sizeR r := by
  induction r using Re.ind with
  | h k s0 s1 s2 s3 rs lo hi neg ih =>
    intro h
    simp only [sizeR, capR] at h ⊢
    have ht := timesR_pos k lo hi
    split at h
    · omega
    · rename_i hs
      rw [if_neg hs]
      have hm : (sizeL rs : Int) * 1 ≤ (sizeL rs : Int) * timesR k lo hi := Int.mul_le_mul_of_nonneg_left (by omega) (by omega)
      have h1 : sizeL rs ≤ 999 := by omega
      have hp : ∀ p ∈ rs, sizeR p ≤ sizeL rs := fun p hp => sizeL_mem hp
      have hn : pt.nodesL rs ≤ sizeL rs := by
        clear hm h hs
        induction rs with
        | nil => simp [pt.nodesL]
        | cons p l ih2 =>
          have g1 := ih p (by simp) (by have := hp p (by simp); omega)
          have g2 : sizeL (p :: l) = sizeR p + sizeL l := rfl
          have g3 := ih2 (fun q hq => ih q (by simp [hq])) (by omega) (fun q hq => sizeL_mem hq)
          simp only [pt.nodesL]; omega
      simp only [pt.nodesR]; omega
theorem open_nodes (r : Re) : openR r ≤ 2 * pt.nodesR r := by
  induction r using Re.ind with
  | h k s0 s1 s2 s3 rs lo hi neg ih =>
    have : ∀ (l : List Re) (n : Nat), (∀ p ∈ l, openR p ≤ 2 * pt.nodesR p) → openL l n ≤ max n (2 * pt.nodesL l + 1) := by
      intro l
      induction l with
      | nil => intro n _; simp only [openL]; omega
      | cons p l ih2 =>
        intro n hp
        have h1 := hp p (by simp)
        have h2 := ih2 (max n (openR p + 1)) (fun q hq => hp q (by simp [hq]))
        simp only [openL, pt.nodesL]
        omega
    have := this rs 0 ih
    simp only [openR, pt.nodesR]
    split <;> omega
end Go.Proofs.YtjdfpdlcmkadnaaGreatDoor.pa
