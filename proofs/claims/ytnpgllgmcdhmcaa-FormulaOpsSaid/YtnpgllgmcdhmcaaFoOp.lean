/- Formulas: the document's chosen, Make, walked. Conditions: none. -/
import Derived.Test.YtnpgllgmcdhmcaaFoAtoms
import Derived.Test.YtnpgllgmcdhmcaaFoOps

namespace Go.Proofs.Ytnpgllgmcdhmcaa.fo
open Go Go.Ev Go.Proofs

set_option maxRecDepth 100000 in
theorem shr_all : ((List.range 512).all fun b => (List.range 9).all fun i => decide (((b : Nat) : Int).fdiv (2 ^ (min i 64)) = ((b / 2 ^ i : Nat) : Int))) = true := by decide +kernel
set_option maxRecDepth 100000 in
theorem and_all : ((List.range 512).all fun b => decide (bitsOf .and .i64 ((b : Nat) : Int) 1 = ((b % 2 : Nat) : Int))) = true := by decide +kernel
set_option maxRecDepth 100000 in
theorem xor_all : ((List.range 512).all fun b => (List.range 9).all fun i => decide (bitsOf .xor .i64 ((b : Nat) : Int) ((2 ^ i : Nat) : Int) = ((b ^^^ 2 ^ i : Nat) : Int))) = true := by decide +kernel
set_option maxRecDepth 100000 in
theorem shl_all : ((List.range 10).all fun i => decide (IntKind.wrap .i64 (1 * 2 ^ (min i 64)) = ((2 ^ i : Nat) : Int))) = true := by decide +kernel
theorem shr_b {b i : Nat} (hb : b < 512) (hi : i < 9) : ((b : Nat) : Int).fdiv (2 ^ (min ((i : Nat) : Int).toNat (IntKind.bits .i64))) = ((b / 2 ^ i : Nat) : Int) := by
  have := of_decide_eq_true (List.all_eq_true.1 (List.all_eq_true.1 shr_all b (List.mem_range.2 hb)) i (List.mem_range.2 hi))
  rw [Int.toNat_natCast]; exact this
theorem and_b {b : Nat} (hb : b < 512) : bitsOf .and .i64 ((b : Nat) : Int) 1 = ((b % 2 : Nat) : Int) := of_decide_eq_true (List.all_eq_true.1 and_all b (List.mem_range.2 hb))
theorem xor_b {b i : Nat} (hb : b < 512) (hi : i < 9) : bitsOf .xor .i64 ((b : Nat) : Int) ((2 ^ i : Nat) : Int) = ((b ^^^ 2 ^ i : Nat) : Int) :=
  of_decide_eq_true (List.all_eq_true.1 (List.all_eq_true.1 xor_all b (List.mem_range.2 hb)) i (List.mem_range.2 hi))
theorem shl_b {i : Nat} (hi : i < 10) : IntKind.wrap .i64 (1 * 2 ^ (min ((i : Nat) : Int).toNat (IntKind.bits .i64))) = ((2 ^ i : Nat) : Int) := by
  have := of_decide_eq_true (List.all_eq_true.1 shl_all i (List.mem_range.2 hi))
  rw [Int.toNat_natCast]; exact this
theorem bit_test {b i : Nat} : decide ((((b / 2 ^ i) % 2 : Nat) : Int) = 1) = b.testBit i := by
  rw [Nat.testBit_eq_decide_div_mod_eq]
  by_cases h : b / 2 ^ i % 2 = 1
  · rw [decide_eq_true h, decide_eq_true (by omega)]
  · rw [decide_eq_false h, decide_eq_false (by omega)]

set_option maxHeartbeats 1000000 in
theorem chosen_fn (m : Mem) (v : Value) (l : Prt) (b : Nat) (h : SlI m .i64 v l) (hl : l.length ≤ 9) (hb : b < 512) :
    Fn0 Try.prog 31 [v, .int .i64 b] m fun m' u => SlI m' .i64 u (chosenP l b) := by
  have hmx : maxLen = 9223372036854775807 := rfl
  obtain ⟨A, n, c, rfl, hn, -⟩ := id h
  have he := h.cell.2
  subst hn
  refine Fn.enter (N := 27) hX Try.func31 rfl rfl (by show _ ≤ _; simp) (fun w0 hL => ?_)
  conv => whnf
  conv => whnf
  repeat ((first | refine zT ?_ | refine zF ?_ | refine zL hX hL ?_ | refine zB hX hL ?_ | (refine zS hX hL ?_; clear hL; intro w hL) | refine zI ?_ | refine zG hX ?_ | refine zO ?_); conv => whnf)
  refine LoopReq.inv hX (fun s : Nat × Option Addr × Nat × Nat => [(5, .slice s.2.1 s.2.2.1 s.2.2.2), (9, .int .i64 s.1)]) [0, 1, 8]
    (fun s w => s.1 ≤ l.length ∧ ∃ L1, OwnS 3 1 (.slice s.2.1 s.2.2.1 s.2.2.2) (ints .i64 (chosenP (l.take s.1) b)) L1 ∧ Ev.Loc m [] w0 m L1 w) (fun s => l.length - s.1) (0, none, 0, 0)
    ⟨Nat.zero_le _, [], OwnS.nil _ _, hL⟩ ⟨rfl, rfl, trivial⟩ ?_
  clear hL
  rintro ⟨i, Ao, no, co⟩ w e ⟨hi, L1, ho, hL⟩
  simp only at hi ho
  conv => whnf
  repeat ((first | refine zT ?_ | refine zF ?_ | refine zL hX hL ?_ | refine zB hX hL ?_ | (refine zS hX hL ?_; clear hL; intro w hL) | refine zI ?_ | refine zG hX ?_ | refine zO ?_); conv => whnf)
  refine BrReq.dec (fun hlt => ?_) (fun hlt => ?_)
  · have hi1 : i < l.length := by simp only at hlt; omega
    have hcs : chosenP (l.take (i + 1)) b = chosenP (l.take i) b ++ (if b.testBit i = true then [l[i]] else []) := by
      rw [take_succ' hi1, chosen_snoc, List.length_take, Nat.min_eq_left (by omega)]
    have hlen : (chosenP (l.take i) b).length ≤ 9 := Nat.le_trans (chosen_sub _ _).length_le (by rw [List.length_take]; omega)
    conv => whnf
    repeat ((first | (refine ArReq.keep (k := .u64) (by show (0 : Int) ≤ _; simp only; omega) (by show _ ≤ (18446744073709551615 : Int); simp only; omega) ?_) | (refine ShrReq.mk (n := ((b / 2 ^ i : Nat) : Int)) (by simp only; omega) (shr_b hb (by omega)) ?_) | (refine BitReq.mk (and_b (by have := Nat.div_le_self b (2 ^ i); omega)) ?_) | refine zT ?_ | refine zF ?_ | refine zL hX hL ?_ | refine zB hX hL ?_ | (refine zS hX hL ?_; clear hL; intro w hL) | refine zI ?_ | refine zG hX ?_ | refine zO ?_); conv => whnf)
    rw [bit_test]
    refine BrReq.bool (fun hbt => ?_) (fun hbt => ?_)
    · rw [hbt, if_pos rfl] at hcs
      obtain ⟨a3, ea, hx3⟩ := he i _ (List.getElem?_eq_getElem hi1)
      conv => whnf
      repeat ((first | (refine Idx2Req.mk i a3 rfl (by simp only at hlt ⊢; omega) ea ?_) | (refine LdReq.one hX rfl rfl hL (by rw [scale_eq, Nat.mul_one]; exact hx3) ?_) | refine zT ?_ | refine zF ?_ | refine zL hX hL ?_ | refine zB hX hL ?_ | (refine zS hX hL ?_; clear hL; intro w hL) | refine zI ?_ | refine zG hX ?_ | refine zO ?_); conv => whnf)
      refine NewReq.mk hL ?_
      clear hL
      intro b23 w hL
      conv => whnf
      replace hL : Ev.Loc m [] w0 m ((b23, .cells (toArr [.int .i64 l[i]]) 3 (0, 0)) :: (L1 ++ [])) w := by rw [List.append_nil]; exact hL
      conv => whnf
      repeat ((first | refine zT ?_ | refine zF ?_ | refine zL hX hL ?_ | refine zB hX hL ?_ | (refine zS hX hL ?_; clear hL; intro w hL) | refine zI ?_ | refine zG hX ?_ | refine zO ?_); conv => whnf)
      refine RunReq.push hX 34 3 rfl rfl rfl rfl rfl ho (L2 := []) hL rfl rfl (by simp only [ints, List.length_map]; omega) rfl ?_
      clear hL
      intro A4 n4 c4 L4 w hn4 ho4 hL
      rw [List.append_nil] at hL
      have ho5 : OwnS 3 1 (.slice A4 n4 c4) (ints .i64 (chosenP (l.take (i + 1)) b)) L4 := by rw [hcs, ints_append]; exact ho4
      conv => whnf
      repeat ((first | refine zT ?_ | refine zF ?_ | refine zL hX hL ?_ | refine zB hX hL ?_ | (refine zS hX hL ?_; clear hL; intro w hL) | refine zI ?_ | refine zG hX ?_ | refine zO ?_); conv => whnf)
      refine ⟨(i + 1, A4, n4, c4), ⟨by simp only; omega, L4, ho5, hL⟩, by first | omega | (simp only; omega) | (simp only [List.length_cons, List.length_append]; omega), ?_, ?_⟩
      · repeat (first | exact trivial | (refine And.intro (by (conv => lhs; whnf) <;> (conv => rhs; whnf) <;> (first | rfl)) ?_))
      · repeat (first | exact trivial | (refine And.intro (by (conv => lhs; whnf) <;> (conv => rhs; whnf) <;> (first | rfl)) ?_))
    · rw [hbt, if_neg (by decide), List.append_nil] at hcs
      have ho5 : OwnS 3 1 (.slice Ao no co) (ints .i64 (chosenP (l.take (i + 1)) b)) L1 := by rw [hcs]; exact ho
      conv => whnf
      repeat ((first | refine zT ?_ | refine zF ?_ | refine zL hX hL ?_ | refine zB hX hL ?_ | (refine zS hX hL ?_; clear hL; intro w hL) | refine zI ?_ | refine zG hX ?_ | refine zO ?_); conv => whnf)
      refine ⟨(i + 1, Ao, no, co), ⟨by simp only; omega, L1, ho5, hL⟩, by first | omega | (simp only; omega) | (simp only [List.length_cons, List.length_append]; omega), ?_, ?_⟩
      · repeat (first | exact trivial | (refine And.intro (by (conv => lhs; whnf) <;> (conv => rhs; whnf) <;> (first | rfl)) ?_))
      · repeat (first | exact trivial | (refine And.intro (by (conv => lhs; whnf) <;> (conv => rhs; whnf) <;> (first | rfl)) ?_))
  · have ei : i = l.length := by simp only at hlt; omega
    subst ei
    rw [List.take_length] at ho
    rw [← List.append_nil L1] at hL
    obtain ⟨m1, hL1, hm1, hs⟩ := OwnS.freeze ho hL
    conv => whnf
    repeat ((first | refine zT ?_ | refine zF ?_ | refine zL hX hL ?_ | refine zB hX hL ?_ | (refine zS hX hL ?_; clear hL; intro w hL) | refine zI ?_ | refine zG hX ?_ | refine zO ?_); conv => whnf)
    exact RetReq.mk hL1 ⟨rfl, hs⟩

/-- The cells of a formula, one of each part. -/
theorem fm_heads {m : Mem} {A : Option Addr} {n c : Nat} {f : List (List Int)} (h : FmV m (.slice A n c) f) :
    ∃ vs : List Value, vs.length = n ∧ (∀ u ∈ vs, u.oneCell' = true) ∧ HdF m vs f ∧ ∀ (j : Nat) (u : Value), vs[j]? = some u → ∃ a, A = some a ∧ mcell m (a.add j) = some u := by
  have hn : n = f.length := h.lens.1
  obtain ⟨vs, h1, h2⟩ := list_of (Q := fun i (u : Value) => ∃ a A' n' c', A = some a ∧ mcell m (a.add i) = some u ∧ u = .slice A' n' c' ∧ ∀ p, f[i]? = some p → SlI m .i64 u p) n fun i hi => by
    have hi' : i < f.length := by omega
    obtain ⟨a, A', n', c', e1, e2, e3⟩ := h.at_ hi'
    refine ⟨_, a, A', n', c', e1, by rw [scale_eq, Nat.mul_one] at e2; exact e2, rfl, fun p hp => ?_⟩
    rw [List.getElem?_eq_getElem hi'] at hp
    cases hp; exact e3
  refine ⟨vs, h1, fun u hu => ?_, ⟨by omega, fun i p hp => ?_⟩, fun j u hu => ?_⟩
  · obtain ⟨i, hi, rfl⟩ := List.getElem_of_mem hu
    obtain ⟨_, _, _, _, _, _, e, _⟩ := h2 i _ (List.getElem?_eq_getElem hi)
    rw [e]; rfl
  · have hi : i < vs.length := by have := (List.getElem?_eq_some_iff.1 hp).1; omega
    obtain ⟨_, _, _, _, _, _, _, e⟩ := h2 i _ (List.getElem?_eq_getElem hi)
    exact ⟨_, List.getElem?_eq_getElem hi, e p hp⟩
  · obtain ⟨a, _, _, _, e1, e2, _⟩ := h2 j u hu
    exact ⟨a, e1, e2⟩
/-- A table of truths. -/
def BlV (m : Mem) (v : Value) (N : Nat) (H : Nat → Bool) : Prop := ∃ A c, v = .slice A N c ∧ ∀ i, i < N → ∃ a, A = some a ∧ mcell m (a.add (scale i 1)) = some (.bool (H i))

set_option maxHeartbeats 4000000 in
set_option maxRecDepth 20000 in
theorem make_fn (m : Mem) (v1 v2 : Value) (A : Prt) (H : Nat → Bool) (h1 : SlI m .i64 v1 A) (h2 : BlV m v2 (2 ^ A.length) H) (hA : A.length ≤ 9) (hlt : A.Pairwise (· < ·)) :
    Fn0 Try.prog 32 [v1, v2] m fun m' u => ∃ r, FmV m' u r ∧ MkI A H r (2 ^ A.length) := by
  have hmx : maxLen = 9223372036854775807 := rfl
  obtain ⟨A1, n1, c1, rfl, hn1, -⟩ := id h1
  obtain ⟨A2, c2, rfl, hb2⟩ := h2
  have h512 : 2 ^ A.length ≤ 512 := by rw [show 512 = 2 ^ 9 from rfl]; exact Nat.pow_le_pow_right (by decide) hA
  generalize hN : 2 ^ A.length = N at h512 hb2 ⊢
  subst hn1
  refine Fn.enter (N := 75) hX Try.func32 rfl rfl (by show _ ≤ _; simp) (fun w0 hL => ?_)
  conv => whnf
  conv => whnf
  repeat ((first | refine zT ?_ | refine zF ?_ | refine zL hX hL ?_ | refine zB hX hL ?_ | (refine zS hX hL ?_; clear hL; intro w hL) | refine zI ?_ | refine zG hX ?_ | refine zO ?_); conv => whnf)
  refine LoopReq.inv hX (fun s : Nat × Option Addr × Nat × Nat => [(5, .slice s.2.1 s.2.2.1 s.2.2.2), (13, .int .i64 s.1)]) [0, 1, 12]
    (fun s w => s.1 ≤ N ∧ ∃ mm r, Mem.Le m mm ∧ FmV mm (.slice s.2.1 s.2.2.1 s.2.2.2) r ∧ MkI A H r s.1 ∧ Ev.Loc m [] w0 mm [] w) (fun s => N - s.1) (0, none, 0, 0)
    ⟨Nat.zero_le _, m, [], Mem.Le.refl _, Sl.nil _ _ _, MkI.start A H, hL⟩ ⟨rfl, rfl, trivial⟩ ?_
  clear hL
  rintro ⟨B, Ao, no, co⟩ w f ⟨hB, mm, r, hle, hr, hmk, hL⟩
  simp only at hB hr hmk
  conv => whnf
  repeat ((first | refine zT ?_ | refine zF ?_ | refine zL hX hL ?_ | refine zB hX hL ?_ | (refine zS hX hL ?_; clear hL; intro w hL) | refine zI ?_ | refine zG hX ?_ | refine zO ?_); conv => whnf)
  refine BrReq.dec (fun hlt1 => ?_) (fun hlt1 => ?_)
  rotate_left
  · have eB : B = N := by simp only at hlt1; omega
    rw [eB] at hmk
    conv => whnf
    repeat ((first | refine zT ?_ | refine zF ?_ | refine zL hX hL ?_ | refine zB hX hL ?_ | (refine zS hX hL ?_; clear hL; intro w hL) | refine zI ?_ | refine zG hX ?_ | refine zO ?_); conv => whnf)
    exact RetReq.mk hL ⟨rfl, r, hr, hmk⟩
  have hB1 : B < N := by simp only at hlt1; omega
  obtain ⟨aB, eB, hxB⟩ := hb2 B hB1
  conv => whnf
  repeat ((first | refine Idx2Req.mk B aB rfl hB1 eB ?_ | refine LdReq.one hX rfl rfl hL (Ev.mcell_le hle hxB) ?_ | refine zT ?_ | refine zF ?_ | refine zL hX hL ?_ | refine zB hX hL ?_ | (refine zS hX hL ?_; clear hL; intro w hL) | refine zI ?_ | refine zG hX ?_ | refine zO ?_); conv => whnf)
  refine LoopReq.inv hX (fun s : Nat × Bool => [(7, .bool s.2), (22, .int .i64 s.1)]) [0, 1, 5, 6, 12, 13, 21]
    (fun s w => s.1 ≤ A.length ∧ (s.2 = true ↔ H B = true ∧ ∀ k, k < s.1 → B.testBit k = true → H (B ^^^ 2 ^ k) = false) ∧ Ev.Loc m [] w0 mm [] w) (fun s => A.length - s.1) (0, H B)
    ⟨Nat.zero_le _, ⟨fun h => ⟨h, fun k hk => by simp only at hk; omega⟩, fun h => h.1⟩, hL⟩ (by exact ⟨rfl, rfl, trivial⟩) ?_
  clear hL
  rintro ⟨i, ls⟩ w g ⟨hi, hls, hL⟩
  simp only at hi hls
  conv => whnf
  repeat ((first | refine zT ?_ | refine zF ?_ | refine zL hX hL ?_ | refine zB hX hL ?_ | (refine zS hX hL ?_; clear hL; intro w hL) | refine zI ?_ | refine zG hX ?_ | refine zO ?_); conv => whnf)
  refine BrReq.dec (fun hlt2 => ?_) (fun hlt2 => ?_)
  · have hi1 : i < A.length := by simp only at hlt2; omega
    have hstay : ∀ _ : (B.testBit i = true → H (B ^^^ 2 ^ i) = false), (ls = true ↔ H B = true ∧ ∀ k, k < i + 1 → B.testBit k = true → H (B ^^^ 2 ^ k) = false) := fun hk => hls.trans
      ⟨fun ⟨x, y⟩ => ⟨x, fun k hk2 => by by_cases e : k = i; (subst e; exact hk); exact y k (by omega)⟩, fun ⟨x, y⟩ => ⟨x, fun k hk2 => y k (by omega)⟩⟩
    conv => whnf
    repeat ((first | (refine ArReq.keep (k := .u64) (by show (0 : Int) ≤ _; simp only; omega) (by show _ ≤ (18446744073709551615 : Int); simp only; omega) ?_) | (refine ShrReq.mk (n := ((B / 2 ^ i : Nat) : Int)) (by simp only; omega) (shr_b (by omega) (by omega)) ?_) | (refine BitReq.mk (and_b (by have := Nat.div_le_self B (2 ^ i); omega)) ?_) | refine zT ?_ | refine zF ?_ | refine zL hX hL ?_ | refine zB hX hL ?_ | (refine zS hX hL ?_; clear hL; intro w hL) | refine zI ?_ | refine zG hX ?_ | refine zO ?_); conv => whnf)
    rw [bit_test]
    refine BrReq.bool (fun hbt => ?_) (fun hbt => ?_)
    · rw [hbt]
      have hxl : B ^^^ 2 ^ i < N := by rw [← hN] at hB1 ⊢; exact xor_lt hB1 hi1
      obtain ⟨aX, eX, hxX⟩ := hb2 (B ^^^ 2 ^ i) hxl
      conv => whnf
      repeat ((first | (refine ArReq.keep (k := .u64) (by show (0 : Int) ≤ _; simp only; omega) (by show _ ≤ (18446744073709551615 : Int); simp only; omega) ?_) | (refine ShlReq.mk (n := ((2 ^ i : Nat) : Int)) (by simp only; omega) (shl_b (by omega)) ?_) | refine BitReq.mk (xor_b (by omega) (by omega)) ?_ | refine Idx2Req.mk (B ^^^ 2 ^ i) aX rfl hxl eX ?_ | refine LdReq.one hX rfl rfl hL (Ev.mcell_le hle hxX) ?_ | refine zT ?_ | refine zF ?_ | refine zL hX hL ?_ | refine zB hX hL ?_ | (refine zS hX hL ?_; clear hL; intro w hL) | refine zI ?_ | refine zG hX ?_ | refine zO ?_); conv => whnf)
      refine BrReq.bool (fun hhx => ?_) (fun hhx => ?_)
      · have hgone : (false = true ↔ H B = true ∧ ∀ k, k < i + 1 → B.testBit k = true → H (B ^^^ 2 ^ k) = false) :=
          ⟨fun h => by (cases h), fun h => by
            have h3 := h.2 i (Nat.lt_succ_self _) hbt
            rw [hhx] at h3; cases h3⟩
        conv => whnf
        repeat ((first | refine zT ?_ | refine zF ?_ | refine zL hX hL ?_ | refine zB hX hL ?_ | (refine zS hX hL ?_; clear hL; intro w hL) | refine zI ?_ | refine zG hX ?_ | refine zO ?_); conv => whnf)
        refine ⟨(i + 1, false), ⟨by simp only; omega, hgone, hL⟩, by first | omega | (simp only; omega) | (simp only [List.length_cons, List.length_append]; omega), ?_, ?_⟩
        · repeat (first | exact trivial | (refine And.intro (by (conv => lhs; whnf) <;> (conv => rhs; whnf) <;> (first | rfl)) ?_))
        · repeat (first | exact trivial | (refine And.intro (by (conv => lhs; whnf) <;> (conv => rhs; whnf) <;> (first | rfl)) ?_))
      · have hs2 := hstay fun _ => hhx
        conv => whnf
        repeat ((first | refine zT ?_ | refine zF ?_ | refine zL hX hL ?_ | refine zB hX hL ?_ | (refine zS hX hL ?_; clear hL; intro w hL) | refine zI ?_ | refine zG hX ?_ | refine zO ?_); conv => whnf)
        refine ⟨(i + 1, ls), ⟨by simp only; omega, hs2, hL⟩, by first | omega | (simp only; omega) | (simp only [List.length_cons, List.length_append]; omega), ?_, ?_⟩
        · repeat (first | exact trivial | (refine And.intro (by (conv => lhs; whnf) <;> (conv => rhs; whnf) <;> (first | rfl)) ?_))
        · repeat (first | exact trivial | (refine And.intro (by (conv => lhs; whnf) <;> (conv => rhs; whnf) <;> (first | rfl)) ?_))
    · have hs2 := hstay fun h => by (rw [hbt] at h; cases h)
      rw [hbt]
      conv => whnf
      repeat ((first | refine zT ?_ | refine zF ?_ | refine zL hX hL ?_ | refine zB hX hL ?_ | (refine zS hX hL ?_; clear hL; intro w hL) | refine zI ?_ | refine zG hX ?_ | refine zO ?_); conv => whnf)
      refine ⟨(i + 1, ls), ⟨by simp only; omega, hs2, hL⟩, by first | omega | (simp only; omega) | (simp only [List.length_cons, List.length_append]; omega), ?_, ?_⟩
      · repeat (first | exact trivial | (refine And.intro (by (conv => lhs; whnf) <;> (conv => rhs; whnf) <;> (first | rfl)) ?_))
      · repeat (first | exact trivial | (refine And.intro (by (conv => lhs; whnf) <;> (conv => rhs; whnf) <;> (first | rfl)) ?_))
  have ei : i = A.length := by simp only at hlt2; omega
  subst ei
  change ls = true ↔ Least A.length H B at hls
  conv => whnf
  repeat ((first | refine zT ?_ | refine zF ?_ | refine zL hX hL ?_ | refine zB hX hL ?_ | (refine zS hX hL ?_; clear hL; intro w hL) | refine zI ?_ | refine zG hX ?_ | refine zO ?_); conv => whnf)
  refine BrReq.not ?_
  refine BrReq.bool (fun hlt3 => ?_) (fun hlt3 => ?_)
  rotate_left
  · have hmk' := hmk.skip (fun h => by rw [hls.2 h] at hlt3; cases hlt3)
    conv => whnf
    repeat ((first | refine zT ?_ | refine zF ?_ | refine zL hX hL ?_ | refine zB hX hL ?_ | (refine zS hX hL ?_; clear hL; intro w hL) | refine zI ?_ | refine zG hX ?_ | refine zO ?_); conv => whnf)
    refine ⟨(B + 1, Ao, no, co), ⟨by simp only; omega, mm, r, hle, hr, hmk', hL⟩, by first | omega | (simp only; omega) | (simp only [List.length_cons, List.length_append]; omega), ?_, ?_⟩
    · repeat (first | exact trivial | (refine And.intro (by (conv => lhs; whnf) <;> (conv => rhs; whnf) <;> (first | rfl)) ?_))
    · repeat (first | exact trivial | (refine And.intro (by (conv => lhs; whnf) <;> (conv => rhs; whnf) <;> (first | rfl)) ?_))
  have hleast := hls.1 hlt3
  conv => whnf
  repeat ((first | refine zT ?_ | refine zF ?_ | refine zL hX hL ?_ | refine zB hX hL ?_ | (refine zS hX hL ?_; clear hL; intro w hL) | refine zI ?_ | refine zG hX ?_ | refine zO ?_); conv => whnf)
  refine CallReq.pure (chosen_fn mm _ A B (h1.le' hle) hA (by omega)) hL ?_
  clear hL
  rintro u m2 w hL hm2 hp
  replace hr := hr.le hm2
  replace hle := hle.trans hm2
  clear hm2
  obtain ⟨Ap, np, cp, rfl, -⟩ := id hp
  have hrn : no = r.length := hr.lens.1
  have hrc : no ≤ co := by
    obtain ⟨_, _, _, e, -, hcc, -⟩ := id hr
    injection e with e1 e2 e3
    omega
  have hrl := hmk.len
  conv => whnf
  repeat ((first | refine zT ?_ | refine zF ?_ | refine zL hX hL ?_ | refine zB hX hL ?_ | (refine zS hX hL ?_; clear hL; intro w hL) | refine zI ?_ | refine zG hX ?_ | refine zO ?_); conv => whnf)
  refine LoopReq.inv hX (fun q : Nat => [(10, .int .i64 q)]) [0, 1, 5, 9, 12, 13]
    (fun q w => (q ≤ r.length ∧ ∀ x ∈ r.take q, lessP x (chosenP A B)) ∧ Ev.Loc m [] w0 m2 [] w) (fun q => r.length - q) 0
    ⟨⟨Nat.zero_le _, by simp⟩, hL⟩ ⟨rfl, trivial⟩ ?_
  clear hL
  rintro q w f2 ⟨⟨hq, hqa⟩, hL⟩
  have hs1 := hr.sub (lo := 0) (hi := q) (Nat.zero_le _) (by omega)
  have hs2 := hr.sub (lo := q) (hi := no) (by omega) (Nat.le_refl _)
  rw [List.drop_zero] at hs1
  rw [hrn, List.take_length] at hs2
  obtain ⟨vs1, hv1l, hv1o, hv1h, hv1c⟩ := fm_heads hs1
  obtain ⟨vs2, hv2l, hv2o, hv2h, hv2c⟩ := fm_heads hs2
  have hb1 : vs1.length + vs2.length ≤ 512 := by omega
  conv => whnf
  repeat ((first | refine zT ?_ | refine zF ?_ | refine zL hX hL ?_ | refine zB hX hL ?_ | (refine zS hX hL ?_; clear hL; intro w hL) | refine zI ?_ | refine zG hX ?_ | refine zO ?_); conv => whnf)
  refine BrReq.dec (fun hq1 => ?_) (fun hq1 => ?_)
  · have hql : q < r.length := by simp only at hq1; omega
    obtain ⟨aq, Aq, nq, cq, eq, hxq, hpq⟩ := hr.at_ hql
    conv => whnf
    repeat ((first | refine Idx2Req.mk q aq rfl (by omega) eq ?_ | refine LdReq.one hX rfl rfl hL hxq ?_ | refine zT ?_ | refine zF ?_ | refine zL hX hL ?_ | refine zB hX hL ?_ | (refine zS hX hL ?_; clear hL; intro w hL) | refine zI ?_ | refine zG hX ?_ | refine zO ?_); conv => whnf)
    refine CallReq.val (less_fn m2 _ _ r[q] (chosenP A B) hpq hp) hL ?_
    clear hL
    intro w hL
    conv => whnf
    repeat ((first | refine zT ?_ | refine zF ?_ | refine zL hX hL ?_ | refine zB hX hL ?_ | (refine zS hX hL ?_; clear hL; intro w hL) | refine zI ?_ | refine zG hX ?_ | refine zO ?_); conv => whnf)
    refine BrReq.bool (fun hq2 => ?_) (fun hq2 => ?_)
    · have hq3 := dec_iff.1 hq2
      have hqa' : ∀ x ∈ r.take (q + 1), lessP x (chosenP A B) := fun x hx => by
        rw [take_succ' hql] at hx
        rcases List.mem_append.1 hx with hx | hx
        · exact hqa x hx
        · rw [List.mem_singleton.1 hx]; exact hq3
      conv => whnf
      repeat ((first | refine zT ?_ | refine zF ?_ | refine zL hX hL ?_ | refine zB hX hL ?_ | (refine zS hX hL ?_; clear hL; intro w hL) | refine zI ?_ | refine zG hX ?_ | refine zO ?_); conv => whnf)
      refine ⟨q + 1, ⟨⟨by omega, hqa'⟩, hL⟩, by first | omega | (simp only; omega) | (simp only [List.length_cons, List.length_append]; omega), ?_, ?_⟩
      · repeat (first | exact trivial | (refine And.intro (by (conv => lhs; whnf) <;> (conv => rhs; whnf) <;> (first | rfl)) ?_))
      · repeat (first | exact trivial | (refine And.intro (by (conv => lhs; whnf) <;> (conv => rhs; whnf) <;> (first | rfl)) ?_))
    · have hqe : q = r.length ∨ ∃ h : q < r.length, ¬ lessP r[q] (chosenP A B) := .inr ⟨hql, fun h => by rw [dec_t h] at hq2; cases hq2⟩
      conv => whnf
      repeat ((first | refine zT ?_ | refine zF ?_ | refine zL hX hL ?_ | refine zB hX hL ?_ | (refine zS hX hL ?_; clear hL; intro w hL) | refine zI ?_ | refine zG hX ?_ | refine zO ?_); conv => whnf)
      refine DrawReq.plan hX (.fst 1 (.fst 2 (.fst 3 (.fst 5 (.fst 8 (.fst 9 (.fst 10 (.alt 0 (.alt 4 (.alt 6 (.alt 7 (.alt 11 (.fst 12 (.done)) (.stop)) (.stop)) (.stop)) (.alt 6 (.alt 4 (.alt 7 (.alt 11 (.fst 12 (.done)) (.stop)) (.stop)) (.stop)) (.stop))) (.alt 6 (.alt 0 (.alt 4 (.alt 7 (.alt 11 (.fst 12 (.done)) (.stop)) (.stop)) (.stop)) (.stop)) (.stop)))))))))) [] (by kernel_rfl) (by kernel_rfl) hL (fun h => h.sublist (List.nil_sublist _)) ?_
      clear hL
      intro w hL
      conv => whnf
      repeat ((first | (refine SlReq.mk 0 q rfl rfl (by omega) (by simp only; omega) ?_) | (refine SlReq.mk q no rfl rfl (by omega) (by simp only; omega) ?_) | refine zQ hX ?_ | refine zR hX ?_ | refine zA ?_ | refine zT ?_ | refine zF ?_ | refine zL hX hL ?_ | refine zB hX hL ?_ | (refine zS hX hL ?_; clear hL; intro w hL) | refine zI ?_ | refine zG hX ?_ | refine zO ?_); conv => whnf)
      refine alt2 ?_ ?_
      · conv => whnf
        refine NewReq.mk hL ?_
        clear hL
        intro b61 w hL
        conv => whnf
        refine SReq.mk (hL.sublist (List.nil_sublist _)) ?_
        conv => whnf
        refine alt2 ?_ ?_
        · conv => whnf
          refine RunReq.append hX 22 34 rfl rfl rfl rfl rfl (L1 := [_]) (L2 := []) (OwnS.full (n := 0) (cur := []) (Nat.zero_le _) rfl) hL (news := vs1) (by rw [hv1l]; exact (Nat.mul_one _).symm) (fun j u hu => by
            obtain ⟨a, e1, e2⟩ := hv1c j u hu
            exact ⟨a, e1, hL.cell e2⟩) hv1o (by rw [List.length_nil]; omega) rfl ?_
          clear hL
          intro A5 n5 c5 L5 w hn5 ho5 hL
          rw [List.nil_append] at ho5
          conv => whnf
          refine SReq.mk (hL.sublist (List.nil_sublist _)) ?_
          conv => whnf
          refine AltReq.one ?_
          conv => whnf
          refine NewReq.mk hL ?_
          clear hL
          intro b67 w hL
          conv => whnf
          refine SReq.mk (hL.sublist (List.nil_sublist _)) ?_
          conv => whnf
          refine AltReq.one ?_
          conv => whnf
          refine RunReq.push hX 22 34 rfl rfl rfl rfl rfl (L2 := []) ho5 hL rfl rfl (by show _ + 1 ≤ _; omega) rfl ?_
          clear hL
          intro A5 n5 c5 L5 w hn5 ho5 hL
          conv => whnf
          refine SReq.mk (hL.sublist (List.nil_sublist _)) ?_
          conv => whnf
          refine AltReq.one ?_
          conv => whnf
          refine RunReq.append hX 22 34 rfl rfl rfl rfl rfl (L2 := []) ho5 hL (news := vs2) (by rw [hv2l, hrn]; exact (Nat.mul_one _).symm) (fun j u hu => by
            obtain ⟨a, e1, e2⟩ := hv2c j u hu
            exact ⟨a, e1, hL.cell e2⟩) hv2o (by rw [List.length_append]; show _ + 1 + _ ≤ _; omega) rfl ?_
          clear hL ho5
          intro A5 n5 c5 L5 w hn5 ho5 hL
          conv => whnf
          refine SReq.mk (hL.sublist (List.nil_sublist _)) ?_
          conv => whnf
          repeat ((first | refine zQ hX ?_ | refine zR hX ?_ | refine zA ?_ | refine zT ?_ | refine zF ?_ | refine zL hX hL ?_ | refine zB hX hL ?_ | (refine zS hX hL ?_; clear hL; intro w hL) | refine zI ?_ | refine zG hX ?_ | refine zO ?_); conv => whnf)
          obtain ⟨m5, hL5, hle5, hf5⟩ := hd_freeze ho5 ((hv1h.app (hd_one hp)).app hv2h) hL
          have hmk' := hmk.ins hlt (by omega) hleast hqa hqe
          refine ⟨(B + 1, A5, n5, c5), ⟨by simp only; omega, m5, _, hle.trans hle5, hf5, hmk', hL5⟩, by first | omega | (simp only; omega) | (simp only [List.length_cons, List.length_append]; omega), ?_, ?_⟩
          · repeat (first | exact trivial | (refine And.intro (by (conv => lhs; whnf) <;> (conv => rhs; whnf) <;> (first | rfl)) ?_))
          · repeat (first | exact trivial | (refine And.intro (by (conv => lhs; whnf) <;> (conv => rhs; whnf) <;> (first | rfl)) ?_))
        · conv => whnf
          refine AltReq.one ?_
          conv => whnf
          refine NewReq.mk hL ?_
          clear hL
          intro b67 w hL
          conv => whnf
          refine SReq.mk (hL.sublist (List.nil_sublist _)) ?_
          conv => whnf
          refine AltReq.one ?_
          conv => whnf
          replace hL := hL.perm (List.Perm.swap _ _ _)
          refine RunReq.append hX 22 34 rfl rfl rfl rfl rfl (L1 := [_]) (L2 := [_]) (OwnS.full (n := 0) (cur := []) (Nat.zero_le _) rfl) hL (news := vs1) (by rw [hv1l]; exact (Nat.mul_one _).symm) (fun j u hu => by
            obtain ⟨a, e1, e2⟩ := hv1c j u hu
            exact ⟨a, e1, hL.cell e2⟩) hv1o (by rw [List.length_nil]; omega) rfl ?_
          clear hL
          intro A5 n5 c5 L5 w hn5 ho5 hL
          rw [List.nil_append] at ho5
          conv => whnf
          refine SReq.mk (hL.sublist (List.nil_sublist _)) ?_
          conv => whnf
          refine AltReq.one ?_
          conv => whnf
          replace hL := hL.back
          rw [← List.append_nil L5] at hL
          refine RunReq.push hX 22 34 rfl rfl rfl rfl rfl (L2 := []) ho5 hL rfl rfl (by show _ + 1 ≤ _; omega) rfl ?_
          clear hL
          intro A5 n5 c5 L5 w hn5 ho5 hL
          conv => whnf
          refine SReq.mk (hL.sublist (List.nil_sublist _)) ?_
          conv => whnf
          refine AltReq.one ?_
          conv => whnf
          refine RunReq.append hX 22 34 rfl rfl rfl rfl rfl (L2 := []) ho5 hL (news := vs2) (by rw [hv2l, hrn]; exact (Nat.mul_one _).symm) (fun j u hu => by
            obtain ⟨a, e1, e2⟩ := hv2c j u hu
            exact ⟨a, e1, hL.cell e2⟩) hv2o (by rw [List.length_append]; show _ + 1 + _ ≤ _; omega) rfl ?_
          clear hL ho5
          intro A5 n5 c5 L5 w hn5 ho5 hL
          conv => whnf
          refine SReq.mk (hL.sublist (List.nil_sublist _)) ?_
          conv => whnf
          repeat ((first | refine zQ hX ?_ | refine zR hX ?_ | refine zA ?_ | refine zT ?_ | refine zF ?_ | refine zL hX hL ?_ | refine zB hX hL ?_ | (refine zS hX hL ?_; clear hL; intro w hL) | refine zI ?_ | refine zG hX ?_ | refine zO ?_); conv => whnf)
          obtain ⟨m5, hL5, hle5, hf5⟩ := hd_freeze ho5 ((hv1h.app (hd_one hp)).app hv2h) hL
          have hmk' := hmk.ins hlt (by omega) hleast hqa hqe
          refine ⟨(B + 1, A5, n5, c5), ⟨by simp only; omega, m5, _, hle.trans hle5, hf5, hmk', hL5⟩, by first | omega | (simp only; omega) | (simp only [List.length_cons, List.length_append]; omega), ?_, ?_⟩
          · repeat (first | exact trivial | (refine And.intro (by (conv => lhs; whnf) <;> (conv => rhs; whnf) <;> (first | rfl)) ?_))
          · repeat (first | exact trivial | (refine And.intro (by (conv => lhs; whnf) <;> (conv => rhs; whnf) <;> (first | rfl)) ?_))
      · conv => whnf
        refine AltReq.one ?_
        conv => whnf
        refine NewReq.mk hL ?_
        clear hL
        intro b67 w hL
        conv => whnf
        refine SReq.mk (hL.sublist (List.nil_sublist _)) ?_
        conv => whnf
        refine AltReq.one ?_
        conv => whnf
        refine NewReq.mk hL ?_
        clear hL
        intro b61 w hL
        conv => whnf
        refine SReq.mk (hL.sublist (List.nil_sublist _)) ?_
        conv => whnf
        refine AltReq.one ?_
        conv => whnf
        refine RunReq.append hX 22 34 rfl rfl rfl rfl rfl (L1 := [_]) (L2 := [_]) (OwnS.full (n := 0) (cur := []) (Nat.zero_le _) rfl) hL (news := vs1) (by rw [hv1l]; exact (Nat.mul_one _).symm) (fun j u hu => by
          obtain ⟨a, e1, e2⟩ := hv1c j u hu
          exact ⟨a, e1, hL.cell e2⟩) hv1o (by rw [List.length_nil]; omega) rfl ?_
        clear hL
        intro A5 n5 c5 L5 w hn5 ho5 hL
        rw [List.nil_append] at ho5
        conv => whnf
        refine SReq.mk (hL.sublist (List.nil_sublist _)) ?_
        conv => whnf
        refine AltReq.one ?_
        conv => whnf
        replace hL := hL.back
        rw [← List.append_nil L5] at hL
        refine RunReq.push hX 22 34 rfl rfl rfl rfl rfl (L2 := []) ho5 hL rfl rfl (by show _ + 1 ≤ _; omega) rfl ?_
        clear hL
        intro A5 n5 c5 L5 w hn5 ho5 hL
        conv => whnf
        refine SReq.mk (hL.sublist (List.nil_sublist _)) ?_
        conv => whnf
        refine AltReq.one ?_
        conv => whnf
        refine RunReq.append hX 22 34 rfl rfl rfl rfl rfl (L2 := []) ho5 hL (news := vs2) (by rw [hv2l, hrn]; exact (Nat.mul_one _).symm) (fun j u hu => by
          obtain ⟨a, e1, e2⟩ := hv2c j u hu
          exact ⟨a, e1, hL.cell e2⟩) hv2o (by rw [List.length_append]; show _ + 1 + _ ≤ _; omega) rfl ?_
        clear hL ho5
        intro A5 n5 c5 L5 w hn5 ho5 hL
        conv => whnf
        refine SReq.mk (hL.sublist (List.nil_sublist _)) ?_
        conv => whnf
        repeat ((first | refine zQ hX ?_ | refine zR hX ?_ | refine zA ?_ | refine zT ?_ | refine zF ?_ | refine zL hX hL ?_ | refine zB hX hL ?_ | (refine zS hX hL ?_; clear hL; intro w hL) | refine zI ?_ | refine zG hX ?_ | refine zO ?_); conv => whnf)
        obtain ⟨m5, hL5, hle5, hf5⟩ := hd_freeze ho5 ((hv1h.app (hd_one hp)).app hv2h) hL
        have hmk' := hmk.ins hlt (by omega) hleast hqa hqe
        refine ⟨(B + 1, A5, n5, c5), ⟨by simp only; omega, m5, _, hle.trans hle5, hf5, hmk', hL5⟩, by first | omega | (simp only; omega) | (simp only [List.length_cons, List.length_append]; omega), ?_, ?_⟩
        · repeat (first | exact trivial | (refine And.intro (by (conv => lhs; whnf) <;> (conv => rhs; whnf) <;> (first | rfl)) ?_))
        · repeat (first | exact trivial | (refine And.intro (by (conv => lhs; whnf) <;> (conv => rhs; whnf) <;> (first | rfl)) ?_))
  · have hqe : q = r.length ∨ ∃ h : q < r.length, ¬ lessP r[q] (chosenP A B) := .inl (by simp only at hq1; omega)
    conv => whnf
    repeat ((first | refine zT ?_ | refine zF ?_ | refine zL hX hL ?_ | refine zB hX hL ?_ | (refine zS hX hL ?_; clear hL; intro w hL) | refine zI ?_ | refine zG hX ?_ | refine zO ?_); conv => whnf)
    refine DrawReq.plan hX (.fst 1 (.fst 2 (.fst 3 (.fst 5 (.fst 8 (.fst 9 (.fst 10 (.alt 0 (.alt 4 (.alt 6 (.alt 7 (.alt 11 (.fst 12 (.done)) (.stop)) (.stop)) (.stop)) (.alt 6 (.alt 4 (.alt 7 (.alt 11 (.fst 12 (.done)) (.stop)) (.stop)) (.stop)) (.stop))) (.alt 6 (.alt 0 (.alt 4 (.alt 7 (.alt 11 (.fst 12 (.done)) (.stop)) (.stop)) (.stop)) (.stop)) (.stop)))))))))) [] (by kernel_rfl) (by kernel_rfl) hL (fun h => h.sublist (List.nil_sublist _)) ?_
    clear hL
    intro w hL
    conv => whnf
    repeat ((first | (refine SlReq.mk 0 q rfl rfl (by omega) (by simp only; omega) ?_) | (refine SlReq.mk q no rfl rfl (by omega) (by simp only; omega) ?_) | refine zQ hX ?_ | refine zR hX ?_ | refine zA ?_ | refine zT ?_ | refine zF ?_ | refine zL hX hL ?_ | refine zB hX hL ?_ | (refine zS hX hL ?_; clear hL; intro w hL) | refine zI ?_ | refine zG hX ?_ | refine zO ?_); conv => whnf)
    refine alt2 ?_ ?_
    · conv => whnf
      refine NewReq.mk hL ?_
      clear hL
      intro b61 w hL
      conv => whnf
      refine SReq.mk (hL.sublist (List.nil_sublist _)) ?_
      conv => whnf
      refine alt2 ?_ ?_
      · conv => whnf
        refine RunReq.append hX 22 34 rfl rfl rfl rfl rfl (L1 := [_]) (L2 := []) (OwnS.full (n := 0) (cur := []) (Nat.zero_le _) rfl) hL (news := vs1) (by rw [hv1l]; exact (Nat.mul_one _).symm) (fun j u hu => by
          obtain ⟨a, e1, e2⟩ := hv1c j u hu
          exact ⟨a, e1, hL.cell e2⟩) hv1o (by rw [List.length_nil]; omega) rfl ?_
        clear hL
        intro A5 n5 c5 L5 w hn5 ho5 hL
        rw [List.nil_append] at ho5
        conv => whnf
        refine SReq.mk (hL.sublist (List.nil_sublist _)) ?_
        conv => whnf
        refine AltReq.one ?_
        conv => whnf
        refine NewReq.mk hL ?_
        clear hL
        intro b67 w hL
        conv => whnf
        refine SReq.mk (hL.sublist (List.nil_sublist _)) ?_
        conv => whnf
        refine AltReq.one ?_
        conv => whnf
        refine RunReq.push hX 22 34 rfl rfl rfl rfl rfl (L2 := []) ho5 hL rfl rfl (by show _ + 1 ≤ _; omega) rfl ?_
        clear hL
        intro A5 n5 c5 L5 w hn5 ho5 hL
        conv => whnf
        refine SReq.mk (hL.sublist (List.nil_sublist _)) ?_
        conv => whnf
        refine AltReq.one ?_
        conv => whnf
        refine RunReq.append hX 22 34 rfl rfl rfl rfl rfl (L2 := []) ho5 hL (news := vs2) (by rw [hv2l, hrn]; exact (Nat.mul_one _).symm) (fun j u hu => by
          obtain ⟨a, e1, e2⟩ := hv2c j u hu
          exact ⟨a, e1, hL.cell e2⟩) hv2o (by rw [List.length_append]; show _ + 1 + _ ≤ _; omega) rfl ?_
        clear hL ho5
        intro A5 n5 c5 L5 w hn5 ho5 hL
        conv => whnf
        refine SReq.mk (hL.sublist (List.nil_sublist _)) ?_
        conv => whnf
        repeat ((first | refine zQ hX ?_ | refine zR hX ?_ | refine zA ?_ | refine zT ?_ | refine zF ?_ | refine zL hX hL ?_ | refine zB hX hL ?_ | (refine zS hX hL ?_; clear hL; intro w hL) | refine zI ?_ | refine zG hX ?_ | refine zO ?_); conv => whnf)
        obtain ⟨m5, hL5, hle5, hf5⟩ := hd_freeze ho5 ((hv1h.app (hd_one hp)).app hv2h) hL
        have hmk' := hmk.ins hlt (by omega) hleast hqa hqe
        refine ⟨(B + 1, A5, n5, c5), ⟨by simp only; omega, m5, _, hle.trans hle5, hf5, hmk', hL5⟩, by first | omega | (simp only; omega) | (simp only [List.length_cons, List.length_append]; omega), ?_, ?_⟩
        · repeat (first | exact trivial | (refine And.intro (by (conv => lhs; whnf) <;> (conv => rhs; whnf) <;> (first | rfl)) ?_))
        · repeat (first | exact trivial | (refine And.intro (by (conv => lhs; whnf) <;> (conv => rhs; whnf) <;> (first | rfl)) ?_))
      · conv => whnf
        refine AltReq.one ?_
        conv => whnf
        refine NewReq.mk hL ?_
        clear hL
        intro b67 w hL
        conv => whnf
        refine SReq.mk (hL.sublist (List.nil_sublist _)) ?_
        conv => whnf
        refine AltReq.one ?_
        conv => whnf
        replace hL := hL.perm (List.Perm.swap _ _ _)
        refine RunReq.append hX 22 34 rfl rfl rfl rfl rfl (L1 := [_]) (L2 := [_]) (OwnS.full (n := 0) (cur := []) (Nat.zero_le _) rfl) hL (news := vs1) (by rw [hv1l]; exact (Nat.mul_one _).symm) (fun j u hu => by
          obtain ⟨a, e1, e2⟩ := hv1c j u hu
          exact ⟨a, e1, hL.cell e2⟩) hv1o (by rw [List.length_nil]; omega) rfl ?_
        clear hL
        intro A5 n5 c5 L5 w hn5 ho5 hL
        rw [List.nil_append] at ho5
        conv => whnf
        refine SReq.mk (hL.sublist (List.nil_sublist _)) ?_
        conv => whnf
        refine AltReq.one ?_
        conv => whnf
        replace hL := hL.back
        rw [← List.append_nil L5] at hL
        refine RunReq.push hX 22 34 rfl rfl rfl rfl rfl (L2 := []) ho5 hL rfl rfl (by show _ + 1 ≤ _; omega) rfl ?_
        clear hL
        intro A5 n5 c5 L5 w hn5 ho5 hL
        conv => whnf
        refine SReq.mk (hL.sublist (List.nil_sublist _)) ?_
        conv => whnf
        refine AltReq.one ?_
        conv => whnf
        refine RunReq.append hX 22 34 rfl rfl rfl rfl rfl (L2 := []) ho5 hL (news := vs2) (by rw [hv2l, hrn]; exact (Nat.mul_one _).symm) (fun j u hu => by
          obtain ⟨a, e1, e2⟩ := hv2c j u hu
          exact ⟨a, e1, hL.cell e2⟩) hv2o (by rw [List.length_append]; show _ + 1 + _ ≤ _; omega) rfl ?_
        clear hL ho5
        intro A5 n5 c5 L5 w hn5 ho5 hL
        conv => whnf
        refine SReq.mk (hL.sublist (List.nil_sublist _)) ?_
        conv => whnf
        repeat ((first | refine zQ hX ?_ | refine zR hX ?_ | refine zA ?_ | refine zT ?_ | refine zF ?_ | refine zL hX hL ?_ | refine zB hX hL ?_ | (refine zS hX hL ?_; clear hL; intro w hL) | refine zI ?_ | refine zG hX ?_ | refine zO ?_); conv => whnf)
        obtain ⟨m5, hL5, hle5, hf5⟩ := hd_freeze ho5 ((hv1h.app (hd_one hp)).app hv2h) hL
        have hmk' := hmk.ins hlt (by omega) hleast hqa hqe
        refine ⟨(B + 1, A5, n5, c5), ⟨by simp only; omega, m5, _, hle.trans hle5, hf5, hmk', hL5⟩, by first | omega | (simp only; omega) | (simp only [List.length_cons, List.length_append]; omega), ?_, ?_⟩
        · repeat (first | exact trivial | (refine And.intro (by (conv => lhs; whnf) <;> (conv => rhs; whnf) <;> (first | rfl)) ?_))
        · repeat (first | exact trivial | (refine And.intro (by (conv => lhs; whnf) <;> (conv => rhs; whnf) <;> (first | rfl)) ?_))
    · conv => whnf
      refine AltReq.one ?_
      conv => whnf
      refine NewReq.mk hL ?_
      clear hL
      intro b67 w hL
      conv => whnf
      refine SReq.mk (hL.sublist (List.nil_sublist _)) ?_
      conv => whnf
      refine AltReq.one ?_
      conv => whnf
      refine NewReq.mk hL ?_
      clear hL
      intro b61 w hL
      conv => whnf
      refine SReq.mk (hL.sublist (List.nil_sublist _)) ?_
      conv => whnf
      refine AltReq.one ?_
      conv => whnf
      refine RunReq.append hX 22 34 rfl rfl rfl rfl rfl (L1 := [_]) (L2 := [_]) (OwnS.full (n := 0) (cur := []) (Nat.zero_le _) rfl) hL (news := vs1) (by rw [hv1l]; exact (Nat.mul_one _).symm) (fun j u hu => by
        obtain ⟨a, e1, e2⟩ := hv1c j u hu
        exact ⟨a, e1, hL.cell e2⟩) hv1o (by rw [List.length_nil]; omega) rfl ?_
      clear hL
      intro A5 n5 c5 L5 w hn5 ho5 hL
      rw [List.nil_append] at ho5
      conv => whnf
      refine SReq.mk (hL.sublist (List.nil_sublist _)) ?_
      conv => whnf
      refine AltReq.one ?_
      conv => whnf
      replace hL := hL.back
      rw [← List.append_nil L5] at hL
      refine RunReq.push hX 22 34 rfl rfl rfl rfl rfl (L2 := []) ho5 hL rfl rfl (by show _ + 1 ≤ _; omega) rfl ?_
      clear hL
      intro A5 n5 c5 L5 w hn5 ho5 hL
      conv => whnf
      refine SReq.mk (hL.sublist (List.nil_sublist _)) ?_
      conv => whnf
      refine AltReq.one ?_
      conv => whnf
      refine RunReq.append hX 22 34 rfl rfl rfl rfl rfl (L2 := []) ho5 hL (news := vs2) (by rw [hv2l, hrn]; exact (Nat.mul_one _).symm) (fun j u hu => by
        obtain ⟨a, e1, e2⟩ := hv2c j u hu
        exact ⟨a, e1, hL.cell e2⟩) hv2o (by rw [List.length_append]; show _ + 1 + _ ≤ _; omega) rfl ?_
      clear hL ho5
      intro A5 n5 c5 L5 w hn5 ho5 hL
      conv => whnf
      refine SReq.mk (hL.sublist (List.nil_sublist _)) ?_
      conv => whnf
      repeat ((first | refine zQ hX ?_ | refine zR hX ?_ | refine zA ?_ | refine zT ?_ | refine zF ?_ | refine zL hX hL ?_ | refine zB hX hL ?_ | (refine zS hX hL ?_; clear hL; intro w hL) | refine zI ?_ | refine zG hX ?_ | refine zO ?_); conv => whnf)
      obtain ⟨m5, hL5, hle5, hf5⟩ := hd_freeze ho5 ((hv1h.app (hd_one hp)).app hv2h) hL
      have hmk' := hmk.ins hlt (by omega) hleast hqa hqe
      refine ⟨(B + 1, A5, n5, c5), ⟨by simp only; omega, m5, _, hle.trans hle5, hf5, hmk', hL5⟩, by first | omega | (simp only; omega) | (simp only [List.length_cons, List.length_append]; omega), ?_, ?_⟩
      · repeat (first | exact trivial | (refine And.intro (by (conv => lhs; whnf) <;> (conv => rhs; whnf) <;> (first | rfl)) ?_))
      · repeat (first | exact trivial | (refine And.intro (by (conv => lhs; whnf) <;> (conv => rhs; whnf) <;> (first | rfl)) ?_))
end Go.Proofs.Ytnpgllgmcdhmcaa.fo
