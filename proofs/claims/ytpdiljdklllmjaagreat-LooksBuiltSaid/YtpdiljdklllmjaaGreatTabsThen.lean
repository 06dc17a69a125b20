/- Tables one behind the other; any number of times. Conditions: none. -/
import Derived.Test.YtpdiljdklllmjaaGreatTabsOps

namespace Go.Proofs.YtpdiljdklllmjaaGreat.tabs
open Go Go.Ev Go.Proofs


/-- One behind the other. -/
def thenT (n : Nat) (f g : Nat → Nat → Bool) (i j : Nat) : Bool := (List.range n).any fun k => decide (i ≤ k ∧ k ≤ j) && (f i k && g k j)
theorem thenT_iff {n : Nat} {f g : Nat → Nat → Bool} {i j : Nat} : thenT n f g i j = true ↔ ∃ k, k < n ∧ i ≤ k ∧ k ≤ j ∧ f i k = true ∧ g k j = true := by
  unfold thenT
  simp only [List.any_eq_true, List.mem_range, Bool.and_eq_true, decide_eq_true_eq]
  constructor
  · rintro ⟨k, h1, ⟨h2, h3⟩, h4, h5⟩; exact ⟨k, h1, h2, h3, h4, h5⟩
  · rintro ⟨k, h1, h2, h3, h4, h5⟩; exact ⟨k, h1, ⟨h2, h3⟩, h4, h5⟩

theorem then_end {n : Nat} {fa fb : Nat → Nat → Bool} {i j k a b : Nat} (hik : i ≤ k) (h : fa i k = false ∨ (b < n ∧ n ≤ j)) :
    ((a < i ∧ thenT n fa fb a b = true) ∨ (a = i ∧ ∃ q, q < k ∧ i ≤ q ∧ q ≤ b ∧ fa i q = true ∧ fb q b = true)) ∨ (a = i ∧ k ≤ b ∧ b < j ∧ fa i k = true ∧ fb k b = true) ↔
    (a < i ∧ thenT n fa fb a b = true) ∨ (a = i ∧ ∃ q, q < k + 1 ∧ i ≤ q ∧ q ≤ b ∧ fa i q = true ∧ fb q b = true) := by
  constructor
  · rintro ((h1 | ⟨h1, q, h2, h3⟩) | ⟨h1, h2, h3, h4, h5⟩)
    · exact .inl h1
    · exact .inr ⟨h1, q, by omega, h3⟩
    · exact .inr ⟨h1, k, by omega, hik, h2, h4, h5⟩
  · rintro (h1 | ⟨h1, q, h2, h3, h4, h5, h6⟩)
    · exact .inl (.inl h1)
    · by_cases e : q = k
      · subst e
        rcases h with h | h
        · rw [h] at h5; cases h5
        · exact .inr ⟨h1, h4, by omega, h5, h6⟩
      · exact .inl (.inr ⟨h1, q, by omega, h3, h4, h5, h6⟩)
theorem then_row {n : Nat} {fa fb : Nat → Nat → Bool} {i k a b : Nat} (hb : b < n) (hk : n ≤ k) :
    ((a < i ∧ thenT n fa fb a b = true) ∨ (a = i ∧ ∃ q, q < k ∧ i ≤ q ∧ q ≤ b ∧ fa i q = true ∧ fb q b = true)) ↔ (a < i + 1 ∧ thenT n fa fb a b = true) := by
  constructor
  · rintro (⟨h1, h2⟩ | ⟨rfl, q, h2, h3, h4, h5⟩)
    · exact ⟨by omega, h2⟩
    · exact ⟨by omega, thenT_iff.2 ⟨q, by omega, h3, h4, h5⟩⟩
  · rintro ⟨h1, h2⟩
    by_cases e : a = i
    · subst e
      obtain ⟨q, h3, h4, h5, h6⟩ := thenT_iff.1 h2
      exact .inr ⟨rfl, q, by omega, h4, h5, h6⟩
    · exact .inl ⟨by omega, h2⟩

set_option maxHeartbeats 2000000 in
theorem Then_fn (m : Mem) (va vb : Value) (n : Nat) (fa fb : Nat → Nat → Bool) (ha : RepTab m va n fa) (hb : RepTab m vb n fb) (hn : n ≤ 1000) : Fn0 Tryz.prog 28 [va, vb] m fun m' u => RepTab m' u n (thenT n fa fb) := by
  have hmx : maxLen = 9223372036854775807 := rfl
  obtain ⟨A, c, rfl, hac, hacm, hcell⟩ := ha
  obtain ⟨B, d, rfl, hbc, hbcm, hcellb⟩ := hb
  refine Fn.enter (N := 64) hX Tryz.func28 rfl rfl (by show _ ≤ _; simp) (fun w0 hL => ?_)
  conv => whnf
  conv => whnf
  repeat ((first | refine zT ?_ | refine zF ?_ | refine zL hX hL ?_ | refine zB hX hL ?_ | (refine zS hX hL ?_; clear hL; intro w hL) | refine zI ?_ | refine zG hX ?_ | refine zO ?_); conv => whnf)
  refine CallReq.mk (L1 := []) (Blank_fn m n hn) hL ?_
  clear hL
  rintro v m1 L1 w hL hm1 ⟨g0, bs, rfl, hmax, hout, rfl⟩
  rw [List.append_nil] at hL
  conv => whnf
  repeat ((first | refine zT ?_ | refine zF ?_ | refine zL hX hL ?_ | refine zB hX hL ?_ | (refine zS hX hL ?_; clear hL; intro w hL) | refine zI ?_ | refine zG hX ?_ | refine zO ?_); conv => whnf)
  refine LoopReq.inv hX (fun i : Nat => [(14, .int .i64 i)]) [0, 1, 5, 13]
    (fun i w => i ≤ n ∧ ∃ F, (∀ a b, a < n → b < n → (F a b = true ↔ a < i ∧ thenT n fa fb a b = true)) ∧ Ev.Loc m [] w0 m1 (rowsL bs n F n) w) (fun i => n - i) 0
    ⟨by omega, _, fun a b _ _ => ⟨fun h => by simp at h, fun h => absurd h.1 (by omega)⟩, hL⟩ ⟨rfl, trivial⟩ ?_
  clear hL
  rintro i w f ⟨hi, F, hF, hL⟩
  conv => whnf
  repeat ((first | refine zT ?_ | refine zF ?_ | refine zL hX hL ?_ | refine zB hX hL ?_ | (refine zS hX hL ?_; clear hL; intro w hL) | refine zI ?_ | refine zG hX ?_ | refine zO ?_); conv => whnf)
  refine BrReq.dec (fun hlt => ?_) (fun hlt => ?_)
  · have hin : i < n := by omega
    obtain ⟨a0, rfl, A', c', hrow, hcols⟩ := hcell i hin
    conv => whnf
    repeat ((first | refine zT ?_ | refine zF ?_ | refine zL hX hL ?_ | refine zB hX hL ?_ | (refine zS hX hL ?_; clear hL; intro w hL) | refine zI ?_ | refine zG hX ?_ | refine zO ?_); conv => whnf)
    refine LoopReq.inv hX (fun k : Nat => [(7, .int .i64 k)]) [0, 1, 5, 6, 13, 14]
      (fun k w => (i ≤ k ∧ k ≤ n) ∧ ∃ F, (∀ a b, a < n → b < n → (F a b = true ↔ (a < i ∧ thenT n fa fb a b = true) ∨ (a = i ∧ ∃ q, q < k ∧ i ≤ q ∧ q ≤ b ∧ fa i q = true ∧ fb q b = true))) ∧ Ev.Loc m [] w0 m1 (rowsL bs n F n) w) (fun k => n - k) i
      ⟨by omega, F, fun a b ha hb => by
        rw [hF a b ha hb]
        exact ⟨fun h => .inl h, fun h => h.elim id fun ⟨_, q, h1, h2, _⟩ => absurd h1 (by omega)⟩, hL⟩ ⟨rfl, trivial⟩ ?_
    clear hL hF F
    rintro k w g ⟨⟨hik, hk⟩, F, hF, hL⟩
    conv => whnf
    repeat ((first | refine zT ?_ | refine zF ?_ | refine zL hX hL ?_ | refine zB hX hL ?_ | (refine zS hX hL ?_; clear hL; intro w hL) | refine zI ?_ | refine zG hX ?_ | refine zO ?_); conv => whnf)
    refine BrReq.dec (fun hlt2 => ?_) (fun hlt2 => ?_)
    · have hkn : k < n := by omega
      obtain ⟨a1, rfl, hval⟩ := hcols k hkn
      obtain ⟨b0, rfl, B', d', hrowb, hcolsb⟩ := hcellb k hkn
      conv => whnf
      repeat ((first | refine zT ?_ | refine zF ?_ | refine zL hX hL ?_ | refine zB hX hL ?_ | (refine zS hX hL ?_; clear hL; intro w hL) | refine zI ?_ | refine zG hX ?_ | refine zO ?_); conv => whnf)
      refine LoopReq.inv hX (fun j : Nat => [(8, .int .i64 j)]) [0, 1, 5, 6, 7, 13, 14]
        (fun j w => (k ≤ j ∧ j ≤ n) ∧ ∃ F, (∀ a b, a < n → b < n → (F a b = true ↔ ((a < i ∧ thenT n fa fb a b = true) ∨ (a = i ∧ ∃ q, q < k ∧ i ≤ q ∧ q ≤ b ∧ fa i q = true ∧ fb q b = true)) ∨ (a = i ∧ k ≤ b ∧ b < j ∧ fa i k = true ∧ fb k b = true))) ∧ Ev.Loc m [] w0 m1 (rowsL bs n F n) w) (fun j => n - j) k
        ⟨by omega, F, fun a b ha hb => by
          rw [hF a b ha hb]
          exact ⟨fun h => .inl h, fun h => h.elim id fun ⟨_, h1, h2, _⟩ => absurd h1 (by omega)⟩, hL⟩ ⟨rfl, trivial⟩ ?_
      clear hL hF F
      rintro j w g ⟨⟨hkj, hj⟩, F, hF, hL⟩
      conv => whnf
      repeat ((first | refine zT ?_ | refine zF ?_ | refine zL hX hL ?_ | refine zB hX hL ?_ | (refine zS hX hL ?_; clear hL; intro w hL) | refine zI ?_ | refine zG hX ?_ | refine zO ?_); conv => whnf)
      refine BrReq.dec (fun hlt3 => ?_) (fun hlt3 => ?_)
      · have hjn : j < n := by omega
        obtain ⟨b1, rfl, hvalb⟩ := hcolsb j hjn
        conv => whnf
        repeat ((first | refine Idx2Req.mk i _ rfl (by omega) rfl ?_ | refine Idx2Req.mk k _ rfl (by omega) rfl ?_ | refine LdReq.one hX rfl rfl hL (mcell_le hm1 hrow) ?_ | refine LdReq.one hX rfl rfl hL (mcell_le hm1 hval) ?_ | refine zT ?_ | refine zF ?_ | refine zL hX hL ?_ | refine zB hX hL ?_ | (refine zS hX hL ?_; clear hL; intro w hL) | refine zI ?_ | refine zG hX ?_ | refine zO ?_); conv => whnf)
        refine BrReq.bool (fun hfk => ?_) (fun hfk => ?_)
        · conv => whnf
          repeat ((first | refine zT ?_ | refine zF ?_ | refine zL hX hL ?_ | refine zB hX hL ?_ | (refine zS hX hL ?_; clear hL; intro w hL) | refine zI ?_ | refine zG hX ?_ | refine zO ?_); conv => whnf)
          refine DrawReq.plan hX (.fst 0 (.fst 1 (.fst 2 (.fst 3 (.fst 4 (.fst 5 (.fst 6 (.fst 7 (.fst 8 (.fst 9 (.fst 10 (.alt 11 (.fst 12 (.fst 13 (.fst 14 (.fst 15 (.fst 16 (.fst 17 (.fst 18 (.fst 19 (.fst 20 (.fst 21 (.alt 22 (.done) (.stop)))))))))))) (.stop))))))))))))) ([] : Ev.Own) (by kernel_rfl) (by kernel_rfl) hL nil_sub ?_
          clear hL
          intro w hL
          conv => whnf
          repeat ((first | refine Idx2Req.mk i _ rfl (by omega) rfl ?_ | refine Idx2Req.mk j _ rfl (by omega) rfl ?_ | refine Idx2Req.mk k _ rfl (by omega) rfl ?_ | refine QLdReq.one hX rfl rfl (hout i hin) ?_ | refine QLdReq.one hX rfl rfl (mcell_le hm1 hrowb) ?_ | refine QLdReq.one hX rfl rfl (mcell_le hm1 hvalb) ?_ | refine zQ hX ?_ | refine zR hX ?_ | refine zA ?_ | refine zT ?_ | refine zF ?_ | refine zL hX hL ?_ | refine zB hX hL ?_ | (refine zS hX hL ?_; clear hL; intro w hL) | refine zI ?_ | refine zG hX ?_ | refine zO ?_); conv => whnf)
          refine LdReq.tabc rfl rfl i hL (rowsL_get hin) hjn ?_
          conv => whnf
          repeat ((first | refine SReq.mk (nil_sub hL) ?_ | refine zQ hX ?_ | refine zR hX ?_ | refine zA ?_ | refine zT ?_ | refine zF ?_ | refine zL hX hL ?_ | refine zB hX hL ?_ | (refine zS hX hL ?_; clear hL; intro w hL) | refine zI ?_ | refine zG hX ?_ | refine zO ?_); conv => whnf)
          refine BrReq.bool (fun hv => ?_) (fun hv => ?_)
          · conv => whnf
            repeat ((first | refine Idx2Req.mk i _ rfl (by omega) rfl ?_ | refine Idx2Req.mk j _ rfl (by omega) rfl ?_ | refine Idx2Req.mk k _ rfl (by omega) rfl ?_ | refine QLdReq.one hX rfl rfl (hout i hin) ?_ | refine QLdReq.one hX rfl rfl (mcell_le hm1 hrowb) ?_ | refine QLdReq.one hX rfl rfl (mcell_le hm1 hvalb) ?_ | refine zQ hX ?_ | refine zR hX ?_ | refine zA ?_ | refine zT ?_ | refine zF ?_ | refine zL hX hL ?_ | refine zB hX hL ?_ | (refine zS hX hL ?_; clear hL; intro w hL) | refine zI ?_ | refine zG hX ?_ | refine zO ?_); conv => whnf)
            refine StReq.tabc rfl rfl i hL (rowsL_get hin) hjn ?_
            clear hL
            intro w hL
            rw [rowsL_set] at hL
            have hF' : ∀ a b, a < n → b < n → (upd F i j true a b = true ↔ ((a < i ∧ thenT n fa fb a b = true) ∨ (a = i ∧ ∃ q, q < k ∧ i ≤ q ∧ q ≤ b ∧ fa i q = true ∧ fb q b = true)) ∨ (a = i ∧ k ≤ b ∧ b < j + 1 ∧ fa i k = true ∧ fb k b = true)) := by
              intro a b ha hb
              by_cases e : a = i ∧ b = j
              · obtain ⟨rfl, rfl⟩ := e
                rw [upd_same]
                have := hF a b ha hb
                rw [hv] at this
                constructor
                · intro h; exact (this.1 rfl).elim .inl fun ⟨h1, h2, h3, h4⟩ => .inr ⟨h1, h2, by omega, h4⟩
                · intro h; rfl
              · rw [upd_other e, hF a b ha hb]
                exact or_congr Iff.rfl ⟨fun ⟨h1, h2, h3, h4⟩ => ⟨h1, h2, by omega, h4⟩, fun ⟨h1, h2, h3, h4⟩ => ⟨h1, h2, by omega, h4⟩⟩
            conv => whnf
            repeat ((first | refine SReq.mk (nil_sub hL) ?_ | refine zQ hX ?_ | refine zR hX ?_ | refine zA ?_ | refine zT ?_ | refine zF ?_ | refine zL hX hL ?_ | refine zB hX hL ?_ | (refine zS hX hL ?_; clear hL; intro w hL) | refine zI ?_ | refine zG hX ?_ | refine zO ?_); conv => whnf)
            refine ⟨j + 1, ⟨by omega, _, hF', hL⟩, by first | omega | (simp only; omega), ?_, ?_⟩
            · repeat (first | exact trivial | (refine And.intro (by (conv => lhs; whnf) <;> (conv => rhs; whnf) <;> (first | rfl)) ?_))
            · repeat (first | exact trivial | (refine And.intro (by (conv => lhs; whnf) <;> (conv => rhs; whnf) <;> (first | rfl)) ?_))
          · conv => whnf
            repeat ((first | refine Idx2Req.mk i _ rfl (by omega) rfl ?_ | refine Idx2Req.mk j _ rfl (by omega) rfl ?_ | refine Idx2Req.mk k _ rfl (by omega) rfl ?_ | refine QLdReq.one hX rfl rfl (hout i hin) ?_ | refine QLdReq.one hX rfl rfl (mcell_le hm1 hrowb) ?_ | refine QLdReq.one hX rfl rfl (mcell_le hm1 hvalb) ?_ | refine zQ hX ?_ | refine zR hX ?_ | refine zA ?_ | refine zT ?_ | refine zF ?_ | refine zL hX hL ?_ | refine zB hX hL ?_ | (refine zS hX hL ?_; clear hL; intro w hL) | refine zI ?_ | refine zG hX ?_ | refine zO ?_); conv => whnf)
            refine StReq.tabc rfl rfl i hL (rowsL_get hin) hjn ?_
            clear hL
            intro w hL
            rw [rowsL_set] at hL
            have hF' : ∀ a b, a < n → b < n → (upd F i j (fb k j) a b = true ↔ ((a < i ∧ thenT n fa fb a b = true) ∨ (a = i ∧ ∃ q, q < k ∧ i ≤ q ∧ q ≤ b ∧ fa i q = true ∧ fb q b = true)) ∨ (a = i ∧ k ≤ b ∧ b < j + 1 ∧ fa i k = true ∧ fb k b = true)) := by
              intro a b ha hb
              by_cases e : a = i ∧ b = j
              · obtain ⟨rfl, rfl⟩ := e
                rw [upd_same]
                have := hF a b ha hb
                rw [hv] at this
                constructor
                · intro h; exact .inr ⟨rfl, hkj, by omega, hfk, h⟩
                · intro h; rcases h with h | h
                  · exact absurd (this.2 (.inl h)) (by simp)
                  · exact h.2.2.2.2
              · rw [upd_other e, hF a b ha hb]
                exact or_congr Iff.rfl ⟨fun ⟨h1, h2, h3, h4⟩ => ⟨h1, h2, by omega, h4⟩, fun ⟨h1, h2, h3, h4⟩ => ⟨h1, h2, by omega, h4⟩⟩
            conv => whnf
            repeat ((first | refine SReq.mk (nil_sub hL) ?_ | refine zQ hX ?_ | refine zR hX ?_ | refine zA ?_ | refine zT ?_ | refine zF ?_ | refine zL hX hL ?_ | refine zB hX hL ?_ | (refine zS hX hL ?_; clear hL; intro w hL) | refine zI ?_ | refine zG hX ?_ | refine zO ?_); conv => whnf)
            refine ⟨j + 1, ⟨by omega, _, hF', hL⟩, by first | omega | (simp only; omega), ?_, ?_⟩
            · repeat (first | exact trivial | (refine And.intro (by (conv => lhs; whnf) <;> (conv => rhs; whnf) <;> (first | rfl)) ?_))
            · repeat (first | exact trivial | (refine And.intro (by (conv => lhs; whnf) <;> (conv => rhs; whnf) <;> (first | rfl)) ?_))
        · conv => whnf
          repeat ((first | refine zT ?_ | refine zF ?_ | refine zL hX hL ?_ | refine zB hX hL ?_ | (refine zS hX hL ?_; clear hL; intro w hL) | refine zI ?_ | refine zG hX ?_ | refine zO ?_); conv => whnf)
          refine ⟨k + 1, ⟨by omega, F, fun a b ha hb => by rw [hF a b ha hb]; exact then_end hik (.inl hfk), hL⟩, by first | omega | (simp only; omega), ?_, ?_⟩
          · repeat (first | exact trivial | (refine And.intro (by (conv => lhs; whnf) <;> (conv => rhs; whnf) <;> (first | rfl)) ?_))
          · repeat (first | exact trivial | (refine And.intro (by (conv => lhs; whnf) <;> (conv => rhs; whnf) <;> (first | rfl)) ?_))
      · conv => whnf
        repeat ((first | refine zT ?_ | refine zF ?_ | refine zL hX hL ?_ | refine zB hX hL ?_ | (refine zS hX hL ?_; clear hL; intro w hL) | refine zI ?_ | refine zG hX ?_ | refine zO ?_); conv => whnf)
        refine ⟨k + 1, ⟨by omega, F, fun a b ha hb => by rw [hF a b ha hb]; exact then_end hik (.inr ⟨hb, by omega⟩), hL⟩, by first | omega | (simp only; omega), ?_, ?_⟩
        · repeat (first | exact trivial | (refine And.intro (by (conv => lhs; whnf) <;> (conv => rhs; whnf) <;> (first | rfl)) ?_))
        · repeat (first | exact trivial | (refine And.intro (by (conv => lhs; whnf) <;> (conv => rhs; whnf) <;> (first | rfl)) ?_))
    · conv => whnf
      repeat ((first | refine zT ?_ | refine zF ?_ | refine zL hX hL ?_ | refine zB hX hL ?_ | (refine zS hX hL ?_; clear hL; intro w hL) | refine zI ?_ | refine zG hX ?_ | refine zO ?_); conv => whnf)
      refine ⟨i + 1, ⟨by omega, F, fun a b ha hb => by rw [hF a b ha hb]; exact then_row hb (by omega), hL⟩, by first | omega | (simp only; omega), ?_, ?_⟩
      · repeat (first | exact trivial | (refine And.intro (by (conv => lhs; whnf) <;> (conv => rhs; whnf) <;> (first | rfl)) ?_))
      · repeat (first | exact trivial | (refine And.intro (by (conv => lhs; whnf) <;> (conv => rhs; whnf) <;> (first | rfl)) ?_))
  · conv => whnf
    repeat ((first | refine zT ?_ | refine zF ?_ | refine zL hX hL ?_ | refine zB hX hL ?_ | (refine zS hX hL ?_; clear hL; intro w hL) | refine zI ?_ | refine zG hX ?_ | refine zO ?_); conv => whnf)
    obtain ⟨m2, hL, hm2, hrep⟩ := OwnTab.freeze (L2 := []) ⟨g0, bs, rfl, hmax, hout, rfl⟩ (by rw [List.append_nil]; exact hL)
    exact RetReq.mk hL ⟨rfl, hrep.congr fun a b ha hb => by rw [Bool.eq_iff_iff, hF a b ha hb]; exact ⟨fun h => h.2, fun h => ⟨by omega, h⟩⟩⟩

/-- So many times, one behind the other; and what is gathered. -/
def anyK (n : Nat) (f : Nat → Nat → Bool) : Nat → Nat → Nat → Bool
  | 0 => fun i j => decide (i = j)
  | k + 1 => fun i j => anyK n f k i j || thenT n (anyK n f k) f i j
/-- Any number of times. -/
def anyT (n : Nat) (f : Nat → Nat → Bool) : Nat → Nat → Bool := anyK n f n

theorem Any_fn (m : Mem) (va : Value) (n : Nat) (fa : Nat → Nat → Bool) (ha : RepTab m va n fa) (hn : n ≤ 1000) : Fn0 Tryz.prog 32 [va] m fun m' u => RepTab m' u n (anyT n fa) := by
  have hmx : maxLen = 9223372036854775807 := rfl
  obtain ⟨A, c, rfl⟩ := ha.form
  refine Fn.enter (N := 18) hX Tryz.func32 rfl rfl (by show _ ≤ _; simp) (fun w0 hL => ?_)
  conv => whnf
  conv => whnf
  repeat ((first | refine zT ?_ | refine zF ?_ | refine zL hX hL ?_ | refine zB hX hL ?_ | (refine zS hX hL ?_; clear hL; intro w hL) | refine zI ?_ | refine zG hX ?_ | refine zO ?_); conv => whnf)
  refine CallReq.pure (One_fn m n hn) hL ?_
  clear hL
  intro v m1 w hL hm1 ht
  obtain ⟨A1, c1, rfl⟩ := ht.form
  conv => whnf
  repeat ((first | refine zT ?_ | refine zF ?_ | refine zL hX hL ?_ | refine zB hX hL ?_ | (refine zS hX hL ?_; clear hL; intro w hL) | refine zI ?_ | refine zG hX ?_ | refine zO ?_); conv => whnf)
  refine LoopReq.inv hX (fun s : Nat × Option Addr × Nat => [(3, .slice s.2.1 n s.2.2), (9, .int .i64 s.1)]) [0, 8]
    (fun s w => s.1 ≤ n ∧ ∃ m1, Mem.Le m m1 ∧ RepTab m1 (.slice s.2.1 n s.2.2) n (anyK n fa s.1) ∧ Ev.Loc m [] w0 m1 [] w) (fun s => n - s.1) (0, A1, c1)
    ⟨by simp, m1, hm1, ht, hL⟩ ⟨rfl, rfl, trivial⟩ ?_
  clear hL ht hm1 m1
  rintro ⟨j, A2, c2⟩ w f ⟨hj, m1, hm1, ht, hL⟩
  simp only at hj ht
  conv => whnf
  repeat ((first | refine zT ?_ | refine zF ?_ | refine zL hX hL ?_ | refine zB hX hL ?_ | (refine zS hX hL ?_; clear hL; intro w hL) | refine zI ?_ | refine zG hX ?_ | refine zO ?_); conv => whnf)
  refine BrReq.dec (fun hlt => ?_) (fun hlt => ?_)
  · conv => whnf
    repeat ((first | refine zT ?_ | refine zF ?_ | refine zL hX hL ?_ | refine zB hX hL ?_ | (refine zS hX hL ?_; clear hL; intro w hL) | refine zI ?_ | refine zG hX ?_ | refine zO ?_); conv => whnf)
    refine CallReq.pure (Then_fn m1 _ _ n _ _ ht (ha.le hm1) hn) hL ?_
    clear hL
    intro v m2 w hL hm2 ht2
    obtain ⟨A3, c3, rfl⟩ := ht2.form
    conv => whnf
    repeat ((first | refine zT ?_ | refine zF ?_ | refine zL hX hL ?_ | refine zB hX hL ?_ | (refine zS hX hL ?_; clear hL; intro w hL) | refine zI ?_ | refine zG hX ?_ | refine zO ?_); conv => whnf)
    refine CallReq.pure (Either_fn m2 _ _ n _ _ (ht.le hm2) ht2 hn) hL ?_
    clear hL
    intro v m3 w hL hm3 ht3
    obtain ⟨A4, c4, rfl⟩ := ht3.form
    conv => whnf
    repeat ((first | refine zT ?_ | refine zF ?_ | refine zL hX hL ?_ | refine zB hX hL ?_ | (refine zS hX hL ?_; clear hL; intro w hL) | refine zI ?_ | refine zG hX ?_ | refine zO ?_); conv => whnf)
    refine ⟨(j + 1, A4, c4), ⟨by simp only; omega, m3, hm1.trans (hm2.trans hm3), ht3, hL⟩, by first | omega | (simp only; omega), ?_, ?_⟩
    · repeat (first | exact trivial | (refine And.intro (by (conv => lhs; whnf) <;> (conv => rhs; whnf) <;> (first | rfl)) ?_))
    · repeat (first | exact trivial | (refine And.intro (by (conv => lhs; whnf) <;> (conv => rhs; whnf) <;> (first | rfl)) ?_))
  · conv => whnf
    repeat ((first | refine zT ?_ | refine zF ?_ | refine zL hX hL ?_ | refine zB hX hL ?_ | (refine zS hX hL ?_; clear hL; intro w hL) | refine zI ?_ | refine zG hX ?_ | refine zO ?_); conv => whnf)
    have e : j = n := by simp only at hlt; omega
    subst e
    exact RetReq.mk hL ⟨rfl, ht⟩
end Go.Proofs.YtpdiljdklllmjaaGreat.tabs
