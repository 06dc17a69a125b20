/- What the document does with tables of truths. Conditions: none. -/
import Derived.Test.YtpdiljdklllmjaaGreatTabs

namespace Go.Proofs.YtpdiljdklllmjaaGreat.tabs
open Go Go.Ev Go.Proofs


theorem nil_sub {L : Ev.Own} {m0 m : Mem} {S : List Nat} {w0 w : World} (h : Ev.Loc m0 S w0 m L w) : Ev.Loc m0 S w0 m [] w := h.sublist (List.nil_sublist _)

theorem lex_start {i j a b : Nat} {x : Bool} (h : a = i → b < j → x = false) : (decide (a < i) && x) = (decide (a < i ∨ a = i ∧ b < j) && x) := by
  by_cases e : a = i ∧ b < j
  · rw [h e.1 e.2, Bool.and_false, Bool.and_false]
  · congr 1; exact decide_eq_decide.2 (by omega)
theorem lex_step {F : Nat → Nat → Bool} {i j a b : Nat} {x v : Bool} (h : F a b = (decide (a < i ∨ a = i ∧ b < j) && x)) (hv : a = i → b = j → v = x) : upd F i j v a b = (decide (a < i ∨ a = i ∧ b < j + 1) && x) := by
  by_cases e : a = i ∧ b = j
  · obtain ⟨rfl, rfl⟩ := e
    rw [upd_same, hv rfl rfl, decide_eq_true (by omega), Bool.true_and]
  · rw [upd_other e, h]
    congr 1; exact decide_eq_decide.2 (by omega)
theorem lex_end {n i j a b : Nat} {x : Bool} (hb : b < n) (hj : n ≤ j) : (decide (a < i ∨ a = i ∧ b < j) && x) = (decide (a < i + 1) && x) := by
  congr 1; exact decide_eq_decide.2 (by omega)

theorem One_fn (m : Mem) (n : Nat) (hn : n ≤ 1000) : Fn0 Tryz.prog 26 [.int .i64 n] m fun m' u => RepTab m' u n fun i j => decide (i = j) := by
  have hmx : maxLen = 9223372036854775807 := rfl
  refine Fn.enter (N := 20) hX Tryz.func26 rfl rfl (by show _ ≤ _; simp) (fun w0 hL => ?_)
  conv => whnf
  conv => whnf
  repeat ((first | refine zT ?_ | refine zF ?_ | refine zL hX hL ?_ | refine zB hX hL ?_ | (refine zS hX hL ?_; clear hL; intro w hL) | refine zI ?_ | refine zG hX ?_ | refine zO ?_); conv => whnf)
  refine CallReq.mk (L1 := []) (Blank_fn m n hn) hL ?_
  clear hL
  rintro v m1 L1 w hL hm1 ⟨g0, bs, rfl, hmax, hout, rfl⟩
  rw [List.append_nil] at hL
  conv => whnf
  repeat ((first | refine zT ?_ | refine zF ?_ | refine zL hX hL ?_ | refine zB hX hL ?_ | (refine zS hX hL ?_; clear hL; intro w hL) | refine zI ?_ | refine zG hX ?_ | refine zO ?_); conv => whnf)
  refine LoopReq.inv hX (fun j : Nat => [(9, .int .i64 j)]) [3, 8]
    (fun j w => j ≤ n ∧ ∃ F, (∀ a b, a < n → b < n → F a b = decide (a = b ∧ a < j)) ∧ Ev.Loc m [] w0 m1 (rowsL bs n F n) w) (fun j => n - j) 0
    ⟨by omega, _, fun a b _ _ => (decide_eq_false (by omega)).symm, hL⟩ ⟨rfl, trivial⟩ ?_
  clear hL
  rintro j w f ⟨hj, F, hF, hL⟩
  conv => whnf
  repeat ((first | refine zT ?_ | refine zF ?_ | refine zL hX hL ?_ | refine zB hX hL ?_ | (refine zS hX hL ?_; clear hL; intro w hL) | refine zI ?_ | refine zG hX ?_ | refine zO ?_); conv => whnf)
  refine BrReq.dec (fun hlt => ?_) (fun hlt => ?_)
  · have hjn : j < n := by omega
    conv => whnf
    repeat ((first | refine Idx2Req.mk j _ rfl (by omega) rfl ?_ | refine LdReq.one hX rfl rfl hL (hout j hjn) ?_ | refine zT ?_ | refine zF ?_ | refine zL hX hL ?_ | refine zB hX hL ?_ | (refine zS hX hL ?_; clear hL; intro w hL) | refine zI ?_ | refine zG hX ?_ | refine zO ?_); conv => whnf)
    refine StReq.tabc rfl rfl j hL (rowsL_get hjn) hjn ?_
    clear hL
    intro w hL
    rw [rowsL_set] at hL
    have hF' : ∀ a b, a < n → b < n → upd F j j true a b = decide (a = b ∧ a < j + 1) := by
      intro a b ha hb
      by_cases e : a = j ∧ b = j
      · obtain ⟨rfl, rfl⟩ := e
        rw [upd_same]; exact (decide_eq_true ⟨rfl, by omega⟩).symm
      · rw [upd_other e, hF a b ha hb]
        exact decide_eq_decide.2 (by omega)
    conv => whnf
    repeat ((first | refine zT ?_ | refine zF ?_ | refine zL hX hL ?_ | refine zB hX hL ?_ | (refine zS hX hL ?_; clear hL; intro w hL) | refine zI ?_ | refine zG hX ?_ | refine zO ?_); conv => whnf)
    refine ⟨j + 1, ⟨by omega, _, hF', hL⟩, by first | omega | (simp only; omega), ?_, ?_⟩
    · repeat (first | exact trivial | (refine And.intro (by (conv => lhs; whnf) <;> (conv => rhs; whnf) <;> (first | rfl)) ?_))
    · repeat (first | exact trivial | (refine And.intro (by (conv => lhs; whnf) <;> (conv => rhs; whnf) <;> (first | rfl)) ?_))
  · conv => whnf
    repeat ((first | refine zT ?_ | refine zF ?_ | refine zL hX hL ?_ | refine zB hX hL ?_ | (refine zS hX hL ?_; clear hL; intro w hL) | refine zI ?_ | refine zG hX ?_ | refine zO ?_); conv => whnf)
    obtain ⟨m2, hL, hm2, hrep⟩ := OwnTab.freeze (L2 := []) ⟨g0, bs, rfl, hmax, hout, rfl⟩ (by rw [List.append_nil]; exact hL)
    exact RetReq.mk hL ⟨rfl, hrep.congr fun a b ha hb => by rw [hF a b ha hb]; exact decide_eq_decide.2 (by omega)⟩

set_option maxHeartbeats 1000000 in
theorem Other_fn (m : Mem) (va : Value) (n : Nat) (fa : Nat → Nat → Bool) (ha : RepTab m va n fa) (hn : n ≤ 1000) : Fn0 Tryz.prog 31 [va] m fun m' u => RepTab m' u n fun i j => decide (i ≤ j) && !fa i j := by
  have hmx : maxLen = 9223372036854775807 := rfl
  obtain ⟨A, c, rfl, hac, hacm, hcell⟩ := ha
  refine Fn.enter (N := 37) hX Tryz.func31 rfl rfl (by show _ ≤ _; simp) (fun w0 hL => ?_)
  conv => whnf
  conv => whnf
  repeat ((first | refine zT ?_ | refine zF ?_ | refine zL hX hL ?_ | refine zB hX hL ?_ | (refine zS hX hL ?_; clear hL; intro w hL) | refine zI ?_ | refine zG hX ?_ | refine zO ?_); conv => whnf)
  refine CallReq.mk (L1 := []) (Blank_fn m n hn) hL ?_
  clear hL
  rintro v m1 L1 w hL hm1 ⟨g0, bs, rfl, hmax, hout, rfl⟩
  rw [List.append_nil] at hL
  conv => whnf
  repeat ((first | refine zT ?_ | refine zF ?_ | refine zL hX hL ?_ | refine zB hX hL ?_ | (refine zS hX hL ?_; clear hL; intro w hL) | refine zI ?_ | refine zG hX ?_ | refine zO ?_); conv => whnf)
  refine LoopReq.inv hX (fun i : Nat => [(11, .int .i64 i)]) [0, 3, 10]
    (fun i w => i ≤ n ∧ ∃ F, (∀ a b, a < n → b < n → F a b = (decide (a < i) && (decide (a ≤ b) && !fa a b))) ∧ Ev.Loc m [] w0 m1 (rowsL bs n F n) w) (fun i => n - i) 0
    ⟨by omega, _, fun a b _ _ => by simp, hL⟩ ⟨rfl, trivial⟩ ?_
  clear hL
  rintro i w f ⟨hi, F, hF, hL⟩
  conv => whnf
  repeat ((first | refine zT ?_ | refine zF ?_ | refine zL hX hL ?_ | refine zB hX hL ?_ | (refine zS hX hL ?_; clear hL; intro w hL) | refine zI ?_ | refine zG hX ?_ | refine zO ?_); conv => whnf)
  refine BrReq.dec (fun hlt => ?_) (fun hlt => ?_)
  · have hin : i < n := by omega
    obtain ⟨a0, rfl, A', c', hrow, hcols⟩ := hcell i hin
    conv => whnf
    repeat ((first | refine zT ?_ | refine zF ?_ | refine zL hX hL ?_ | refine zB hX hL ?_ | (refine zS hX hL ?_; clear hL; intro w hL) | refine zI ?_ | refine zG hX ?_ | refine zO ?_); conv => whnf)
    refine LoopReq.inv hX (fun j : Nat => [(5, .int .i64 j)]) [0, 3, 4, 10, 11]
      (fun j w => (i ≤ j ∧ j ≤ n) ∧ ∃ F, (∀ a b, a < n → b < n → F a b = (decide (a < i ∨ a = i ∧ b < j) && (decide (a ≤ b) && !fa a b))) ∧ Ev.Loc m [] w0 m1 (rowsL bs n F n) w) (fun j => n - j) i
      ⟨by omega, F, fun a b ha hb => by rw [hF a b ha hb]; exact lex_start fun e1 e2 => by rw [decide_eq_false (by omega), Bool.false_and], hL⟩ ⟨rfl, trivial⟩ ?_
    clear hL hF F
    rintro j w g ⟨⟨hij, hj⟩, F, hF, hL⟩
    conv => whnf
    repeat ((first | refine zT ?_ | refine zF ?_ | refine zL hX hL ?_ | refine zB hX hL ?_ | (refine zS hX hL ?_; clear hL; intro w hL) | refine zI ?_ | refine zG hX ?_ | refine zO ?_); conv => whnf)
    refine BrReq.dec (fun hlt2 => ?_) (fun hlt2 => ?_)
    · have hjn : j < n := by omega
      obtain ⟨a1, rfl, hval⟩ := hcols j hjn
      conv => whnf
      repeat ((first | refine zT ?_ | refine zF ?_ | refine zL hX hL ?_ | refine zB hX hL ?_ | (refine zS hX hL ?_; clear hL; intro w hL) | refine zI ?_ | refine zG hX ?_ | refine zO ?_); conv => whnf)
      refine DrawReq.plan hX (.fst 0 (.fst 1 (.fst 2 (.fst 3 (.fst 4 (.fst 5 (.fst 6 (.fst 7 (.fst 8 (.fst 9 (.fst 10 (.fst 11 (.fst 12 (.fst 13 (.alt 14 (.done) (.stop)))))))))))))))) ([] : Ev.Own) (by kernel_rfl) (by kernel_rfl) hL nil_sub ?_
      clear hL
      intro w hL
      conv => whnf
      repeat ((first | refine Idx2Req.mk i _ rfl (by omega) rfl ?_ | refine Idx2Req.mk j _ rfl (by omega) rfl ?_ | refine QLdReq.one hX rfl rfl (hout i hin) ?_ | refine QLdReq.one hX rfl rfl (mcell_le hm1 hrow) ?_ | refine QLdReq.one hX rfl rfl (mcell_le hm1 hval) ?_ | refine zQ hX ?_ | refine zR hX ?_ | refine zA ?_ | refine zT ?_ | refine zF ?_ | refine zL hX hL ?_ | refine zB hX hL ?_ | (refine zS hX hL ?_; clear hL; intro w hL) | refine zI ?_ | refine zG hX ?_ | refine zO ?_); conv => whnf)
      refine StReq.tabc rfl rfl i hL (rowsL_get hin) hjn ?_
      clear hL
      intro w hL
      rw [rowsL_set] at hL
      have hF' : ∀ a b, a < n → b < n → upd F i j (!fa i j) a b = (decide (a < i ∨ a = i ∧ b < j + 1) && (decide (a ≤ b) && !fa a b)) :=
        fun a b ha hb => lex_step (hF a b ha hb) fun e1 e2 => by subst e1 e2; rw [decide_eq_true hij, Bool.true_and]
      conv => whnf
      repeat ((first | refine SReq.mk (nil_sub hL) ?_ | refine zQ hX ?_ | refine zR hX ?_ | refine zA ?_ | refine zT ?_ | refine zF ?_ | refine zL hX hL ?_ | refine zB hX hL ?_ | (refine zS hX hL ?_; clear hL; intro w hL) | refine zI ?_ | refine zG hX ?_ | refine zO ?_); conv => whnf)
      refine ⟨j + 1, ⟨by omega, _, hF', hL⟩, by first | omega | (simp only; omega), ?_, ?_⟩
      · repeat (first | exact trivial | (refine And.intro (by (conv => lhs; whnf) <;> (conv => rhs; whnf) <;> (first | rfl)) ?_))
      · repeat (first | exact trivial | (refine And.intro (by (conv => lhs; whnf) <;> (conv => rhs; whnf) <;> (first | rfl)) ?_))
    · conv => whnf
      repeat ((first | refine zT ?_ | refine zF ?_ | refine zL hX hL ?_ | refine zB hX hL ?_ | (refine zS hX hL ?_; clear hL; intro w hL) | refine zI ?_ | refine zG hX ?_ | refine zO ?_); conv => whnf)
      refine ⟨i + 1, ⟨by omega, F, fun a b ha hb => by rw [hF a b ha hb]; exact lex_end hb (by omega), hL⟩, by first | omega | (simp only; omega), ?_, ?_⟩
      · repeat (first | exact trivial | (refine And.intro (by (conv => lhs; whnf) <;> (conv => rhs; whnf) <;> (first | rfl)) ?_))
      · repeat (first | exact trivial | (refine And.intro (by (conv => lhs; whnf) <;> (conv => rhs; whnf) <;> (first | rfl)) ?_))
  · conv => whnf
    repeat ((first | refine zT ?_ | refine zF ?_ | refine zL hX hL ?_ | refine zB hX hL ?_ | (refine zS hX hL ?_; clear hL; intro w hL) | refine zI ?_ | refine zG hX ?_ | refine zO ?_); conv => whnf)
    obtain ⟨m2, hL, hm2, hrep⟩ := OwnTab.freeze (L2 := []) ⟨g0, bs, rfl, hmax, hout, rfl⟩ (by rw [List.append_nil]; exact hL)
    exact RetReq.mk hL ⟨rfl, hrep.congr fun a b ha hb => by rw [hF a b ha hb, decide_eq_true (by omega), Bool.true_and]⟩

set_option maxHeartbeats 1000000 in
theorem Either_fn (m : Mem) (va vb : Value) (n : Nat) (fa fb : Nat → Nat → Bool) (ha : RepTab m va n fa) (hb : RepTab m vb n fb) (hn : n ≤ 1000) : Fn0 Tryz.prog 29 [va, vb] m fun m' u => RepTab m' u n fun i j => fa i j || fb i j := by
  have hmx : maxLen = 9223372036854775807 := rfl
  obtain ⟨A, c, rfl, hac, hacm, hcell⟩ := ha
  obtain ⟨B, d, rfl, hbc, hbcm, hcellb⟩ := hb
  refine Fn.enter (N := 46) hX Tryz.func29 rfl rfl (by show _ ≤ _; simp) (fun w0 hL => ?_)
  conv => whnf
  conv => whnf
  repeat ((first | refine zT ?_ | refine zF ?_ | refine zL hX hL ?_ | refine zB hX hL ?_ | (refine zS hX hL ?_; clear hL; intro w hL) | refine zI ?_ | refine zG hX ?_ | refine zO ?_); conv => whnf)
  refine CallReq.mk (L1 := []) (Blank_fn m n hn) hL ?_
  clear hL
  rintro v m1 L1 w hL hm1 ⟨g0, bs, rfl, hmax, hout, rfl⟩
  rw [List.append_nil] at hL
  conv => whnf
  repeat ((first | refine zT ?_ | refine zF ?_ | refine zL hX hL ?_ | refine zB hX hL ?_ | (refine zS hX hL ?_; clear hL; intro w hL) | refine zI ?_ | refine zG hX ?_ | refine zO ?_); conv => whnf)
  refine LoopReq.inv hX (fun i : Nat => [(13, .int .i64 i)]) [0, 1, 5, 12]
    (fun i w => i ≤ n ∧ ∃ F, (∀ a b, a < n → b < n → F a b = (decide (a < i) && (fa a b || fb a b))) ∧ Ev.Loc m [] w0 m1 (rowsL bs n F n) w) (fun i => n - i) 0
    ⟨by omega, _, fun a b _ _ => by simp, hL⟩ ⟨rfl, trivial⟩ ?_
  clear hL
  rintro i w f ⟨hi, F, hF, hL⟩
  conv => whnf
  repeat ((first | refine zT ?_ | refine zF ?_ | refine zL hX hL ?_ | refine zB hX hL ?_ | (refine zS hX hL ?_; clear hL; intro w hL) | refine zI ?_ | refine zG hX ?_ | refine zO ?_); conv => whnf)
  refine BrReq.dec (fun hlt => ?_) (fun hlt => ?_)
  · have hin : i < n := by omega
    obtain ⟨a0, rfl, A', c', hrow, hcols⟩ := hcell i hin
    obtain ⟨b0, rfl, B', d', hrowb, hcolsb⟩ := hcellb i hin
    conv => whnf
    repeat ((first | refine zT ?_ | refine zF ?_ | refine zL hX hL ?_ | refine zB hX hL ?_ | (refine zS hX hL ?_; clear hL; intro w hL) | refine zI ?_ | refine zG hX ?_ | refine zO ?_); conv => whnf)
    refine LoopReq.inv hX (fun j : Nat => [(18, .int .i64 j)]) [0, 1, 5, 6, 12, 13, 17]
      (fun j w => j ≤ n ∧ ∃ F, (∀ a b, a < n → b < n → F a b = (decide (a < i ∨ a = i ∧ b < j) && (fa a b || fb a b))) ∧ Ev.Loc m [] w0 m1 (rowsL bs n F n) w) (fun j => n - j) 0
      ⟨by omega, F, fun a b ha hb => by rw [hF a b ha hb]; exact lex_start fun e1 e2 => absurd e2 (by omega), hL⟩ ⟨rfl, trivial⟩ ?_
    clear hL hF F
    rintro j w g ⟨hj, F, hF, hL⟩
    conv => whnf
    repeat ((first | refine zT ?_ | refine zF ?_ | refine zL hX hL ?_ | refine zB hX hL ?_ | (refine zS hX hL ?_; clear hL; intro w hL) | refine zI ?_ | refine zG hX ?_ | refine zO ?_); conv => whnf)
    refine BrReq.dec (fun hlt2 => ?_) (fun hlt2 => ?_)
    · have hjn : j < n := by omega
      obtain ⟨a1, rfl, hval⟩ := hcols j hjn
      obtain ⟨b1, rfl, hvalb⟩ := hcolsb j hjn
      conv => whnf
      repeat ((first | refine zT ?_ | refine zF ?_ | refine zL hX hL ?_ | refine zB hX hL ?_ | (refine zS hX hL ?_; clear hL; intro w hL) | refine zI ?_ | refine zG hX ?_ | refine zO ?_); conv => whnf)
      refine DrawReq.plan hX (.fst 0 (.fst 1 (.fst 2 (.fst 3 (.fst 4 (.fst 5 (.fst 6 (.fst 7 (.fst 8 (.fst 9 (.fst 10 (.fst 11 (.fst 12 (.fst 13 (.fst 14 (.fst 15 (.fst 16 (.fst 17 (.fst 18 (.fst 19 (.fst 20 (.fst 21 (.alt 22 (.done) (.stop)))))))))))))))))))))))) ([] : Ev.Own) (by kernel_rfl) (by kernel_rfl) hL nil_sub ?_
      clear hL
      intro w hL
      conv => whnf
      repeat ((first | refine Idx2Req.mk i _ rfl (by omega) rfl ?_ | refine Idx2Req.mk j _ rfl (by omega) rfl ?_ | refine QLdReq.one hX rfl rfl (hout i hin) ?_ | refine QLdReq.one hX rfl rfl (mcell_le hm1 hrow) ?_ | refine QLdReq.one hX rfl rfl (mcell_le hm1 hval) ?_ | refine QLdReq.one hX rfl rfl (mcell_le hm1 hrowb) ?_ | refine QLdReq.one hX rfl rfl (mcell_le hm1 hvalb) ?_ | refine zQ hX ?_ | refine zR hX ?_ | refine zA ?_ | refine zT ?_ | refine zF ?_ | refine zL hX hL ?_ | refine zB hX hL ?_ | (refine zS hX hL ?_; clear hL; intro w hL) | refine zI ?_ | refine zG hX ?_ | refine zO ?_); conv => whnf)
      refine BrReq.bool (fun hv => ?_) (fun hv => ?_)
      · conv => whnf
        repeat ((first | refine Idx2Req.mk i _ rfl (by omega) rfl ?_ | refine Idx2Req.mk j _ rfl (by omega) rfl ?_ | refine QLdReq.one hX rfl rfl (hout i hin) ?_ | refine QLdReq.one hX rfl rfl (mcell_le hm1 hrow) ?_ | refine QLdReq.one hX rfl rfl (mcell_le hm1 hval) ?_ | refine QLdReq.one hX rfl rfl (mcell_le hm1 hrowb) ?_ | refine QLdReq.one hX rfl rfl (mcell_le hm1 hvalb) ?_ | refine zQ hX ?_ | refine zR hX ?_ | refine zA ?_ | refine zT ?_ | refine zF ?_ | refine zL hX hL ?_ | refine zB hX hL ?_ | (refine zS hX hL ?_; clear hL; intro w hL) | refine zI ?_ | refine zG hX ?_ | refine zO ?_); conv => whnf)
        refine StReq.tabc rfl rfl i hL (rowsL_get hin) hjn ?_
        clear hL
        intro w hL
        rw [rowsL_set] at hL
        have hF' : ∀ a b, a < n → b < n → upd F i j true a b = (decide (a < i ∨ a = i ∧ b < j + 1) && (fa a b || fb a b)) :=
          fun a b ha hb => lex_step (hF a b ha hb) fun e1 e2 => by subst e1 e2; rw [hv]; simp
        conv => whnf
        repeat ((first | refine SReq.mk (nil_sub hL) ?_ | refine zQ hX ?_ | refine zR hX ?_ | refine zA ?_ | refine zT ?_ | refine zF ?_ | refine zL hX hL ?_ | refine zB hX hL ?_ | (refine zS hX hL ?_; clear hL; intro w hL) | refine zI ?_ | refine zG hX ?_ | refine zO ?_); conv => whnf)
        refine ⟨j + 1, ⟨by omega, _, hF', hL⟩, by first | omega | (simp only; omega), ?_, ?_⟩
        · repeat (first | exact trivial | (refine And.intro (by (conv => lhs; whnf) <;> (conv => rhs; whnf) <;> (first | rfl)) ?_))
        · repeat (first | exact trivial | (refine And.intro (by (conv => lhs; whnf) <;> (conv => rhs; whnf) <;> (first | rfl)) ?_))
      · conv => whnf
        repeat ((first | refine Idx2Req.mk i _ rfl (by omega) rfl ?_ | refine Idx2Req.mk j _ rfl (by omega) rfl ?_ | refine QLdReq.one hX rfl rfl (hout i hin) ?_ | refine QLdReq.one hX rfl rfl (mcell_le hm1 hrow) ?_ | refine QLdReq.one hX rfl rfl (mcell_le hm1 hval) ?_ | refine QLdReq.one hX rfl rfl (mcell_le hm1 hrowb) ?_ | refine QLdReq.one hX rfl rfl (mcell_le hm1 hvalb) ?_ | refine zQ hX ?_ | refine zR hX ?_ | refine zA ?_ | refine zT ?_ | refine zF ?_ | refine zL hX hL ?_ | refine zB hX hL ?_ | (refine zS hX hL ?_; clear hL; intro w hL) | refine zI ?_ | refine zG hX ?_ | refine zO ?_); conv => whnf)
        refine StReq.tabc rfl rfl i hL (rowsL_get hin) hjn ?_
        clear hL
        intro w hL
        rw [rowsL_set] at hL
        have hF' : ∀ a b, a < n → b < n → upd F i j (fb i j) a b = (decide (a < i ∨ a = i ∧ b < j + 1) && (fa a b || fb a b)) :=
          fun a b ha hb => lex_step (hF a b ha hb) fun e1 e2 => by subst e1 e2; rw [hv]; simp
        conv => whnf
        repeat ((first | refine SReq.mk (nil_sub hL) ?_ | refine zQ hX ?_ | refine zR hX ?_ | refine zA ?_ | refine zT ?_ | refine zF ?_ | refine zL hX hL ?_ | refine zB hX hL ?_ | (refine zS hX hL ?_; clear hL; intro w hL) | refine zI ?_ | refine zG hX ?_ | refine zO ?_); conv => whnf)
        refine ⟨j + 1, ⟨by omega, _, hF', hL⟩, by first | omega | (simp only; omega), ?_, ?_⟩
        · repeat (first | exact trivial | (refine And.intro (by (conv => lhs; whnf) <;> (conv => rhs; whnf) <;> (first | rfl)) ?_))
        · repeat (first | exact trivial | (refine And.intro (by (conv => lhs; whnf) <;> (conv => rhs; whnf) <;> (first | rfl)) ?_))
    · conv => whnf
      repeat ((first | refine zT ?_ | refine zF ?_ | refine zL hX hL ?_ | refine zB hX hL ?_ | (refine zS hX hL ?_; clear hL; intro w hL) | refine zI ?_ | refine zG hX ?_ | refine zO ?_); conv => whnf)
      refine ⟨i + 1, ⟨by omega, F, fun a b ha hb => by rw [hF a b ha hb]; exact lex_end hb (by omega), hL⟩, by first | omega | (simp only; omega), ?_, ?_⟩
      · repeat (first | exact trivial | (refine And.intro (by (conv => lhs; whnf) <;> (conv => rhs; whnf) <;> (first | rfl)) ?_))
      · repeat (first | exact trivial | (refine And.intro (by (conv => lhs; whnf) <;> (conv => rhs; whnf) <;> (first | rfl)) ?_))
  · conv => whnf
    repeat ((first | refine zT ?_ | refine zF ?_ | refine zL hX hL ?_ | refine zB hX hL ?_ | (refine zS hX hL ?_; clear hL; intro w hL) | refine zI ?_ | refine zG hX ?_ | refine zO ?_); conv => whnf)
    obtain ⟨m2, hL, hm2, hrep⟩ := OwnTab.freeze (L2 := []) ⟨g0, bs, rfl, hmax, hout, rfl⟩ (by rw [List.append_nil]; exact hL)
    exact RetReq.mk hL ⟨rfl, hrep.congr fun a b ha hb => by rw [hF a b ha hb, decide_eq_true (by omega), Bool.true_and]⟩

set_option maxHeartbeats 1000000 in
theorem Both_fn (m : Mem) (va vb : Value) (n : Nat) (fa fb : Nat → Nat → Bool) (ha : RepTab m va n fa) (hb : RepTab m vb n fb) (hn : n ≤ 1000) : Fn0 Tryz.prog 30 [va, vb] m fun m' u => RepTab m' u n fun i j => fa i j && fb i j := by
  have hmx : maxLen = 9223372036854775807 := rfl
  obtain ⟨A, c, rfl, hac, hacm, hcell⟩ := ha
  obtain ⟨B, d, rfl, hbc, hbcm, hcellb⟩ := hb
  refine Fn.enter (N := 46) hX Tryz.func30 rfl rfl (by show _ ≤ _; simp) (fun w0 hL => ?_)
  conv => whnf
  conv => whnf
  repeat ((first | refine zT ?_ | refine zF ?_ | refine zL hX hL ?_ | refine zB hX hL ?_ | (refine zS hX hL ?_; clear hL; intro w hL) | refine zI ?_ | refine zG hX ?_ | refine zO ?_); conv => whnf)
  refine CallReq.mk (L1 := []) (Blank_fn m n hn) hL ?_
  clear hL
  rintro v m1 L1 w hL hm1 ⟨g0, bs, rfl, hmax, hout, rfl⟩
  rw [List.append_nil] at hL
  conv => whnf
  repeat ((first | refine zT ?_ | refine zF ?_ | refine zL hX hL ?_ | refine zB hX hL ?_ | (refine zS hX hL ?_; clear hL; intro w hL) | refine zI ?_ | refine zG hX ?_ | refine zO ?_); conv => whnf)
  refine LoopReq.inv hX (fun i : Nat => [(13, .int .i64 i)]) [0, 1, 5, 12]
    (fun i w => i ≤ n ∧ ∃ F, (∀ a b, a < n → b < n → F a b = (decide (a < i) && (fa a b && fb a b))) ∧ Ev.Loc m [] w0 m1 (rowsL bs n F n) w) (fun i => n - i) 0
    ⟨by omega, _, fun a b _ _ => by simp, hL⟩ ⟨rfl, trivial⟩ ?_
  clear hL
  rintro i w f ⟨hi, F, hF, hL⟩
  conv => whnf
  repeat ((first | refine zT ?_ | refine zF ?_ | refine zL hX hL ?_ | refine zB hX hL ?_ | (refine zS hX hL ?_; clear hL; intro w hL) | refine zI ?_ | refine zG hX ?_ | refine zO ?_); conv => whnf)
  refine BrReq.dec (fun hlt => ?_) (fun hlt => ?_)
  · have hin : i < n := by omega
    obtain ⟨a0, rfl, A', c', hrow, hcols⟩ := hcell i hin
    obtain ⟨b0, rfl, B', d', hrowb, hcolsb⟩ := hcellb i hin
    conv => whnf
    repeat ((first | refine zT ?_ | refine zF ?_ | refine zL hX hL ?_ | refine zB hX hL ?_ | (refine zS hX hL ?_; clear hL; intro w hL) | refine zI ?_ | refine zG hX ?_ | refine zO ?_); conv => whnf)
    refine LoopReq.inv hX (fun j : Nat => [(18, .int .i64 j)]) [0, 1, 5, 6, 12, 13, 17]
      (fun j w => j ≤ n ∧ ∃ F, (∀ a b, a < n → b < n → F a b = (decide (a < i ∨ a = i ∧ b < j) && (fa a b && fb a b))) ∧ Ev.Loc m [] w0 m1 (rowsL bs n F n) w) (fun j => n - j) 0
      ⟨by omega, F, fun a b ha hb => by rw [hF a b ha hb]; exact lex_start fun e1 e2 => absurd e2 (by omega), hL⟩ ⟨rfl, trivial⟩ ?_
    clear hL hF F
    rintro j w g ⟨hj, F, hF, hL⟩
    conv => whnf
    repeat ((first | refine zT ?_ | refine zF ?_ | refine zL hX hL ?_ | refine zB hX hL ?_ | (refine zS hX hL ?_; clear hL; intro w hL) | refine zI ?_ | refine zG hX ?_ | refine zO ?_); conv => whnf)
    refine BrReq.dec (fun hlt2 => ?_) (fun hlt2 => ?_)
    · have hjn : j < n := by omega
      obtain ⟨a1, rfl, hval⟩ := hcols j hjn
      obtain ⟨b1, rfl, hvalb⟩ := hcolsb j hjn
      conv => whnf
      repeat ((first | refine zT ?_ | refine zF ?_ | refine zL hX hL ?_ | refine zB hX hL ?_ | (refine zS hX hL ?_; clear hL; intro w hL) | refine zI ?_ | refine zG hX ?_ | refine zO ?_); conv => whnf)
      refine DrawReq.plan hX (.fst 0 (.fst 1 (.fst 2 (.fst 3 (.fst 4 (.fst 5 (.fst 6 (.fst 7 (.fst 8 (.fst 9 (.fst 10 (.fst 11 (.fst 12 (.fst 13 (.fst 14 (.fst 15 (.fst 16 (.fst 17 (.fst 18 (.fst 19 (.fst 20 (.fst 21 (.alt 22 (.done) (.stop)))))))))))))))))))))))) ([] : Ev.Own) (by kernel_rfl) (by kernel_rfl) hL nil_sub ?_
      clear hL
      intro w hL
      conv => whnf
      repeat ((first | refine Idx2Req.mk i _ rfl (by omega) rfl ?_ | refine Idx2Req.mk j _ rfl (by omega) rfl ?_ | refine QLdReq.one hX rfl rfl (hout i hin) ?_ | refine QLdReq.one hX rfl rfl (mcell_le hm1 hrow) ?_ | refine QLdReq.one hX rfl rfl (mcell_le hm1 hval) ?_ | refine QLdReq.one hX rfl rfl (mcell_le hm1 hrowb) ?_ | refine QLdReq.one hX rfl rfl (mcell_le hm1 hvalb) ?_ | refine zQ hX ?_ | refine zR hX ?_ | refine zA ?_ | refine zT ?_ | refine zF ?_ | refine zL hX hL ?_ | refine zB hX hL ?_ | (refine zS hX hL ?_; clear hL; intro w hL) | refine zI ?_ | refine zG hX ?_ | refine zO ?_); conv => whnf)
      refine BrReq.bool (fun hv => ?_) (fun hv => ?_)
      · conv => whnf
        repeat ((first | refine Idx2Req.mk i _ rfl (by omega) rfl ?_ | refine Idx2Req.mk j _ rfl (by omega) rfl ?_ | refine QLdReq.one hX rfl rfl (hout i hin) ?_ | refine QLdReq.one hX rfl rfl (mcell_le hm1 hrow) ?_ | refine QLdReq.one hX rfl rfl (mcell_le hm1 hval) ?_ | refine QLdReq.one hX rfl rfl (mcell_le hm1 hrowb) ?_ | refine QLdReq.one hX rfl rfl (mcell_le hm1 hvalb) ?_ | refine zQ hX ?_ | refine zR hX ?_ | refine zA ?_ | refine zT ?_ | refine zF ?_ | refine zL hX hL ?_ | refine zB hX hL ?_ | (refine zS hX hL ?_; clear hL; intro w hL) | refine zI ?_ | refine zG hX ?_ | refine zO ?_); conv => whnf)
        refine StReq.tabc rfl rfl i hL (rowsL_get hin) hjn ?_
        clear hL
        intro w hL
        rw [rowsL_set] at hL
        have hF' : ∀ a b, a < n → b < n → upd F i j (fb i j) a b = (decide (a < i ∨ a = i ∧ b < j + 1) && (fa a b && fb a b)) :=
          fun a b ha hb => lex_step (hF a b ha hb) fun e1 e2 => by subst e1 e2; rw [hv]; simp
        conv => whnf
        repeat ((first | refine SReq.mk (nil_sub hL) ?_ | refine zQ hX ?_ | refine zR hX ?_ | refine zA ?_ | refine zT ?_ | refine zF ?_ | refine zL hX hL ?_ | refine zB hX hL ?_ | (refine zS hX hL ?_; clear hL; intro w hL) | refine zI ?_ | refine zG hX ?_ | refine zO ?_); conv => whnf)
        refine ⟨j + 1, ⟨by omega, _, hF', hL⟩, by first | omega | (simp only; omega), ?_, ?_⟩
        · repeat (first | exact trivial | (refine And.intro (by (conv => lhs; whnf) <;> (conv => rhs; whnf) <;> (first | rfl)) ?_))
        · repeat (first | exact trivial | (refine And.intro (by (conv => lhs; whnf) <;> (conv => rhs; whnf) <;> (first | rfl)) ?_))
      · conv => whnf
        repeat ((first | refine Idx2Req.mk i _ rfl (by omega) rfl ?_ | refine Idx2Req.mk j _ rfl (by omega) rfl ?_ | refine QLdReq.one hX rfl rfl (hout i hin) ?_ | refine QLdReq.one hX rfl rfl (mcell_le hm1 hrow) ?_ | refine QLdReq.one hX rfl rfl (mcell_le hm1 hval) ?_ | refine QLdReq.one hX rfl rfl (mcell_le hm1 hrowb) ?_ | refine QLdReq.one hX rfl rfl (mcell_le hm1 hvalb) ?_ | refine zQ hX ?_ | refine zR hX ?_ | refine zA ?_ | refine zT ?_ | refine zF ?_ | refine zL hX hL ?_ | refine zB hX hL ?_ | (refine zS hX hL ?_; clear hL; intro w hL) | refine zI ?_ | refine zG hX ?_ | refine zO ?_); conv => whnf)
        refine StReq.tabc rfl rfl i hL (rowsL_get hin) hjn ?_
        clear hL
        intro w hL
        rw [rowsL_set] at hL
        have hF' : ∀ a b, a < n → b < n → upd F i j false a b = (decide (a < i ∨ a = i ∧ b < j + 1) && (fa a b && fb a b)) :=
          fun a b ha hb => lex_step (hF a b ha hb) fun e1 e2 => by subst e1 e2; rw [hv]; simp
        conv => whnf
        repeat ((first | refine SReq.mk (nil_sub hL) ?_ | refine zQ hX ?_ | refine zR hX ?_ | refine zA ?_ | refine zT ?_ | refine zF ?_ | refine zL hX hL ?_ | refine zB hX hL ?_ | (refine zS hX hL ?_; clear hL; intro w hL) | refine zI ?_ | refine zG hX ?_ | refine zO ?_); conv => whnf)
        refine ⟨j + 1, ⟨by omega, _, hF', hL⟩, by first | omega | (simp only; omega), ?_, ?_⟩
        · repeat (first | exact trivial | (refine And.intro (by (conv => lhs; whnf) <;> (conv => rhs; whnf) <;> (first | rfl)) ?_))
        · repeat (first | exact trivial | (refine And.intro (by (conv => lhs; whnf) <;> (conv => rhs; whnf) <;> (first | rfl)) ?_))
    · conv => whnf
      repeat ((first | refine zT ?_ | refine zF ?_ | refine zL hX hL ?_ | refine zB hX hL ?_ | (refine zS hX hL ?_; clear hL; intro w hL) | refine zI ?_ | refine zG hX ?_ | refine zO ?_); conv => whnf)
      refine ⟨i + 1, ⟨by omega, F, fun a b ha hb => by rw [hF a b ha hb]; exact lex_end hb (by omega), hL⟩, by first | omega | (simp only; omega), ?_, ?_⟩
      · repeat (first | exact trivial | (refine And.intro (by (conv => lhs; whnf) <;> (conv => rhs; whnf) <;> (first | rfl)) ?_))
      · repeat (first | exact trivial | (refine And.intro (by (conv => lhs; whnf) <;> (conv => rhs; whnf) <;> (first | rfl)) ?_))
  · conv => whnf
    repeat ((first | refine zT ?_ | refine zF ?_ | refine zL hX hL ?_ | refine zB hX hL ?_ | (refine zS hX hL ?_; clear hL; intro w hL) | refine zI ?_ | refine zG hX ?_ | refine zO ?_); conv => whnf)
    obtain ⟨m2, hL, hm2, hrep⟩ := OwnTab.freeze (L2 := []) ⟨g0, bs, rfl, hmax, hout, rfl⟩ (by rw [List.append_nil]; exact hL)
    exact RetReq.mk hL ⟨rfl, hrep.congr fun a b ha hb => by rw [hF a b ha hb, decide_eq_true (by omega), Bool.true_and]⟩
end Go.Proofs.YtpdiljdklllmjaaGreat.tabs
