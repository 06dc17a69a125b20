/- Formulas: parts that rise, parts within others, formed formulas, walked. Conditions: none. -/
import Derived.Test.YtnpgllgmcdhmcaaFoOrder

namespace Go.Proofs.Ytnpgllgmcdhmcaa.fo
open Go Go.Ev Go.Proofs

noncomputable def dec (p : Prop) : Bool := @decide p (Classical.propDecidable p)
theorem dec_t {p : Prop} (h : p) : dec p = true := @decide_eq_true p (Classical.propDecidable p) h
theorem dec_f {p : Prop} (h : ¬ p) : dec p = false := @decide_eq_false p (Classical.propDecidable p) h
theorem dec_iff {p : Prop} : dec p = true ↔ p := ⟨fun h => Classical.byContradiction fun hn => (by rw [dec_f hn] at h; cases h), dec_t⟩
/-- A formula: parts of numbers. -/
def prV (m : Mem) (cs : List Value) (p : Prt) : Prop := ∃ u, cs = [u] ∧ SlI m .i64 u p
def FmV (m : Mem) (v : Value) (f : Fml) : Prop := Sl m 1 (prV m) v f
theorem FmV.le {m m' : Mem} (h : Mem.Le m m') {v : Value} {f : Fml} (k : FmV m v f) : FmV m' v f := Sl.le k h fun _ _ _ ⟨u, e, hs⟩ => ⟨u, e, hs.le' h⟩
theorem FmV.at_ {m : Mem} {A : Option Addr} {n c : Nat} {f : Fml} (h : FmV m (.slice A n c) f) {i : Nat} (hi : i < f.length) : ∃ a A' n' c', A = some a ∧ mcell m (a.add (scale i 1)) = some (.slice A' n' c') ∧ SlI m .i64 (.slice A' n' c') f[i] := by
  obtain ⟨a, cs, e1, e2, e3, u, rfl, hs⟩ := Sl.elem h i _ (List.getElem?_eq_getElem hi)
  have hs' := hs
  obtain ⟨A', n', c', rfl, -⟩ := hs'
  have := e3 0 _ rfl
  have add0 : ∀ x : Addr, x.add 0 = x := fun x => by cases x; rfl
  rw [add0] at this
  exact ⟨a, A', n', c', e1, this, hs⟩
theorem FmV.take {m : Mem} {A : Option Addr} {n c : Nat} {f : Fml} (h : FmV m (.slice A n c) f) {j : Nat} (hj : j ≤ n) : FmV m (.slice A j c) (f.take j) := by
  obtain ⟨A', n', c', e, h1, h2, h3, h4⟩ := h
  injection e with e1 e2 e3
  subst e1 e2 e3
  refine ⟨A, j, c, rfl, by rw [List.length_take]; omega, by omega, h3, fun i x hx => ?_⟩
  rw [List.getElem?_take] at hx
  split at hx
  · exact h4 i x hx
  · cases hx
/-- What is one's own is shared: rows of one cell each. -/
theorem freeze1 {α : Type} {m0 m : Mem} {S : List Nat} {w0 w : World} {te : Nat} {v : Value} {vs : List Value} {l : List α} {R : Value → α → Prop} {L1 L2 : Ev.Own} (h : OwnS te 1 v vs L1) (hL : Ev.Loc m0 S w0 m (L1 ++ L2) w) (hl : l.length = vs.length)
    (hR : ∀ (i : Nat) (x : α), l[i]? = some x → ∃ u, vs[i]? = some u ∧ R u x) :
    ∃ m', Ev.Loc m0 S w0 m' L2 w ∧ Mem.Le m m' ∧ Sl m' 1 (fun cs x => ∃ u, cs = [u] ∧ R u x) v l := by
  obtain ⟨m', A, c, -, h1, h2, h3, -⟩ := OwnS.freezeRows (l := l) (size := 1) (rows := vs.map fun r => [r]) (R := fun cs x => ∃ u, cs = [u] ∧ R u x) (by omega) (by rw [show (vs.map fun r => [r]).flatten = vs from by simp [← List.flatMap_def]]; exact h) hL (by simp) (by simpa using hl) fun i x hx => by
    obtain ⟨u, hu, hr⟩ := hR i x hx
    exact ⟨[u], by rw [List.getElem?_map, hu]; rfl, u, rfl, hr⟩
  exact ⟨m', h1, h2, h3⟩
theorem fm_freeze {m0 m : Mem} {S : List Nat} {w0 w : World} {te : Nat} {v : Value} {vs : List Value} {f : Fml} {L1 L2 : Ev.Own} (h : OwnS te 1 v vs L1) (hL : Ev.Loc m0 S w0 m (L1 ++ L2) w) (hl : f.length = vs.length)
    (hR : ∀ (i : Nat) (p : Prt), f[i]? = some p → ∃ u, vs[i]? = some u ∧ SlI m .i64 u p) : ∃ m', Ev.Loc m0 S w0 m' L2 w ∧ Mem.Le m m' ∧ FmV m' v f := by
  obtain ⟨m', h1, h2, h3⟩ := freeze1 h hL hl hR
  exact ⟨m', h1, h2, Sl.le h3 (Mem.Le.refl _) fun _ _ _ ⟨u, e, hs⟩ => ⟨u, e, hs.le' h2⟩⟩

theorem rises_snoc {p : Prt} {n : Int} (h : Rises p) (h0 : 0 ≤ n) (hl : ∀ q, p.getLast? = some q → q < n) : Rises (p ++ [n]) := by
  refine ⟨fun q hq => ?_, List.pairwise_append.2 ⟨h.2, List.pairwise_singleton _ _, fun a ha b hb => ?_⟩⟩
  · rcases List.mem_append.1 hq with hq | hq
    · exact h.1 q hq
    · rw [List.mem_singleton.1 hq]; exact h0
  · rw [List.mem_singleton.1 hb]
    cases hg : p.getLast? with
    | none => rw [List.getLast?_eq_none_iff] at hg; subst hg; cases ha
    | some q =>
      have hq := hl q hg
      obtain ⟨g', rfl⟩ := List.getLast?_eq_some_iff.1 hg
      rcases List.mem_append.1 ha with ha | ha
      · have := (List.pairwise_append.1 h.2).2.2 a ha q (by simp); omega
      · rw [List.mem_singleton.1 ha]; exact hq
theorem take_last {α : Type} {l : List α} {j : Nat} (h0 : 0 < j) (hj : j ≤ l.length) : (l.take j).getLast? = l[j - 1]? := by
  rw [List.getLast?_eq_getElem?, List.length_take, Nat.min_eq_left hj, List.getElem?_take_of_lt (by omega)]
theorem take_succ' {α : Type} {l : List α} {j : Nat} (h : j < l.length) : l.take (j + 1) = l.take j ++ [l[j]] := by
  rw [List.take_add_one, List.getElem?_eq_getElem h]; rfl
theorem rises_fn (m : Mem) (v : Value) (l : Prt) (h : SlI m .i64 v l) : FnV Try.prog 22 [v] m (.bool (dec (Rises l))) := by
  have hmx : maxLen = 9223372036854775807 := rfl
  obtain ⟨A, n, c, rfl, hn, hc, hm, -⟩ := id h
  have hel := h.cell.2
  subst hn
  refine Fn.enter (N := 28) hX Try.func22 rfl rfl (by show _ ≤ _; simp) (fun w0 hL => ?_)
  conv => whnf
  conv => whnf
  repeat ((first | refine zT ?_ | refine zF ?_ | refine zL hX hL ?_ | refine zB hX hL ?_ | (refine zS hX hL ?_; clear hL; intro w hL) | refine zI ?_ | refine zG hX ?_ | refine zO ?_); conv => whnf)
  refine LoopReq.inv hX (fun j : Nat => [(7, .int .i64 j)]) [0, 5, 6]
    (fun j w => (j ≤ l.length ∧ Rises (l.take j)) ∧ Ev.Loc m [] w0 m [] w) (fun j => l.length - j) 0
    ⟨⟨Nat.zero_le _, by simp [Rises]⟩, hL⟩ ⟨rfl, trivial⟩ ?_
  clear hL
  rintro j w f ⟨⟨hj, hr⟩, hL⟩
  conv => whnf
  repeat ((first | refine zT ?_ | refine zF ?_ | refine zL hX hL ?_ | refine zB hX hL ?_ | (refine zS hX hL ?_; clear hL; intro w hL) | refine zI ?_ | refine zG hX ?_ | refine zO ?_); conv => whnf)
  refine BrReq.dec (fun hlt => ?_) (fun hlt => ?_)
  · have hj1 : j < l.length := by omega
    obtain ⟨a, rfl, ha⟩ := hel j _ (List.getElem?_eq_getElem hj1)
    have ha1 : mcell m (a.add (scale j 1)) = some (.int .i64 l[j]) := by rw [scale_eq, Nat.mul_one]; exact ha
    conv => whnf
    repeat ((first | refine Idx2Req.mk j a rfl (by omega) rfl ?_ | refine LdReq.one hX rfl rfl hL ha1 ?_ | refine zT ?_ | refine zF ?_ | refine zL hX hL ?_ | refine zB hX hL ?_ | (refine zS hX hL ?_; clear hL; intro w hL) | refine zI ?_ | refine zG hX ?_ | refine zO ?_); conv => whnf)
    by_cases h0 : l[j] < 0
    · have hno : ¬ Rises l := fun hr => by have := hr.1 _ (List.getElem_mem hj1); omega
      rw [dec_f hno]
      conv => whnf
      repeat ((first | refine BrReq.yes h0 ?_ | refine zT ?_ | refine zF ?_ | refine zL hX hL ?_ | refine zB hX hL ?_ | (refine zS hX hL ?_; clear hL; intro w hL) | refine zI ?_ | refine zG hX ?_ | refine zO ?_); conv => whnf)
      exact RetReq.bool hL rfl
    by_cases hj0 : 0 < j
    · obtain ⟨b, eb, hb⟩ := hel (j - 1) _ (List.getElem?_eq_getElem (by omega))
      injection eb with eb
      subst eb
      have hb1 : mcell m (a.add (scale (j - 1) 1)) = some (.int .i64 l[j - 1]) := by rw [scale_eq, Nat.mul_one]; exact hb
      by_cases hge : l[j] ≤ l[j - 1]
      · have hno : ¬ Rises l := fun hr => by have := List.pairwise_iff_getElem.1 hr.2 (j - 1) j (by omega) hj1 (by omega); omega
        rw [dec_f hno]
        conv => whnf
        repeat ((first | refine BrReq.no h0 ?_ | refine BrReq.yes (by omega) ?_ | refine Idx2Req.mk (j - 1) a (by omega) (by omega) rfl ?_ | refine LdReq.one hX rfl rfl hL hb1 ?_ | refine zT ?_ | refine zF ?_ | refine zL hX hL ?_ | refine zB hX hL ?_ | (refine zS hX hL ?_; clear hL; intro w hL) | refine zI ?_ | refine zG hX ?_ | refine zO ?_); conv => whnf)
        exact RetReq.bool hL rfl
      · have hr2 : Rises (l.take (j + 1)) := by
          rw [take_succ' hj1]
          refine rises_snoc hr (by omega) fun q hq => ?_
          rw [take_last hj0 hj, List.getElem?_eq_getElem (by omega)] at hq
          cases hq; omega
        conv => whnf
        repeat ((first | refine BrReq.no h0 ?_ | refine BrReq.yes (by omega) ?_ | refine Idx2Req.mk (j - 1) a (by omega) (by omega) rfl ?_ | refine LdReq.one hX rfl rfl hL hb1 ?_ | refine BrReq.no (by omega) ?_ | refine zT ?_ | refine zF ?_ | refine zL hX hL ?_ | refine zB hX hL ?_ | (refine zS hX hL ?_; clear hL; intro w hL) | refine zI ?_ | refine zG hX ?_ | refine zO ?_); conv => whnf)
        refine ⟨j + 1, ⟨⟨by omega, hr2⟩, hL⟩, by first | omega | (simp only; omega) | (simp only [List.length_cons, List.length_append]; omega), ?_, ?_⟩
        · repeat (first | exact trivial | (refine And.intro (by (conv => lhs; whnf) <;> (conv => rhs; whnf) <;> (first | rfl)) ?_))
        · repeat (first | exact trivial | (refine And.intro (by (conv => lhs; whnf) <;> (conv => rhs; whnf) <;> (first | rfl)) ?_))
    · have e0 : j = 0 := by omega
      subst e0
      have hr2 : Rises (l.take (0 + 1)) := by
        rw [take_succ' hj1]
        exact rises_snoc hr (by omega) fun q hq => by simp at hq
      conv => whnf
      repeat ((first | refine BrReq.no h0 ?_ | refine zT ?_ | refine zF ?_ | refine zL hX hL ?_ | refine zB hX hL ?_ | (refine zS hX hL ?_; clear hL; intro w hL) | refine zI ?_ | refine zG hX ?_ | refine zO ?_); conv => whnf)
      refine ⟨0 + 1, ⟨⟨by omega, hr2⟩, hL⟩, by first | omega | (simp only; omega) | (simp only [List.length_cons, List.length_append]; omega), ?_, ?_⟩
      · repeat (first | exact trivial | (refine And.intro (by (conv => lhs; whnf) <;> (conv => rhs; whnf) <;> (first | rfl)) ?_))
      · repeat (first | exact trivial | (refine And.intro (by (conv => lhs; whnf) <;> (conv => rhs; whnf) <;> (first | rfl)) ?_))
  · have ej : j = l.length := by omega
    subst ej
    rw [List.take_length] at hr
    rw [dec_t hr]
    conv => whnf
    repeat ((first | refine zT ?_ | refine zF ?_ | refine zL hX hL ?_ | refine zB hX hL ?_ | (refine zS hX hL ?_; clear hL; intro w hL) | refine zI ?_ | refine zG hX ?_ | refine zO ?_); conv => whnf)
    exact RetReq.bool hL rfl

theorem within_fn (m : Mem) (v1 v2 : Value) (a b : Prt) (h1 : SlI m .i64 v1 a) (h2 : SlI m .i64 v2 b) : FnV Try.prog 26 [v1, v2] m (.bool (a.isSublist b)) := by
  have hmx : maxLen = 9223372036854775807 := rfl
  obtain ⟨A, n, c, rfl, hn, hc, hm, -⟩ := id h1
  obtain ⟨B, n2, c2, rfl, hn2, hc2, hm2, -⟩ := id h2
  have ha := h1.cell.2
  have hb := h2.cell.2
  subst hn hn2
  refine Fn.enter (N := 33) hX Try.func26 rfl rfl (by show _ ≤ _; simp) (fun w0 hL => ?_)
  conv => whnf
  conv => whnf
  repeat ((first | refine zT ?_ | refine zF ?_ | refine zL hX hL ?_ | refine zB hX hL ?_ | (refine zS hX hL ?_; clear hL; intro w hL) | refine zI ?_ | refine zG hX ?_ | refine zO ?_); conv => whnf)
  refine LoopReq.inv hX (fun s : Nat × Nat => [(5, .int .i64 s.2), (10, .int .i64 s.1)]) [0, 8, 9]
    (fun s w => (s.1 ≤ b.length ∧ s.2 ≤ a.length ∧ (a.drop s.2).isSublist (b.drop s.1) = a.isSublist b) ∧ Ev.Loc m [] w0 m [] w) (fun s => b.length - s.1) (0, 0)
    ⟨⟨Nat.zero_le _, Nat.zero_le _, rfl⟩, hL⟩ ⟨rfl, rfl, trivial⟩ ?_
  clear hL
  rintro ⟨j, i⟩ w f ⟨⟨hj, hi, hs⟩, hL⟩
  simp only at hj hi hs
  conv => whnf
  repeat ((first | refine zT ?_ | refine zF ?_ | refine zL hX hL ?_ | refine zB hX hL ?_ | (refine zS hX hL ?_; clear hL; intro w hL) | refine zI ?_ | refine zG hX ?_ | refine zO ?_); conv => whnf)
  refine BrReq.dec (fun hlt => ?_) (fun hlt => ?_)
  · have hj1 : j < b.length := by simp only at hlt; omega
    obtain ⟨bb, rfl, hbc⟩ := hb j _ (List.getElem?_eq_getElem hj1)
    have hb1 : mcell m (bb.add (scale j 1)) = some (.int .i64 b[j]) := by rw [scale_eq, Nat.mul_one]; exact hbc
    rw [List.drop_eq_getElem_cons hj1] at hs
    by_cases hi1 : i < a.length
    · obtain ⟨aa, rfl, hac⟩ := ha i _ (List.getElem?_eq_getElem hi1)
      have ha1 : mcell m (aa.add (scale i 1)) = some (.int .i64 a[i]) := by rw [scale_eq, Nat.mul_one]; exact hac
      rw [List.drop_eq_getElem_cons hi1, List.isSublist] at hs
      by_cases he : a[i] = b[j]
      · rw [if_pos (by simpa using he)] at hs
        conv => whnf
        repeat ((first | (refine Idx2Req.mk j bb rfl (by simp only at hlt; omega) rfl ?_) | refine LdReq.one hX rfl rfl hL hb1 ?_ | refine BrReq.yes (by omega) ?_ | refine Idx2Req.mk i aa rfl (by omega) rfl ?_ | refine LdReq.one hX rfl rfl hL ha1 ?_ | refine BrReq.yes he ?_ | refine zT ?_ | refine zF ?_ | refine zL hX hL ?_ | refine zB hX hL ?_ | (refine zS hX hL ?_; clear hL; intro w hL) | refine zI ?_ | refine zG hX ?_ | refine zO ?_); conv => whnf)
        refine ⟨(j + 1, i + 1), ⟨⟨by simp only; omega, by simp only; omega, hs⟩, hL⟩, by first | omega | (simp only; omega) | (simp only [List.length_cons, List.length_append]; omega), ?_, ?_⟩
        · repeat (first | exact trivial | (refine And.intro (by (conv => lhs; whnf) <;> (conv => rhs; whnf) <;> (first | rfl)) ?_))
        · repeat (first | exact trivial | (refine And.intro (by (conv => lhs; whnf) <;> (conv => rhs; whnf) <;> (first | rfl)) ?_))
      · rw [if_neg (by simpa using he), ← List.drop_eq_getElem_cons hi1] at hs
        conv => whnf
        repeat ((first | (refine Idx2Req.mk j bb rfl (by simp only at hlt; omega) rfl ?_) | refine LdReq.one hX rfl rfl hL hb1 ?_ | refine BrReq.yes (by omega) ?_ | refine Idx2Req.mk i aa rfl (by omega) rfl ?_ | refine LdReq.one hX rfl rfl hL ha1 ?_ | refine BrReq.no he ?_ | refine zT ?_ | refine zF ?_ | refine zL hX hL ?_ | refine zB hX hL ?_ | (refine zS hX hL ?_; clear hL; intro w hL) | refine zI ?_ | refine zG hX ?_ | refine zO ?_); conv => whnf)
        refine ⟨(j + 1, i), ⟨⟨by simp only; omega, by simp only; omega, hs⟩, hL⟩, by first | omega | (simp only; omega) | (simp only [List.length_cons, List.length_append]; omega), ?_, ?_⟩
        · repeat (first | exact trivial | (refine And.intro (by (conv => lhs; whnf) <;> (conv => rhs; whnf) <;> (first | rfl)) ?_))
        · repeat (first | exact trivial | (refine And.intro (by (conv => lhs; whnf) <;> (conv => rhs; whnf) <;> (first | rfl)) ?_))
    · rw [List.drop_eq_nil_of_le (by omega), List.isSublist] at hs
      have hs2 : (a.drop i).isSublist (b.drop (j + 1)) = a.isSublist b := by rw [List.drop_eq_nil_of_le (by omega), ← hs, List.isSublist]
      conv => whnf
      repeat ((first | (refine Idx2Req.mk j bb rfl (by simp only at hlt; omega) rfl ?_) | refine LdReq.one hX rfl rfl hL hb1 ?_ | refine BrReq.no (by omega) ?_ | refine zT ?_ | refine zF ?_ | refine zL hX hL ?_ | refine zB hX hL ?_ | (refine zS hX hL ?_; clear hL; intro w hL) | refine zI ?_ | refine zG hX ?_ | refine zO ?_); conv => whnf)
      refine ⟨(j + 1, i), ⟨⟨by simp only; omega, by simp only; omega, hs2⟩, hL⟩, by first | omega | (simp only; omega) | (simp only [List.length_cons, List.length_append]; omega), ?_, ?_⟩
      · repeat (first | exact trivial | (refine And.intro (by (conv => lhs; whnf) <;> (conv => rhs; whnf) <;> (first | rfl)) ?_))
      · repeat (first | exact trivial | (refine And.intro (by (conv => lhs; whnf) <;> (conv => rhs; whnf) <;> (first | rfl)) ?_))
  · have ej : j = b.length := by simp only at hlt; omega
    subst ej
    rw [List.drop_length] at hs
    have hv : a.isSublist b = decide ((i : Int) = (a.length : Int)) := by
      rw [← hs]
      by_cases hi1 : i < a.length
      · rw [List.drop_eq_getElem_cons hi1, decide_eq_false (by omega)]; rfl
      · rw [List.drop_eq_nil_of_le (by omega), List.isSublist, decide_eq_true (by omega)]
    rw [hv]
    conv => whnf
    repeat ((first | refine zT ?_ | refine zF ?_ | refine zL hX hL ?_ | refine zB hX hL ?_ | (refine zS hX hL ?_; clear hL; intro w hL) | refine zI ?_ | refine zG hX ?_ | refine zO ?_); conv => whnf)
    exact RetReq.bool hL rfl

/-- The first one of which the test is true; -1: none. -/
def idxG {α : Type} (f : α → Bool) : List α → Int
  | [] => -1
  | p :: l => if f p = true then 0 else if idxG f l < 0 then -1 else idxG f l + 1
theorem idxG_at {α : Type} {f : α → Bool} : ∀ (l : List α) (i : Nat) (x : α), l[i]? = some x → f x = true → (∀ (q : Nat) (y : α), q < i → l[q]? = some y → f y = false) → idxG f l = i := by
  intro l
  induction l with
  | nil => intro i x h; simp at h
  | cons p l ih =>
    intro i x h hx hq
    cases i with
    | zero => simp at h; subst h; simp only [idxG]; rw [if_pos hx]; rfl
    | succ i =>
      have h0 := hq 0 p (by omega) rfl
      simp only [idxG]
      rw [if_neg (by rw [h0]; simp), ih i x (by simpa using h) hx fun q y hlt hy => hq (q + 1) y (by omega) (by simpa using hy), if_neg (by omega)]
      omega
theorem idxG_none {α : Type} {f : α → Bool} : ∀ (l : List α), (∀ x ∈ l, f x = false) → idxG f l = -1 := by
  intro l
  induction l with
  | nil => intro _; rfl
  | cons p l ih =>
    intro h
    simp only [idxG]
    rw [if_neg (by rw [h p (by simp)]; simp), ih fun x hx => h x (by simp [hx]), if_pos (by omega)]
theorem idxG_neg {α : Type} {f : α → Bool} : ∀ (l : List α), 0 ≤ idxG f l ↔ l.any f = true := by
  intro l
  induction l with
  | nil => simp [idxG]
  | cons p l ih =>
    simp only [idxG, List.any_cons, Bool.or_eq_true]
    by_cases h : f p = true
    · rw [if_pos h]; exact ⟨fun _ => .inl h, fun _ => by omega⟩
    · rw [if_neg h]
      by_cases h2 : idxG f l < 0
      · rw [if_pos h2]; exact ⟨fun h' => absurd h' (by omega), fun h' => h'.elim (fun h3 => absurd h3 h) fun h3 => absurd (ih.2 h3) (by omega)⟩
      · rw [if_neg h2]; exact ⟨fun _ => .inr (ih.1 (by omega)), fun _ => by omega⟩
theorem indexF_fn (m : Mem) (v : Value) (rs : Fml) (f : Prt → Bool) (b0 : Nat) (hs : FmV m v rs) (hf : ∀ p ∈ rs, ∀ u, SlI m .i64 u p → FnV Try.prog 25 ([u] ++ [.pointer (some ⟨b0, 0, none⟩)]) m (.bool (f p))) :
    FnV Try.prog 43 [v, .func (.func 25) #[] #[.pointer (some ⟨b0, 0, none⟩)]] m (.int .i64 (idxG f rs)) := by
  have hmx : maxLen = 9223372036854775807 := rfl
  obtain ⟨A, n, c, rfl, hn, hc, hm, -⟩ := id hs
  subst hn
  refine Fn.enter (N := 19) hX Try.func43 rfl rfl (by show _ ≤ _; simp) (fun w0 hL => ?_)
  conv => whnf
  conv => whnf
  repeat ((first | refine zT ?_ | refine zF ?_ | refine zL hX hL ?_ | refine zB hX hL ?_ | (refine zS hX hL ?_; clear hL; intro w hL) | refine zI ?_ | refine zG hX ?_ | refine zO ?_); conv => whnf)
  refine LoopReq.inv hX (fun j : Nat => [(8, .int .i64 j)]) [0, 1, 7]
    (fun j w => (j ≤ rs.length ∧ ∀ (i : Nat) (x : Prt), i < j → rs[i]? = some x → f x = false) ∧ Ev.Loc m [] w0 m [] w) (fun j => rs.length - j) 0
    ⟨⟨by omega, fun i x h => absurd h (by omega)⟩, hL⟩ ⟨rfl, trivial⟩ ?_
  clear hL
  rintro j w g ⟨⟨hj, hdone⟩, hL⟩
  conv => whnf
  repeat ((first | refine zT ?_ | refine zF ?_ | refine zL hX hL ?_ | refine zB hX hL ?_ | (refine zS hX hL ?_; clear hL; intro w hL) | refine zI ?_ | refine zG hX ?_ | refine zO ?_); conv => whnf)
  refine BrReq.dec (fun hlt => ?_) (fun hlt => ?_)
  · have hlt' : j < rs.length := by omega
    obtain ⟨a, A', n', c', rfl, hcell, hp⟩ := hs.at_ hlt'
    conv => whnf
    repeat ((first | refine Idx2Req.mk j a rfl (by omega) rfl ?_ | refine LdReq.one hX rfl rfl hL hcell ?_ | refine zT ?_ | refine zF ?_ | refine zL hX hL ?_ | refine zB hX hL ?_ | (refine zS hX hL ?_; clear hL; intro w hL) | refine zI ?_ | refine zG hX ?_ | refine zO ?_); conv => whnf)
    refine CallReq.val (hf _ (List.getElem_mem hlt') _ hp) hL ?_
    clear hL
    intro w hL
    conv => whnf
    repeat ((first | refine zT ?_ | refine zF ?_ | refine zL hX hL ?_ | refine zB hX hL ?_ | (refine zS hX hL ?_; clear hL; intro w hL) | refine zI ?_ | refine zG hX ?_ | refine zO ?_); conv => whnf)
    refine BrReq.bool (fun hb => ?_) (fun hb => ?_)
    · have e := idxG_at (f := f) rs j _ (List.getElem?_eq_getElem hlt') hb fun q y h1 h2 => hdone q y h1 h2
      conv => whnf
      repeat ((first | refine zT ?_ | refine zF ?_ | refine zL hX hL ?_ | refine zB hX hL ?_ | (refine zS hX hL ?_; clear hL; intro w hL) | refine zI ?_ | refine zG hX ?_ | refine zO ?_); conv => whnf)
      exact RetReq.int hL e.symm
    · have hd : ∀ (i : Nat) (x : Prt), i < j + 1 → rs[i]? = some x → f x = false := by
        intro i x hi hx
        by_cases e : i = j
        · subst e
          rw [List.getElem?_eq_getElem hlt'] at hx
          cases hx; exact hb
        · exact hdone i x (by omega) hx
      conv => whnf
      repeat ((first | refine zT ?_ | refine zF ?_ | refine zL hX hL ?_ | refine zB hX hL ?_ | (refine zS hX hL ?_; clear hL; intro w hL) | refine zI ?_ | refine zG hX ?_ | refine zO ?_); conv => whnf)
      refine ⟨j + 1, ⟨⟨by omega, hd⟩, hL⟩, by first | omega | (simp only; omega) | (simp only [List.length_cons, List.length_append]; omega), ?_, ?_⟩
      · repeat (first | exact trivial | (refine And.intro (by (conv => lhs; whnf) <;> (conv => rhs; whnf) <;> (first | rfl)) ?_))
      · repeat (first | exact trivial | (refine And.intro (by (conv => lhs; whnf) <;> (conv => rhs; whnf) <;> (first | rfl)) ?_))
  · conv => whnf
    repeat ((first | refine zT ?_ | refine zF ?_ | refine zL hX hL ?_ | refine zB hX hL ?_ | (refine zS hX hL ?_; clear hL; intro w hL) | refine zI ?_ | refine zG hX ?_ | refine zO ?_); conv => whnf)
    have e : idxG f rs = -1 := idxG_none rs fun x hx => by
      obtain ⟨i, hi, rfl⟩ := List.getElem_of_mem hx
      exact hdone i _ (by omega) (List.getElem?_eq_getElem hi)
    exact RetReq.int hL e.symm
theorem testF_fn (m : Mem) (b0 : Nat) (A : Option Addr) (n c : Nat) (p q : Prt) (u : Value) (hq : SlI m .i64 u q) (hp : SlI m .i64 (.slice A n c) p) (hb : mcell m ⟨b0, 0, none⟩ = some (.slice A n c)) :
    FnV Try.prog 25 ([u] ++ [.pointer (some ⟨b0, 0, none⟩)]) m (.bool (q.isSublist p)) := by
  have hw := within_fn m u (.slice A n c) q p hq hp
  obtain ⟨A', n', c', rfl, -⟩ := id hq
  refine Fn.enter (N := 7) hX Try.func25 rfl rfl (by show _ ≤ _; simp) (fun w0 hL => ?_)
  conv => whnf
  conv => whnf
  repeat ((first | refine LdReq.one hX rfl rfl hL hb ?_ | refine zT ?_ | refine zF ?_ | refine zL hX hL ?_ | refine zB hX hL ?_ | (refine zS hX hL ?_; clear hL; intro w hL) | refine zI ?_ | refine zG hX ?_ | refine zO ?_); conv => whnf)
  refine CallReq.val hw hL ?_
  clear hL
  intro w hL
  conv => whnf
  repeat ((first | refine zT ?_ | refine zF ?_ | refine zL hX hL ?_ | refine zB hX hL ?_ | (refine zS hX hL ?_; clear hL; intro w hL) | refine zI ?_ | refine zG hX ?_ | refine zO ?_); conv => whnf)
  exact RetReq.bool hL rfl
theorem containsF_fn (m : Mem) (v : Value) (rs : Fml) (b0 : Nat) (A : Option Addr) (n c : Nat) (p : Prt) (hs : FmV m v rs) (hp : SlI m .i64 (.slice A n c) p) (hb : mcell m ⟨b0, 0, none⟩ = some (.slice A n c)) :
    FnV Try.prog 24 [v, .func (.func 25) #[] #[.pointer (some ⟨b0, 0, none⟩)]] m (.bool (rs.any fun q => q.isSublist p)) := by
  have hix := indexF_fn m v rs (fun q => q.isSublist p) b0 hs fun q _ u hu => testF_fn m b0 A n c p q u hu hp hb
  obtain ⟨A2, n2, c2, rfl, -⟩ := id hs
  refine Fn.enter (N := 9) hX Try.func24 rfl rfl (by show _ ≤ _; simp) (fun w0 hL => ?_)
  conv => whnf
  conv => whnf
  repeat ((first | refine zT ?_ | refine zF ?_ | refine zL hX hL ?_ | refine zB hX hL ?_ | (refine zS hX hL ?_; clear hL; intro w hL) | refine zI ?_ | refine zG hX ?_ | refine zO ?_); conv => whnf)
  refine CallReq.val hix hL ?_
  clear hL
  intro w hL
  conv => whnf
  repeat ((first | refine zT ?_ | refine zF ?_ | refine zL hX hL ?_ | refine zB hX hL ?_ | (refine zS hX hL ?_; clear hL; intro w hL) | refine zI ?_ | refine zG hX ?_ | refine zO ?_); conv => whnf)
  refine RetReq.bool hL ?_
  rw [Bool.eq_iff_iff, decide_eq_true_iff]
  exact idxG_neg rs
theorem indexM_fn (m : Mem) (v : Value) (rs : Fml) (f : Prt → Bool) (b0 : Nat) (hs : FmV m v rs) (hf : ∀ p ∈ rs, ∀ u, SlI m .i64 u p → FnV Try.prog 45 ([u] ++ [.pointer (some ⟨b0, 0, none⟩)]) m (.bool (f p))) :
    FnV Try.prog 43 [v, .func (.func 45) #[] #[.pointer (some ⟨b0, 0, none⟩)]] m (.int .i64 (idxG f rs)) := by
  have hmx : maxLen = 9223372036854775807 := rfl
  obtain ⟨A, n, c, rfl, hn, hc, hm, -⟩ := id hs
  subst hn
  refine Fn.enter (N := 19) hX Try.func43 rfl rfl (by show _ ≤ _; simp) (fun w0 hL => ?_)
  conv => whnf
  conv => whnf
  repeat ((first | refine zT ?_ | refine zF ?_ | refine zL hX hL ?_ | refine zB hX hL ?_ | (refine zS hX hL ?_; clear hL; intro w hL) | refine zI ?_ | refine zG hX ?_ | refine zO ?_); conv => whnf)
  refine LoopReq.inv hX (fun j : Nat => [(8, .int .i64 j)]) [0, 1, 7]
    (fun j w => (j ≤ rs.length ∧ ∀ (i : Nat) (x : Prt), i < j → rs[i]? = some x → f x = false) ∧ Ev.Loc m [] w0 m [] w) (fun j => rs.length - j) 0
    ⟨⟨by omega, fun i x h => absurd h (by omega)⟩, hL⟩ ⟨rfl, trivial⟩ ?_
  clear hL
  rintro j w g ⟨⟨hj, hdone⟩, hL⟩
  conv => whnf
  repeat ((first | refine zT ?_ | refine zF ?_ | refine zL hX hL ?_ | refine zB hX hL ?_ | (refine zS hX hL ?_; clear hL; intro w hL) | refine zI ?_ | refine zG hX ?_ | refine zO ?_); conv => whnf)
  refine BrReq.dec (fun hlt => ?_) (fun hlt => ?_)
  · have hlt' : j < rs.length := by omega
    obtain ⟨a, A', n', c', rfl, hcell, hp⟩ := hs.at_ hlt'
    conv => whnf
    repeat ((first | refine Idx2Req.mk j a rfl (by omega) rfl ?_ | refine LdReq.one hX rfl rfl hL hcell ?_ | refine zT ?_ | refine zF ?_ | refine zL hX hL ?_ | refine zB hX hL ?_ | (refine zS hX hL ?_; clear hL; intro w hL) | refine zI ?_ | refine zG hX ?_ | refine zO ?_); conv => whnf)
    refine CallReq.val (hf _ (List.getElem_mem hlt') _ hp) hL ?_
    clear hL
    intro w hL
    conv => whnf
    repeat ((first | refine zT ?_ | refine zF ?_ | refine zL hX hL ?_ | refine zB hX hL ?_ | (refine zS hX hL ?_; clear hL; intro w hL) | refine zI ?_ | refine zG hX ?_ | refine zO ?_); conv => whnf)
    refine BrReq.bool (fun hb => ?_) (fun hb => ?_)
    · have e := idxG_at (f := f) rs j _ (List.getElem?_eq_getElem hlt') hb fun q y h1 h2 => hdone q y h1 h2
      conv => whnf
      repeat ((first | refine zT ?_ | refine zF ?_ | refine zL hX hL ?_ | refine zB hX hL ?_ | (refine zS hX hL ?_; clear hL; intro w hL) | refine zI ?_ | refine zG hX ?_ | refine zO ?_); conv => whnf)
      exact RetReq.int hL e.symm
    · have hd : ∀ (i : Nat) (x : Prt), i < j + 1 → rs[i]? = some x → f x = false := by
        intro i x hi hx
        by_cases e : i = j
        · subst e
          rw [List.getElem?_eq_getElem hlt'] at hx
          cases hx; exact hb
        · exact hdone i x (by omega) hx
      conv => whnf
      repeat ((first | refine zT ?_ | refine zF ?_ | refine zL hX hL ?_ | refine zB hX hL ?_ | (refine zS hX hL ?_; clear hL; intro w hL) | refine zI ?_ | refine zG hX ?_ | refine zO ?_); conv => whnf)
      refine ⟨j + 1, ⟨⟨by omega, hd⟩, hL⟩, by first | omega | (simp only; omega) | (simp only [List.length_cons, List.length_append]; omega), ?_, ?_⟩
      · repeat (first | exact trivial | (refine And.intro (by (conv => lhs; whnf) <;> (conv => rhs; whnf) <;> (first | rfl)) ?_))
      · repeat (first | exact trivial | (refine And.intro (by (conv => lhs; whnf) <;> (conv => rhs; whnf) <;> (first | rfl)) ?_))
  · conv => whnf
    repeat ((first | refine zT ?_ | refine zF ?_ | refine zL hX hL ?_ | refine zB hX hL ?_ | (refine zS hX hL ?_; clear hL; intro w hL) | refine zI ?_ | refine zG hX ?_ | refine zO ?_); conv => whnf)
    have e : idxG f rs = -1 := idxG_none rs fun x hx => by
      obtain ⟨i, hi, rfl⟩ := List.getElem_of_mem hx
      exact hdone i _ (by omega) (List.getElem?_eq_getElem hi)
    exact RetReq.int hL e.symm
theorem testM_fn (m : Mem) (b0 : Nat) (A : Option Addr) (n c : Nat) (p q : Prt) (u : Value) (hq : SlI m .i64 u q) (hp : SlI m .i64 (.slice A n c) p) (hb : mcell m ⟨b0, 0, none⟩ = some (.slice A n c)) :
    FnV Try.prog 45 ([u] ++ [.pointer (some ⟨b0, 0, none⟩)]) m (.bool (q.isSublist p)) := by
  have hw := within_fn m u (.slice A n c) q p hq hp
  obtain ⟨A', n', c', rfl, -⟩ := id hq
  refine Fn.enter (N := 7) hX Try.func45 rfl rfl (by show _ ≤ _; simp) (fun w0 hL => ?_)
  conv => whnf
  conv => whnf
  repeat ((first | refine LdReq.one hX rfl rfl hL hb ?_ | refine zT ?_ | refine zF ?_ | refine zL hX hL ?_ | refine zB hX hL ?_ | (refine zS hX hL ?_; clear hL; intro w hL) | refine zI ?_ | refine zG hX ?_ | refine zO ?_); conv => whnf)
  refine CallReq.val hw hL ?_
  clear hL
  intro w hL
  conv => whnf
  repeat ((first | refine zT ?_ | refine zF ?_ | refine zL hX hL ?_ | refine zB hX hL ?_ | (refine zS hX hL ?_; clear hL; intro w hL) | refine zI ?_ | refine zG hX ?_ | refine zO ?_); conv => whnf)
  exact RetReq.bool hL rfl
theorem containsM_fn (m : Mem) (v : Value) (rs : Fml) (b0 : Nat) (A : Option Addr) (n c : Nat) (p : Prt) (hs : FmV m v rs) (hp : SlI m .i64 (.slice A n c) p) (hb : mcell m ⟨b0, 0, none⟩ = some (.slice A n c)) :
    FnV Try.prog 24 [v, .func (.func 45) #[] #[.pointer (some ⟨b0, 0, none⟩)]] m (.bool (rs.any fun q => q.isSublist p)) := by
  have hix := indexM_fn m v rs (fun q => q.isSublist p) b0 hs fun q _ u hu => testM_fn m b0 A n c p q u hu hp hb
  obtain ⟨A2, n2, c2, rfl, -⟩ := id hs
  refine Fn.enter (N := 9) hX Try.func24 rfl rfl (by show _ ≤ _; simp) (fun w0 hL => ?_)
  conv => whnf
  conv => whnf
  repeat ((first | refine zT ?_ | refine zF ?_ | refine zL hX hL ?_ | refine zB hX hL ?_ | (refine zS hX hL ?_; clear hL; intro w hL) | refine zI ?_ | refine zG hX ?_ | refine zO ?_); conv => whnf)
  refine CallReq.val hix hL ?_
  clear hL
  intro w hL
  conv => whnf
  repeat ((first | refine zT ?_ | refine zF ?_ | refine zL hX hL ?_ | refine zB hX hL ?_ | (refine zS hX hL ?_; clear hL; intro w hL) | refine zI ?_ | refine zG hX ?_ | refine zO ?_); conv => whnf)
  refine RetReq.bool hL ?_
  rw [Bool.eq_iff_iff, decide_eq_true_iff]
  exact idxG_neg rs
theorem mcell_add {m : Mem} {b i te : Nat} {cs : List Value} {fz : Nat × Nat} {v : Value} (h : cs[i]? = some v) : mcell (m.add b (.cells (toArr cs) te fz)) ⟨b, i, none⟩ = some v := by
  simp only [mcell, ocell, Mem.add_same, toArr, List.getElem?_toArray]
  exact h

set_option maxHeartbeats 2000000 in
theorem Formed_fn (m : Mem) (v : Value) (f : Fml) (h : FmV m v f) : FnV Try.prog 8 [v] m (.bool (dec (FormedP f))) := by
  have hmx : maxLen = 9223372036854775807 := rfl
  obtain ⟨A, n, c, rfl, hn, hc, hm, -⟩ := id h
  subst hn
  suffices hh : Fn0 Try.prog 8 [.slice A f.length c] m fun _ u => u = .bool (dec (FormedP f)) from hh
  refine Fn.enter (N := 35) hX Try.func8 rfl rfl (by show _ ≤ _; simp) (fun w0 hL => ?_)
  conv => whnf
  conv => whnf
  repeat ((first | refine zT ?_ | refine zF ?_ | refine zL hX hL ?_ | refine zB hX hL ?_ | (refine zS hX hL ?_; clear hL; intro w hL) | refine zI ?_ | refine zG hX ?_ | refine zO ?_); conv => whnf)
  refine LoopReq.inv hX (fun j : Nat => [(7, .int .i64 j)]) [0, 5, 6]
    (fun j w => (j ≤ f.length ∧ FormedP (f.take j)) ∧ ∃ m1, Mem.Le m m1 ∧ Ev.Loc m [] w0 m1 [] w) (fun j => f.length - j) 0
    ⟨⟨Nat.zero_le _, by rw [List.take_zero]; exact FormedP.nil⟩, m, Mem.Le.refl m, hL⟩ ⟨rfl, trivial⟩ ?_
  clear hL
  rintro j w g ⟨⟨hj, hr⟩, m1, hm1, hL⟩
  conv => whnf
  repeat ((first | refine zT ?_ | refine zF ?_ | refine zL hX hL ?_ | refine zB hX hL ?_ | (refine zS hX hL ?_; clear hL; intro w hL) | refine zI ?_ | refine zG hX ?_ | refine zO ?_); conv => whnf)
  refine BrReq.dec (fun hlt => ?_) (fun hlt => ?_)
  rotate_left
  · have ej : j = f.length := by omega
    subst ej
    rw [List.take_length] at hr
    rw [dec_t hr]
    conv => whnf
    repeat ((first | refine zT ?_ | refine zF ?_ | refine zL hX hL ?_ | refine zB hX hL ?_ | (refine zS hX hL ?_; clear hL; intro w hL) | refine zI ?_ | refine zG hX ?_ | refine zO ?_); conv => whnf)
    exact RetReq.mk hL ⟨rfl, rfl⟩
  have hj1 : j < f.length := by omega
  have h1 := h.le hm1
  obtain ⟨a, A', n', c', ea, hcell, hp⟩ := h1.at_ hj1
  conv => whnf
  repeat ((first | refine Idx2Req.mk j a rfl (by omega) ea ?_ | refine LdReq.one hX rfl rfl hL hcell ?_ | refine zT ?_ | refine zF ?_ | refine zL hX hL ?_ | refine zB hX hL ?_ | (refine zS hX hL ?_; clear hL; intro w hL) | refine zI ?_ | refine zG hX ?_ | refine zO ?_); conv => whnf)
  refine NewReq.mk hL ?_
  clear hL
  intro b4 w hL
  conv => whnf
  replace hL : Ev.Loc m [] w0 m1 [(b4, .cells (toArr [.slice none 0 0]) 34 (0, 0))] w := hL
  conv => whnf
  repeat ((first | refine zT ?_ | refine zF ?_ | refine zL hX hL ?_ | refine zB hX hL ?_ | (refine zS hX hL ?_; clear hL; intro w hL) | refine zI ?_ | refine zG hX ?_ | refine zO ?_); conv => whnf)
  refine DrawReq.plan hX (.fst 0 (.alt 1 (.fst 2 (.fst 3 (.fst 4 (.fst 5 (.fst 6 (.fst 7 (.fst 8 (.fst 9 (.fst 10 (.fst 11 (.fst 12 (.alt 13 (.fst 14 (.fst 15 (.fst 16 (.done)))) (.stop))))))))))))) (.stop))) [(b4, .cells (toArr [.slice A' n' c']) 34 (0, 0))] (by kernel_rfl) (by kernel_rfl) hL id ?_
  clear hL
  intro w hL
  conv => whnf
  repeat ((first | refine zQ hX ?_ | refine zR hX ?_ | refine zA ?_ | refine zT ?_ | refine zF ?_ | refine zL hX hL ?_ | refine zB hX hL ?_ | (refine zS hX hL ?_; clear hL; intro w hL) | refine zI ?_ | refine zG hX ?_ | refine zO ?_); conv => whnf)
  refine CallReq.val (rises_fn m1 _ _ hp) hL ?_
  clear hL
  intro w hL
  by_cases hri : Rises f[j]
  rotate_left
  · rw [dec_f hri]
    conv => whnf
    repeat ((first | refine SReq.mk hL ?_ | refine zQ hX ?_ | refine zR hX ?_ | refine zA ?_ | refine zT ?_ | refine zF ?_ | refine zL hX hL ?_ | refine zB hX hL ?_ | (refine zS hX hL ?_; clear hL; intro w hL) | refine zI ?_ | refine zG hX ?_ | refine zO ?_); conv => whnf)
    have hno : ¬ FormedP f := fun hf => hri (hf.rises _ (List.getElem_mem hj1))
    rw [dec_f hno]
    exact RetReq.mk hL.drop ⟨rfl, rfl⟩
  rw [dec_t hri]
  by_cases hj0 : 0 < j
  · obtain ⟨a2, A2, n2, c2, ea2, hcell2, hp2⟩ := h1.at_ (show j - 1 < f.length by omega)
    conv => whnf
    repeat ((first | refine SReq.mk hL ?_ | refine BrReq.yes (by omega) ?_ | refine Idx2Req.mk (j - 1) a2 (by omega) (by omega) ea2 ?_ | refine QLdReq.one hX rfl rfl hcell2 ?_ | refine zQ hX ?_ | refine zR hX ?_ | refine zA ?_ | refine zT ?_ | refine zF ?_ | refine zL hX hL ?_ | refine zB hX hL ?_ | (refine zS hX hL ?_; clear hL; intro w hL) | refine zI ?_ | refine zG hX ?_ | refine zO ?_); conv => whnf)
    refine CallReq.val (order_fn m1 _ _ _ _ hp2 hp) hL ?_
    clear hL
    intro w hL
    by_cases hls : lessP f[j - 1] f[j]
    · have ho := ord_neg.2 hls
      conv => whnf
      repeat ((first | refine SReq.mk hL ?_ | refine zQ hX ?_ | refine zR hX ?_ | refine zA ?_ | refine zT ?_ | refine zF ?_ | refine zL hX hL ?_ | refine zB hX hL ?_ | (refine zS hX hL ?_; clear hL; intro w hL) | refine zI ?_ | refine zG hX ?_ | refine zO ?_); conv => whnf)
      refine BrReq.no (by omega) ?_
      have hL0 := hL.le_add
      have hL := hL.freeze
      have hsub := Sl.sub (h1.le hL0) (lo := 0) (hi := j) (Nat.zero_le _) (by omega)
      rw [List.drop_zero] at hsub
      have hcc := containsF_fn _ _ (f.take j) b4 A' n' c' f[j] hsub (hp.le' hL0) (mcell_add rfl)
      conv => whnf
      repeat ((first | refine SlReq.mk 0 j rfl rfl (by omega) (by omega) ?_ | refine zT ?_ | refine zF ?_ | refine zL hX hL ?_ | refine zB hX hL ?_ | (refine zS hX hL ?_; clear hL; intro w hL) | refine zI ?_ | refine zG hX ?_ | refine zO ?_); conv => whnf)
      refine CallReq.val hcc hL ?_
      clear hL
      intro w hL
      cases hany : ((f.take j).any fun q => q.isSublist f[j]) with
      | true =>
        obtain ⟨q, hq, hqs⟩ := List.any_eq_true.1 hany
        have hno : ¬ FormedP f := fun hf => by
          obtain ⟨i, hi, rfl⟩ := List.getElem_of_mem hq
          rw [List.length_take] at hi
          rw [List.getElem_take] at hqs
          exact List.pairwise_iff_getElem.1 hf.apart i j (by omega) hj1 (by omega) (list_sub (List.isSublist_iff_sublist.1 hqs))
        rw [dec_f hno]
        conv => whnf
        repeat ((first | refine zT ?_ | refine zF ?_ | refine zL hX hL ?_ | refine zB hX hL ?_ | (refine zS hX hL ?_; clear hL; intro w hL) | refine zI ?_ | refine zG hX ?_ | refine zO ?_); conv => whnf)
        exact RetReq.mk hL ⟨rfl, rfl⟩
      | false =>
        have hr2 : FormedP (f.take (j + 1)) := by
          rw [take_succ' hj1]
          refine hr.snoc hri (fun q hq => by rw [take_last hj0 hj, List.getElem?_eq_getElem (by omega)] at hq; cases hq; exact hls) fun q hq hs => ?_
          have := (within_iff (hr.rises q hq) hri).2 hs
          rw [List.any_eq_false] at hany
          exact hany q hq this
        conv => whnf
        repeat ((first | refine zT ?_ | refine zF ?_ | refine zL hX hL ?_ | refine zB hX hL ?_ | (refine zS hX hL ?_; clear hL; intro w hL) | refine zI ?_ | refine zG hX ?_ | refine zO ?_); conv => whnf)
        refine ⟨j + 1, ⟨⟨by omega, hr2⟩, _, hm1.trans hL0, hL⟩, by first | omega | (simp only; omega) | (simp only [List.length_cons, List.length_append]; omega), ?_, ?_⟩
        · repeat (first | exact trivial | (refine And.intro (by (conv => lhs; whnf) <;> (conv => rhs; whnf) <;> (first | rfl)) ?_))
        · repeat (first | exact trivial | (refine And.intro (by (conv => lhs; whnf) <;> (conv => rhs; whnf) <;> (first | rfl)) ?_))
    · have ho : ¬ ordI f[j - 1] f[j] < 0 := fun h => hls (ord_neg.1 h)
      have hno : ¬ FormedP f := fun hf => hls (List.pairwise_iff_getElem.1 hf.less (j - 1) j (by omega) hj1 (by omega))
      rw [dec_f hno]
      conv => whnf
      repeat ((first | refine SReq.mk hL ?_ | refine zQ hX ?_ | refine zR hX ?_ | refine zA ?_ | refine zT ?_ | refine zF ?_ | refine zL hX hL ?_ | refine zB hX hL ?_ | (refine zS hX hL ?_; clear hL; intro w hL) | refine zI ?_ | refine zG hX ?_ | refine zO ?_); conv => whnf)
      refine BrReq.yes (by omega) ?_
      conv => whnf
      repeat ((first | refine zT ?_ | refine zF ?_ | refine zL hX hL ?_ | refine zB hX hL ?_ | (refine zS hX hL ?_; clear hL; intro w hL) | refine zI ?_ | refine zG hX ?_ | refine zO ?_); conv => whnf)
      exact RetReq.mk hL.drop ⟨rfl, rfl⟩
  · have e0 : j = 0 := by omega
    conv => whnf
    repeat ((first | refine SReq.mk hL ?_ | refine BrReq.no (by omega) ?_ | refine zQ hX ?_ | refine zR hX ?_ | refine zA ?_ | refine zT ?_ | refine zF ?_ | refine zL hX hL ?_ | refine zB hX hL ?_ | (refine zS hX hL ?_; clear hL; intro w hL) | refine zI ?_ | refine zG hX ?_ | refine zO ?_); conv => whnf)
    have hL0 := hL.le_add
    have hL := hL.freeze
    have hsub := Sl.sub (h1.le hL0) (lo := 0) (hi := j) (Nat.zero_le _) (by omega)
    rw [List.drop_zero] at hsub
    have hcc := containsF_fn _ _ (f.take j) b4 A' n' c' f[j] hsub (hp.le' hL0) (mcell_add rfl)
    conv => whnf
    repeat ((first | refine SlReq.mk 0 j rfl rfl (by omega) (by omega) ?_ | refine zT ?_ | refine zF ?_ | refine zL hX hL ?_ | refine zB hX hL ?_ | (refine zS hX hL ?_; clear hL; intro w hL) | refine zI ?_ | refine zG hX ?_ | refine zO ?_); conv => whnf)
    refine CallReq.val hcc hL ?_
    clear hL
    intro w hL
    cases hany : ((f.take j).any fun q => q.isSublist f[j]) with
    | true =>
      obtain ⟨q, hq, hqs⟩ := List.any_eq_true.1 hany
      have hno : ¬ FormedP f := fun hf => by
        obtain ⟨i, hi, rfl⟩ := List.getElem_of_mem hq
        rw [List.length_take] at hi
        rw [List.getElem_take] at hqs
        exact List.pairwise_iff_getElem.1 hf.apart i j (by omega) hj1 (by omega) (list_sub (List.isSublist_iff_sublist.1 hqs))
      rw [dec_f hno]
      conv => whnf
      repeat ((first | refine zT ?_ | refine zF ?_ | refine zL hX hL ?_ | refine zB hX hL ?_ | (refine zS hX hL ?_; clear hL; intro w hL) | refine zI ?_ | refine zG hX ?_ | refine zO ?_); conv => whnf)
      exact RetReq.mk hL ⟨rfl, rfl⟩
    | false =>
      have hr2 : FormedP (f.take (j + 1)) := by
        rw [take_succ' hj1]
        refine hr.snoc hri (fun q hq => by rw [e0] at hq; simp at hq) fun q hq hs => ?_
        have := (within_iff (hr.rises q hq) hri).2 hs
        rw [List.any_eq_false] at hany
        exact hany q hq this
      conv => whnf
      repeat ((first | refine zT ?_ | refine zF ?_ | refine zL hX hL ?_ | refine zB hX hL ?_ | (refine zS hX hL ?_; clear hL; intro w hL) | refine zI ?_ | refine zG hX ?_ | refine zO ?_); conv => whnf)
      refine ⟨j + 1, ⟨⟨by omega, hr2⟩, _, hm1.trans hL0, hL⟩, by first | omega | (simp only; omega) | (simp only [List.length_cons, List.length_append]; omega), ?_, ?_⟩
      · repeat (first | exact trivial | (refine And.intro (by (conv => lhs; whnf) <;> (conv => rhs; whnf) <;> (first | rfl)) ?_))
      · repeat (first | exact trivial | (refine And.intro (by (conv => lhs; whnf) <;> (conv => rhs; whnf) <;> (first | rfl)) ?_))
end Go.Proofs.Ytnpgllgmcdhmcaa.fo
