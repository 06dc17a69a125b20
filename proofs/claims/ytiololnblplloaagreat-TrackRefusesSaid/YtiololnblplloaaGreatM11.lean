/- TrackRefuses: part 11 of 14 of the proof. Conditions: none. -/
import Derived.Test.YtiololnblplloaaGreatM10
import Derived.Test.YtiololnblplloaaGreatM1
import Derived.Test.YtiololnblplloaaGreatM6
namespace Go.Proofs.YtiololnblplloaaGreat.looks
open Go Go.Ev Go.Proofs Go.Proofs.YtiololnblplloaaGreat.tree
def idxR (f : Re → Bool) : List Re → Int
  | [] => -1
  | p :: l => if f p = true then 0 else if idxR f l < 0 then -1 else idxR f l + 1
theorem idxR_at {f : Re → Bool} : ∀ (l : List Re) (i : Nat) (x : Re), l[i]? = some x → f x = true → (∀ (q : Nat) (y : Re), q < i → l[q]? = some y → f y = false) → idxR f l = i := by
  intro l
  induction l with
  | nil => intro i x h; simp at h
  | cons p l ih =>
    intro i x h hx hq
    cases i with
    | zero => simp at h; subst h; simp only [idxR]; rw [if_pos hx]; rfl
    | succ i =>
      have h0 := hq 0 p (by omega) rfl
      simp only [idxR]
      rw [if_neg (by rw [h0]; simp), ih i x (by simpa using h) hx fun q y hlt hy => hq (q + 1) y (by omega) (by simpa using hy), if_neg (by omega)]
      omega
theorem idxR_none {f : Re → Bool} : ∀ (l : List Re), (∀ x ∈ l, f x = false) → idxR f l = -1 := by
  intro l
  induction l with
  | nil => intro _; rfl
  | cons p l ih =>
    intro h
    simp only [idxR]
    rw [if_neg (by rw [h p (by simp)]; simp), ih fun x hx => h x (by simp [hx]), if_pos (by omega)]
theorem idxR_neg {f : Re → Bool} : ∀ (l : List Re), 0 ≤ idxR f l ↔ l.any f = true := by
  intro l
  induction l with
  | nil => simp [idxR]
  | cons p l ih =>
    simp only [idxR, List.any_cons, Bool.or_eq_true]
    by_cases h : f p = true
    · rw [if_pos h]; exact ⟨fun _ => .inl h, fun _ => by omega⟩
    · rw [if_neg h]
      by_cases h2 : idxR f l < 0
      · rw [if_pos h2]; exact ⟨fun h' => absurd h' (by omega), fun h' => h'.elim (fun h3 => absurd h3 h) fun h3 => absurd (ih.2 h3) (by omega)⟩
      · rw [if_neg h2]; exact ⟨fun _ => .inr (ih.1 (by omega)), fun _ => by omega⟩
theorem indexMake_fn (m : Mem) (v : Value) (rs : List Re) (f : Re → Bool) (hs : Sl m 9 (RepRe m) v rs) (hf : ∀ p ∈ rs, ∀ cs, RepRe m cs p → FnV Tryz.prog 34 ([.agg (toArr cs)] ++ []) m (.bool (f p))) :
    FnV Tryz.prog 49 [v, .func (.func 34) #[] #[]] m (.int .i64 (idxR f rs)) := by
  have hs' := hs
  obtain ⟨A, n, c, rfl, hn, hc, hm, -⟩ := hs
  have he := hs'.elem
  have hmx : maxLen = 9223372036854775807 := rfl
  refine Fn.enter (N := 19) hX Tryz.func49 rfl rfl (by show _ ≤ _; simp) (fun w0 hL => ?_)
  conv => whnf
  conv => whnf
  repeat ((first | refine zT ?_ | refine zF ?_ | refine zL hX hL ?_ | refine zB hX hL ?_ | (refine zS hX hL ?_; clear hL; intro w hL) | refine zI ?_ | refine zG hX ?_ | refine zO ?_); conv => whnf)
  refine LoopReq.inv hX (fun j : Nat => [(8, .int .i64 j)]) [0, 1, 7]
    (fun j w => (j ≤ n ∧ ∀ (i : Nat) (x : Re), i < j → rs[i]? = some x → f x = false) ∧ Ev.Loc m [] w0 m [] w) (fun j => n - j) 0
    ⟨⟨by omega, fun i x h => absurd h (by omega)⟩, hL⟩ ⟨rfl, trivial⟩ ?_
  clear hL
  rintro j w g ⟨⟨hj, hdone⟩, hL⟩
  conv => whnf
  repeat ((first | refine zT ?_ | refine zF ?_ | refine zL hX hL ?_ | refine zB hX hL ?_ | (refine zS hX hL ?_; clear hL; intro w hL) | refine zI ?_ | refine zG hX ?_ | refine zO ?_); conv => whnf)
  refine BrReq.dec (fun hlt => ?_) (fun hlt => ?_)
  · have hlt' : j < rs.length := by omega
    obtain ⟨a, cs', rfl, hl9, hcells, hrep⟩ := he j _ (List.getElem?_eq_getElem hlt')
    obtain ⟨k1, u0, u1, u2, u3, A1, n1, c1, lo1, hi1, neg1, rfl⟩ := hrep.form
    conv => whnf
    repeat ((first | refine Idx2Req.mk j a rfl (by omega) rfl ?_ | refine LdReq.agg hX rfl rfl hL hl9 hcells ?_ | refine zT ?_ | refine zF ?_ | refine zL hX hL ?_ | refine zB hX hL ?_ | (refine zS hX hL ?_; clear hL; intro w hL) | refine zI ?_ | refine zG hX ?_ | refine zO ?_); conv => whnf)
    refine CallReq.val (hf _ (List.getElem_mem hlt') _ hrep) hL ?_
    clear hL
    intro w hL
    conv => whnf
    repeat ((first | refine zT ?_ | refine zF ?_ | refine zL hX hL ?_ | refine zB hX hL ?_ | (refine zS hX hL ?_; clear hL; intro w hL) | refine zI ?_ | refine zG hX ?_ | refine zO ?_); conv => whnf)
    refine BrReq.bool (fun hb => ?_) (fun hb => ?_)
    · have e := idxR_at (f := f) rs j _ (List.getElem?_eq_getElem hlt') hb fun q y h1 h2 => hdone q y h1 h2
      conv => whnf
      repeat ((first | refine zT ?_ | refine zF ?_ | refine zL hX hL ?_ | refine zB hX hL ?_ | (refine zS hX hL ?_; clear hL; intro w hL) | refine zI ?_ | refine zG hX ?_ | refine zO ?_); conv => whnf)
      exact RetReq.int hL e.symm
    · have hd : ∀ (i : Nat) (x : Re), i < j + 1 → rs[i]? = some x → f x = false := by
        intro i x hi hx
        by_cases e : i = j
        · subst e
          rw [List.getElem?_eq_getElem hlt'] at hx
          cases hx; exact hb
        · exact hdone i x (by omega) hx
      conv => whnf
      repeat ((first | refine zT ?_ | refine zF ?_ | refine zL hX hL ?_ | refine zB hX hL ?_ | (refine zS hX hL ?_; clear hL; intro w hL) | refine zI ?_ | refine zG hX ?_ | refine zO ?_); conv => whnf)
      refine ⟨j + 1, ⟨⟨by omega, hd⟩, hL⟩, by first | omega | (simp only; omega) | (simp only [List.length_cons, List.length_append]; omega), ?_, ?_⟩
      · repeat (first | exact trivial | (refine And.intro (by (conv => lhs; whnf) <;> (conv => rhs; whnf) <;> (first | rfl)) ?_))
      · repeat (first | exact trivial | (refine And.intro (by (conv => lhs; whnf) <;> (conv => rhs; whnf) <;> (first | rfl)) ?_))
  · conv => whnf
    repeat ((first | refine zT ?_ | refine zF ?_ | refine zL hX hL ?_ | refine zB hX hL ?_ | (refine zS hX hL ?_; clear hL; intro w hL) | refine zI ?_ | refine zG hX ?_ | refine zO ?_); conv => whnf)
    have e : idxR f rs = -1 := idxR_none rs fun x hx => by
      obtain ⟨i, hi, rfl⟩ := List.getElem_of_mem hx
      exact hdone i _ (by omega) (List.getElem?_eq_getElem hi)
    exact RetReq.int hL e.symm
theorem indexLate_fn (m : Mem) (v : Value) (rs : List Re) (f : Re → Bool) (hs : Sl m 9 (RepRe m) v rs) (hf : ∀ p ∈ rs, ∀ cs, RepRe m cs p → FnV Tryz.prog 33 ([.agg (toArr cs)] ++ []) m (.bool (f p))) :
    FnV Tryz.prog 49 [v, .func (.func 33) #[] #[]] m (.int .i64 (idxR f rs)) := by
  have hs' := hs
  obtain ⟨A, n, c, rfl, hn, hc, hm, -⟩ := hs
  have he := hs'.elem
  have hmx : maxLen = 9223372036854775807 := rfl
  refine Fn.enter (N := 19) hX Tryz.func49 rfl rfl (by show _ ≤ _; simp) (fun w0 hL => ?_)
  conv => whnf
  conv => whnf
  repeat ((first | refine zT ?_ | refine zF ?_ | refine zL hX hL ?_ | refine zB hX hL ?_ | (refine zS hX hL ?_; clear hL; intro w hL) | refine zI ?_ | refine zG hX ?_ | refine zO ?_); conv => whnf)
  refine LoopReq.inv hX (fun j : Nat => [(8, .int .i64 j)]) [0, 1, 7]
    (fun j w => (j ≤ n ∧ ∀ (i : Nat) (x : Re), i < j → rs[i]? = some x → f x = false) ∧ Ev.Loc m [] w0 m [] w) (fun j => n - j) 0
    ⟨⟨by omega, fun i x h => absurd h (by omega)⟩, hL⟩ ⟨rfl, trivial⟩ ?_
  clear hL
  rintro j w g ⟨⟨hj, hdone⟩, hL⟩
  conv => whnf
  repeat ((first | refine zT ?_ | refine zF ?_ | refine zL hX hL ?_ | refine zB hX hL ?_ | (refine zS hX hL ?_; clear hL; intro w hL) | refine zI ?_ | refine zG hX ?_ | refine zO ?_); conv => whnf)
  refine BrReq.dec (fun hlt => ?_) (fun hlt => ?_)
  · have hlt' : j < rs.length := by omega
    obtain ⟨a, cs', rfl, hl9, hcells, hrep⟩ := he j _ (List.getElem?_eq_getElem hlt')
    obtain ⟨k1, u0, u1, u2, u3, A1, n1, c1, lo1, hi1, neg1, rfl⟩ := hrep.form
    conv => whnf
    repeat ((first | refine Idx2Req.mk j a rfl (by omega) rfl ?_ | refine LdReq.agg hX rfl rfl hL hl9 hcells ?_ | refine zT ?_ | refine zF ?_ | refine zL hX hL ?_ | refine zB hX hL ?_ | (refine zS hX hL ?_; clear hL; intro w hL) | refine zI ?_ | refine zG hX ?_ | refine zO ?_); conv => whnf)
    refine CallReq.val (hf _ (List.getElem_mem hlt') _ hrep) hL ?_
    clear hL
    intro w hL
    conv => whnf
    repeat ((first | refine zT ?_ | refine zF ?_ | refine zL hX hL ?_ | refine zB hX hL ?_ | (refine zS hX hL ?_; clear hL; intro w hL) | refine zI ?_ | refine zG hX ?_ | refine zO ?_); conv => whnf)
    refine BrReq.bool (fun hb => ?_) (fun hb => ?_)
    · have e := idxR_at (f := f) rs j _ (List.getElem?_eq_getElem hlt') hb fun q y h1 h2 => hdone q y h1 h2
      conv => whnf
      repeat ((first | refine zT ?_ | refine zF ?_ | refine zL hX hL ?_ | refine zB hX hL ?_ | (refine zS hX hL ?_; clear hL; intro w hL) | refine zI ?_ | refine zG hX ?_ | refine zO ?_); conv => whnf)
      exact RetReq.int hL e.symm
    · have hd : ∀ (i : Nat) (x : Re), i < j + 1 → rs[i]? = some x → f x = false := by
        intro i x hi hx
        by_cases e : i = j
        · subst e
          rw [List.getElem?_eq_getElem hlt'] at hx
          cases hx; exact hb
        · exact hdone i x (by omega) hx
      conv => whnf
      repeat ((first | refine zT ?_ | refine zF ?_ | refine zL hX hL ?_ | refine zB hX hL ?_ | (refine zS hX hL ?_; clear hL; intro w hL) | refine zI ?_ | refine zG hX ?_ | refine zO ?_); conv => whnf)
      refine ⟨j + 1, ⟨⟨by omega, hd⟩, hL⟩, by first | omega | (simp only; omega) | (simp only [List.length_cons, List.length_append]; omega), ?_, ?_⟩
      · repeat (first | exact trivial | (refine And.intro (by (conv => lhs; whnf) <;> (conv => rhs; whnf) <;> (first | rfl)) ?_))
      · repeat (first | exact trivial | (refine And.intro (by (conv => lhs; whnf) <;> (conv => rhs; whnf) <;> (first | rfl)) ?_))
  · conv => whnf
    repeat ((first | refine zT ?_ | refine zF ?_ | refine zL hX hL ?_ | refine zB hX hL ?_ | (refine zS hX hL ?_; clear hL; intro w hL) | refine zI ?_ | refine zG hX ?_ | refine zO ?_); conv => whnf)
    have e : idxR f rs = -1 := idxR_none rs fun x hx => by
      obtain ⟨i, hi, rfl⟩ := List.getElem_of_mem hx
      exact hdone i _ (by omega) (List.getElem?_eq_getElem hi)
    exact RetReq.int hL e.symm
theorem indexSame_fn (m : Mem) (v : Value) (rs : List Re) (f : Re → Bool)(b0 : Nat) (hs : Sl m 9 (RepRe m) v rs) (hf : ∀ p ∈ rs, ∀ cs, RepRe m cs p → FnV Tryz.prog 56 ([.agg (toArr cs)] ++ [.pointer (some ⟨b0, 0, none⟩)]) m (.bool (f p))) :
    FnV Tryz.prog 49 [v, .func (.func 56) #[] #[.pointer (some ⟨b0, 0, none⟩)]] m (.int .i64 (idxR f rs)) := by
  have hs' := hs
  obtain ⟨A, n, c, rfl, hn, hc, hm, -⟩ := hs
  have he := hs'.elem
  have hmx : maxLen = 9223372036854775807 := rfl
  refine Fn.enter (N := 19) hX Tryz.func49 rfl rfl (by show _ ≤ _; simp) (fun w0 hL => ?_)
  conv => whnf
  conv => whnf
  repeat ((first | refine zT ?_ | refine zF ?_ | refine zL hX hL ?_ | refine zB hX hL ?_ | (refine zS hX hL ?_; clear hL; intro w hL) | refine zI ?_ | refine zG hX ?_ | refine zO ?_); conv => whnf)
  refine LoopReq.inv hX (fun j : Nat => [(8, .int .i64 j)]) [0, 1, 7]
    (fun j w => (j ≤ n ∧ ∀ (i : Nat) (x : Re), i < j → rs[i]? = some x → f x = false) ∧ Ev.Loc m [] w0 m [] w) (fun j => n - j) 0
    ⟨⟨by omega, fun i x h => absurd h (by omega)⟩, hL⟩ ⟨rfl, trivial⟩ ?_
  clear hL
  rintro j w g ⟨⟨hj, hdone⟩, hL⟩
  conv => whnf
  repeat ((first | refine zT ?_ | refine zF ?_ | refine zL hX hL ?_ | refine zB hX hL ?_ | (refine zS hX hL ?_; clear hL; intro w hL) | refine zI ?_ | refine zG hX ?_ | refine zO ?_); conv => whnf)
  refine BrReq.dec (fun hlt => ?_) (fun hlt => ?_)
  · have hlt' : j < rs.length := by omega
    obtain ⟨a, cs', rfl, hl9, hcells, hrep⟩ := he j _ (List.getElem?_eq_getElem hlt')
    obtain ⟨k1, u0, u1, u2, u3, A1, n1, c1, lo1, hi1, neg1, rfl⟩ := hrep.form
    conv => whnf
    repeat ((first | refine Idx2Req.mk j a rfl (by omega) rfl ?_ | refine LdReq.agg hX rfl rfl hL hl9 hcells ?_ | refine zT ?_ | refine zF ?_ | refine zL hX hL ?_ | refine zB hX hL ?_ | (refine zS hX hL ?_; clear hL; intro w hL) | refine zI ?_ | refine zG hX ?_ | refine zO ?_); conv => whnf)
    refine CallReq.val (hf _ (List.getElem_mem hlt') _ hrep) hL ?_
    clear hL
    intro w hL
    conv => whnf
    repeat ((first | refine zT ?_ | refine zF ?_ | refine zL hX hL ?_ | refine zB hX hL ?_ | (refine zS hX hL ?_; clear hL; intro w hL) | refine zI ?_ | refine zG hX ?_ | refine zO ?_); conv => whnf)
    refine BrReq.bool (fun hb => ?_) (fun hb => ?_)
    · have e := idxR_at (f := f) rs j _ (List.getElem?_eq_getElem hlt') hb fun q y h1 h2 => hdone q y h1 h2
      conv => whnf
      repeat ((first | refine zT ?_ | refine zF ?_ | refine zL hX hL ?_ | refine zB hX hL ?_ | (refine zS hX hL ?_; clear hL; intro w hL) | refine zI ?_ | refine zG hX ?_ | refine zO ?_); conv => whnf)
      exact RetReq.int hL e.symm
    · have hd : ∀ (i : Nat) (x : Re), i < j + 1 → rs[i]? = some x → f x = false := by
        intro i x hi hx
        by_cases e : i = j
        · subst e
          rw [List.getElem?_eq_getElem hlt'] at hx
          cases hx; exact hb
        · exact hdone i x (by omega) hx
      conv => whnf
      repeat ((first | refine zT ?_ | refine zF ?_ | refine zL hX hL ?_ | refine zB hX hL ?_ | (refine zS hX hL ?_; clear hL; intro w hL) | refine zI ?_ | refine zG hX ?_ | refine zO ?_); conv => whnf)
      refine ⟨j + 1, ⟨⟨by omega, hd⟩, hL⟩, by first | omega | (simp only; omega) | (simp only [List.length_cons, List.length_append]; omega), ?_, ?_⟩
      · repeat (first | exact trivial | (refine And.intro (by (conv => lhs; whnf) <;> (conv => rhs; whnf) <;> (first | rfl)) ?_))
      · repeat (first | exact trivial | (refine And.intro (by (conv => lhs; whnf) <;> (conv => rhs; whnf) <;> (first | rfl)) ?_))
  · conv => whnf
    repeat ((first | refine zT ?_ | refine zF ?_ | refine zL hX hL ?_ | refine zB hX hL ?_ | (refine zS hX hL ?_; clear hL; intro w hL) | refine zI ?_ | refine zG hX ?_ | refine zO ?_); conv => whnf)
    have e : idxR f rs = -1 := idxR_none rs fun x hx => by
      obtain ⟨i, hi, rfl⟩ := List.getElem_of_mem hx
      exact hdone i _ (by omega) (List.getElem?_eq_getElem hi)
    exact RetReq.int hL e.symm
theorem containsMake_fn (m : Mem) (v : Value) (rs : List Re) (f : Re → Bool) (hs : Sl m 9 (RepRe m) v rs) (hf : ∀ p ∈ rs, ∀ cs, RepRe m cs p → FnV Tryz.prog 34 ([.agg (toArr cs)] ++ []) m (.bool (f p))) :
    FnV Tryz.prog 32 [v, .func (.func 34) #[] #[]] m (.bool (rs.any f)) := by
  have hs' := hs
  obtain ⟨A, n, c, rfl, -⟩ := hs
  refine Fn.enter (N := 9) hX Tryz.func32 rfl rfl (by show _ ≤ _; simp) (fun w0 hL => ?_)
  conv => whnf
  conv => whnf
  repeat ((first | refine zT ?_ | refine zF ?_ | refine zL hX hL ?_ | refine zB hX hL ?_ | (refine zS hX hL ?_; clear hL; intro w hL) | refine zI ?_ | refine zG hX ?_ | refine zO ?_); conv => whnf)
  refine CallReq.val (indexMake_fn m _ rs f hs' hf) hL ?_
  clear hL
  intro w hL
  conv => whnf
  repeat ((first | refine zT ?_ | refine zF ?_ | refine zL hX hL ?_ | refine zB hX hL ?_ | (refine zS hX hL ?_; clear hL; intro w hL) | refine zI ?_ | refine zG hX ?_ | refine zO ?_); conv => whnf)
  refine RetReq.bool hL ?_
  rw [Bool.eq_iff_iff, decide_eq_true_iff]
  exact idxR_neg rs
theorem containsLate_fn (m : Mem) (v : Value) (rs : List Re) (f : Re → Bool) (hs : Sl m 9 (RepRe m) v rs) (hf : ∀ p ∈ rs, ∀ cs, RepRe m cs p → FnV Tryz.prog 33 ([.agg (toArr cs)] ++ []) m (.bool (f p))) :
    FnV Tryz.prog 32 [v, .func (.func 33) #[] #[]] m (.bool (rs.any f)) := by
  have hs' := hs
  obtain ⟨A, n, c, rfl, -⟩ := hs
  refine Fn.enter (N := 9) hX Tryz.func32 rfl rfl (by show _ ≤ _; simp) (fun w0 hL => ?_)
  conv => whnf
  conv => whnf
  repeat ((first | refine zT ?_ | refine zF ?_ | refine zL hX hL ?_ | refine zB hX hL ?_ | (refine zS hX hL ?_; clear hL; intro w hL) | refine zI ?_ | refine zG hX ?_ | refine zO ?_); conv => whnf)
  refine CallReq.val (indexLate_fn m _ rs f hs' hf) hL ?_
  clear hL
  intro w hL
  conv => whnf
  repeat ((first | refine zT ?_ | refine zF ?_ | refine zL hX hL ?_ | refine zB hX hL ?_ | (refine zS hX hL ?_; clear hL; intro w hL) | refine zI ?_ | refine zG hX ?_ | refine zO ?_); conv => whnf)
  refine RetReq.bool hL ?_
  rw [Bool.eq_iff_iff, decide_eq_true_iff]
  exact idxR_neg rs
def bareR : Re → Re
  | .mk k s0 s1 s2 s3 rs lo hi _ => .mk k s0 s1 s2 s3 rs lo hi false
theorem bare_rep {m : Mem} {k s0 s1 s2 s3 lo hi : Int} {neg : Bool} {A : Option Addr} {n c : Nat} {r : Re} (h : RepRe m (reC k s0 s1 s2 s3 (.slice A n c) lo hi neg) r) : RepRe m (reC k s0 s1 s2 s3 (.slice A n c) lo hi false) (bareR r) := by
  obtain ⟨k', t0, t1, t2, t3, rs, lo', hi', neg'⟩ := r
  obtain ⟨A', n', c', e, hs, hr⟩ := h.open
  injection e with e0 e; injection e with e1 e; injection e with e2 e; injection e with e3 e; injection e with e4 e; injection e with e5 e; injection e with e6 e; injection e with e7 e
  cases e0; cases e1; cases e2; cases e3; cases e4; cases e5; cases e6; cases e7
  exact RepRe.shut hs hr
theorem bare_fn (m : Mem) (k s0 s1 s2 s3 lo hi : Int) (neg : Bool) (A : Option Addr) (n c : Nat) :
    FnV Tryz.prog 53 [.agg (toArr (reC k s0 s1 s2 s3 (.slice A n c) lo hi neg))] m (.agg (toArr (reC k s0 s1 s2 s3 (.slice A n c) lo hi false))) := by
  refine Fn.enter (N := 5) hX Tryz.func53 rfl rfl (by show _ ≤ _; simp) (fun w0 hL => ?_)
  conv => whnf
  refine NewReq.mk hL ?_
  clear hL
  intro b1 w hL
  conv => whnf
  refine NewReq.mk hL ?_
  clear hL
  intro b2 w hL
  conv => whnf
  conv => whnf
  repeat ((first | refine zT ?_ | refine zF ?_ | refine zL hX hL ?_ | refine zB hX hL ?_ | (refine zS hX hL ?_; clear hL; intro w hL) | refine zI ?_ | refine zG hX ?_ | refine zO ?_); conv => whnf)
  exact RetReq.mk hL.drop.drop ⟨rfl, rfl⟩
theorem refBare_fn (m : Mem) (k s0 s1 s2 s3 lo hi : Int) (neg : Bool) (A : Option Addr) (n c : Nat) :
    FnV Tryz.prog 15 [.agg (toArr (reC k s0 s1 s2 s3 (.slice A n c) lo hi neg))] m (.agg (toArr (reC k s0 s1 s2 s3 (.slice A n c) lo hi false))) := by
  refine Fn.enter (N := 5) hX Tryz.func15 rfl rfl (by show _ ≤ _; simp) (fun w0 hL => ?_)
  conv => whnf
  refine NewReq.mk hL ?_
  clear hL
  intro b1 w hL
  conv => whnf
  refine NewReq.mk hL ?_
  clear hL
  intro b2 w hL
  conv => whnf
  conv => whnf
  repeat ((first | refine zT ?_ | refine zF ?_ | refine zL hX hL ?_ | refine zB hX hL ?_ | (refine zS hX hL ?_; clear hL; intro w hL) | refine zI ?_ | refine zG hX ?_ | refine zO ?_); conv => whnf)
  exact RetReq.mk hL.drop.drop ⟨rfl, rfl⟩
def likeR (x y : Re) : Bool := decide (deepR 40 x ≤ 40) && decide (deepR 40 (bareR y) ≤ 40) && sameR 41 x (bareR y)
theorem index1_fn (m : Mem) (b0 : Nat) (x r : Re) (cs cs0 : List Value) (hx : RepRe m cs x) (hr : RepRe m cs0 r) (hb : Cells m ⟨b0, 0, none⟩ cs0) :
    FnV Tryz.prog 56 ([.agg (toArr cs)] ++ [.pointer (some ⟨b0, 0, none⟩)]) m (.bool (likeR x r)) := by
  obtain ⟨k1, u0, u1, u2, u3, A1, n1, c1, lo1, hi1, neg1, rfl⟩ := hx.form
  obtain ⟨k2, v0, v1, v2, v3, A2, n2, c2, lo2, hi2, neg2, rfl⟩ := hr.form
  refine Fn.enter (N := 8) hX Tryz.func56 rfl rfl (by show _ ≤ _; simp) (fun w0 hL => ?_)
  conv => whnf
  refine NewReq.mk hL ?_
  clear hL
  intro b2 w hL
  conv => whnf
  conv => whnf
  repeat ((first | refine zT ?_ | refine zF ?_ | refine zL hX hL ?_ | refine zB hX hL ?_ | (refine zS hX hL ?_; clear hL; intro w hL) | refine zI ?_ | refine zG hX ?_ | refine zO ?_); conv => whnf)
  refine DrawReq.plan hX (.fst 0 (.fst 1 (.alt 2 (.alt 3 (.fst 4 (.done)) (.stop)) (.stop)))) _ (by kernel_rfl) (by kernel_rfl) hL id ?_
  clear hL
  intro w hL
  conv => whnf
  repeat ((first | refine QLdReq.agg hX rfl rfl rfl hb ?_ | refine zQ hX ?_ | refine zR hX ?_ | refine zA ?_ | refine zT ?_ | refine zF ?_ | refine zL hX hL ?_ | refine zB hX hL ?_ | (refine zS hX hL ?_; clear hL; intro w hL) | refine zI ?_ | refine zG hX ?_ | refine zO ?_); conv => whnf)
  refine CallReq.val (bare_fn m k2 v0 v1 v2 v3 lo2 hi2 neg2 A2 n2 c2) hL ?_
  clear hL
  intro w hL
  conv => whnf
  repeat ((first | refine SReq.mk hL ?_ | refine zQ hX ?_ | refine zR hX ?_ | refine zA ?_ | refine zT ?_ | refine zF ?_ | refine zL hX hL ?_ | refine zB hX hL ?_ | (refine zS hX hL ?_; clear hL; intro w hL) | refine zI ?_ | refine zG hX ?_ | refine zO ?_); conv => whnf)
  refine CallReq.val (Same_fn m _ _ _ _ hx (bare_rep hr)) hL ?_
  clear hL
  intro w hL
  conv => whnf
  repeat ((first | refine SReq.mk hL ?_ | refine zQ hX ?_ | refine zR hX ?_ | refine zA ?_ | refine zT ?_ | refine zF ?_ | refine zL hX hL ?_ | refine zB hX hL ?_ | (refine zS hX hL ?_; clear hL; intro w hL) | refine zI ?_ | refine zG hX ?_ | refine zO ?_); conv => whnf)
  exact RetReq.bool hL.drop rfl
theorem cells_add {m : Mem} {b te : Nat} {fz : Nat × Nat} (cs : List Value) : Cells (m.add b (.cells (toArr cs) te fz)) ⟨b, 0, none⟩ cs := by
  intro j v hj
  rw [addr_add, Nat.zero_add]
  simp only [mcell, ocell, Mem.add_same, toArr, List.getElem?_toArray]
  exact hj
theorem Index_fn (m : Mem) (v : Value) (ls : List Re) (r : Re) (cs : List Value) (hs : Sl m 9 (RepRe m) v ls) (hr : RepRe m cs r) :
    FnV Tryz.prog 40 [.agg (toArr [v]), .agg (toArr cs)] m (.int .i64 (idxR (fun x => likeR x r) ls)) := by
  obtain ⟨k2, v0, v1, v2, v3, A2, n2, c2, lo2, hi2, neg2, rfl⟩ := hr.form
  have hs' := hs
  obtain ⟨A, n, c, rfl, -⟩ := hs
  refine Fn.enter (N := 9) hX Tryz.func40 rfl rfl (by show _ ≤ _; simp) (fun w0 hL => ?_)
  conv => whnf
  refine NewReq.mk hL ?_
  clear hL
  intro b2 w hL
  conv => whnf
  refine NewReq.mk hL ?_
  clear hL
  intro b3 w hL
  conv => whnf
  conv => whnf
  repeat ((first | refine zT ?_ | refine zF ?_ | refine zL hX hL ?_ | refine zB hX hL ?_ | (refine zS hX hL ?_; clear hL; intro w hL) | refine zI ?_ | refine zG hX ?_ | refine zO ?_); conv => whnf)
  have hle := hL.le_add
  replace hL := hL.freeze
  have hix := indexSame_fn _ (.slice A n c) ls (fun x => likeR x r) b3 (hs'.le hle fun cs x _ h => h.le hle) fun p hp cs h => index1_fn _ b3 p r cs _ h (hr.le hle) (cells_add _)
  refine CallReq.val hix hL ?_
  clear hL
  intro w hL
  conv => whnf
  repeat ((first | refine zT ?_ | refine zF ?_ | refine zL hX hL ?_ | refine zB hX hL ?_ | (refine zS hX hL ?_; clear hL; intro w hL) | refine zI ?_ | refine zG hX ?_ | refine zO ?_); conv => whnf)
  exact RetReq.int hL.drop rfl
end Go.Proofs.YtiololnblplloaaGreat.looks
namespace Go.Proofs.YtiololnblplloaaGreat.looks
open Go Go.Ev Go.Proofs Go.Proofs.YtiololnblplloaaGreat.tree
mutual
def looksR : Re → List Re → List Re
  | .mk k s0 s1 s2 s3 rs lo hi neg, ls =>
    if k < 8 then looksL rs ls
    else if (looksL rs ls).any (fun x => sameR 41 x (bareR (.mk k s0 s1 s2 s3 rs lo hi neg))) then looksL rs ls
    else looksL rs ls ++ [bareR (.mk k s0 s1 s2 s3 rs lo hi neg)]
def looksL : List Re → List Re → List Re
  | [], ls => ls
  | p :: l, ls => looksL l (looksR p ls)
end
mutual
def nodesR : Re → Nat
  | .mk _ _ _ _ _ rs _ _ _ => nodesL rs + 1
def nodesL : List Re → Nat
  | [] => 0
  | p :: l => nodesR p + nodesL l
end
theorem looksL_append (a b : List Re) : ∀ ls, looksL (a ++ b) ls = looksL b (looksL a ls) := by
  induction a with
  | nil => intro ls; rfl
  | cons p a ih => intro ls; simp only [List.cons_append, looksL]; exact ih _
theorem nodesL_append (a b : List Re) : nodesL (a ++ b) = nodesL a + nodesL b := by
  induction a with
  | nil => simp [nodesL]
  | cons p a ih => simp only [List.cons_append, nodesL, ih]; omega
theorem looksL_take (rs : List Re) (j : Nat) (h : j < rs.length) (ls : List Re) : looksL (rs.take (j + 1)) ls = looksR rs[j] (looksL (rs.take j) ls) := by
  rw [List.take_succ_eq_append_getElem h, looksL_append]; rfl
theorem nodesL_take (rs : List Re) (j : Nat) (h : j < rs.length) : nodesL (rs.take (j + 1)) = nodesL (rs.take j) + nodesR rs[j] := by
  rw [List.take_succ_eq_append_getElem h, nodesL_append]; simp [nodesL]
theorem nodesL_take_le (rs : List Re) (j : Nat) : nodesL (rs.take j) ≤ nodesL rs := by
  conv => rhs; rw [← List.take_append_drop j rs]
  rw [nodesL_append]; omega
theorem deep_up : ∀ (k : Nat) (r : Re), deepR k r ≤ k → deepR (k + 1) r ≤ k + 1 := by
  intro k
  induction k with
  | zero => intro r h; simp [deepR] at h
  | succ k ih =>
    intro r h
    obtain ⟨kd, s0, s1, s2, s3, rs, lo, hi, neg⟩ := r
    have hp := deep_part h
    show (rs.map (deepR (k + 1))).foldl max 0 + 1 ≤ k + 2
    have := foldl_max_le (B := k + 1) (rs.map (deepR (k + 1))) 0 (by omega) (by intro x hx; obtain ⟨p, hp', rfl⟩ := List.mem_map.1 hx; exact ih p (hp p hp'))
    omega
theorem deep40_part {kd s0 s1 s2 s3 lo hi : Int} {neg : Bool} {rs : List Re} (h : deepR 40 (.mk kd s0 s1 s2 s3 rs lo hi neg) ≤ 40) : ∀ p ∈ rs, deepR 40 p ≤ 40 := fun p hp => deep_up 39 p (deep_part h p hp)
theorem deep_bare (k : Nat) (r : Re) : deepR k (bareR r) = deepR k r := by
  obtain ⟨kd, s0, s1, s2, s3, rs, lo, hi, neg⟩ := r
  cases k <;> rfl
theorem looks_deep (r : Re) : ∀ ls, deepR 40 r ≤ 40 → (∀ x ∈ ls, deepR 40 x ≤ 40) → ∀ x ∈ looksR r ls, deepR 40 x ≤ 40 := by
  induction r using Re.ind with
  | h k s0 s1 s2 s3 rs lo hi neg ih =>
    intro ls hd hls
    have hL : ∀ (l : List Re), (∀ p ∈ l, p ∈ rs) → ∀ ls, (∀ x ∈ ls, deepR 40 x ≤ 40) → ∀ x ∈ looksL l ls, deepR 40 x ≤ 40 := by
      intro l
      induction l with
      | nil => intro _ ls h; exact h
      | cons p l ihl =>
        intro hm ls h
        exact ihl (fun q hq => hm q (by simp [hq])) _ (ih p (hm p (by simp)) ls (deep40_part hd p (hm p (by simp))) h)
    have h1 := hL rs (fun p hp => hp) ls hls
    simp only [looksR]
    split
    · exact h1
    · split
      · exact h1
      · intro x hx
        rcases List.mem_append.1 hx with hx | hx
        · exact h1 x hx
        · rw [List.mem_singleton] at hx; subst hx
          rw [deep_bare]; exact hd
theorem looksL_deep : ∀ (l : List Re) (ls : List Re), (∀ p ∈ l, deepR 40 p ≤ 40) → (∀ x ∈ ls, deepR 40 x ≤ 40) → ∀ x ∈ looksL l ls, deepR 40 x ≤ 40 := by
  intro l
  induction l with
  | nil => intro ls _ h; exact h
  | cons p l ih => intro ls hl h; exact ih _ (fun q hq => hl q (by simp [hq])) (looks_deep p ls (hl p (by simp)) h)
theorem looks_len (r : Re) : ∀ ls, (looksR r ls).length ≤ ls.length + nodesR r := by
  induction r using Re.ind with
  | h k s0 s1 s2 s3 rs lo hi neg ih =>
    intro ls
    have hL : ∀ (l : List Re), (∀ p ∈ l, p ∈ rs) → ∀ ls, (looksL l ls).length ≤ ls.length + nodesL l := by
      intro l
      induction l with
      | nil => intro _ ls; simp [looksL]
      | cons p l ihl =>
        intro hm ls
        have h1 := ihl (fun q hq => hm q (by simp [hq])) (looksR p ls)
        have h2 := ih p (hm p (by simp)) ls
        simp only [looksL, nodesL]; omega
    have h1 := hL rs (fun p hp => hp) ls
    simp only [looksR, nodesR]
    split
    · omega
    · split
      · omega
      · rw [List.length_append, List.length_singleton]; omega
theorem looksL_len : ∀ (l : List Re) (ls : List Re), (looksL l ls).length ≤ ls.length + nodesL l := by
  intro l
  induction l with
  | nil => intro ls; simp [looksL]
  | cons p l ih =>
    intro ls
    have h1 := ih (looksR p ls)
    have h2 := looks_len p ls
    simp only [looksL, nodesL]; omega
theorem alt2 {A B : Prop} (a : A) (b : B) : AltReq A B := ⟨⟨a, b⟩⟩
theorem small_bare {r : Re} (h : Small r) : Small (bareR r) := by
  cases h with
  | mk k s0 s1 s2 s3 rs lo hi neg h hp => exact .mk k s0 s1 s2 s3 rs lo hi false h hp
def PlanOwn (m : Mem) (bp : Nat) (ls : List Re) (L : Ev.Own) : Prop :=
  ∃ A n c rows Lx, L = (bp, .cells (toArr [.slice A n c]) 35 (0, 0)) :: Lx ∧ OwnS 30 9 (.slice A n c) (List.flatten rows) Lx ∧ (∀ r ∈ rows, r.length = 9) ∧ rows.length = ls.length ∧ n = ls.length ∧
    ∀ (i : Nat) (x : Re), ls[i]? = some x → ∃ cs, rows[i]? = some cs ∧ RepRe m cs x
theorem PlanOwn.le {m m' : Mem} {bp : Nat} {ls : List Re} {L : Ev.Own} (hm : Mem.Le m m') (h : PlanOwn m bp ls L) : PlanOwn m' bp ls L := by
  obtain ⟨A, n, c, rows, Lx, h1, h2, h3, h4, h5, h6⟩ := h
  exact ⟨A, n, c, rows, Lx, h1, h2, h3, h4, h5, fun i x hx => by obtain ⟨cs, e1, e2⟩ := h6 i x hx; exact ⟨cs, e1, e2.le hm⟩⟩
theorem Clone_fn (m : Mem) (r : Re) (cs : List Value) (h : RepRe m cs r) (hs : Small r) (hd : deepR 40 r ≤ 40) : Fn0 Tryz.prog 52 [.agg (toArr cs)] m fun m' u => ∃ cs', u = .agg (toArr cs') ∧ RepRe m' cs' r := by
  obtain ⟨k1, u0, u1, u2, u3, A1, n1, c1, lo1, hi1, neg1, rfl⟩ := h.form
  refine Fn.enter (N := 9) hX Tryz.func52 rfl rfl (by show _ ≤ _; simp) (fun w0 hL => ?_)
  conv => whnf
  refine NewReq.mk hL ?_
  clear hL
  intro b1 w hL
  conv => whnf
  refine NewReq.mk hL ?_
  clear hL
  intro b2 w hL
  conv => whnf
  conv => whnf
  repeat ((first | refine zT ?_ | refine zF ?_ | refine zL hX hL ?_ | refine zB hX hL ?_ | (refine zS hX hL ?_; clear hL; intro w hL) | refine zI ?_ | refine zG hX ?_ | refine zO ?_); conv => whnf)
  refine CallReq.val (Deep_fn m r _ h) hL ?_
  clear hL
  intro w hL
  conv => whnf
  repeat ((first | refine zT ?_ | refine zF ?_ | refine zL hX hL ?_ | refine zB hX hL ?_ | (refine zS hX hL ?_; clear hL; intro w hL) | refine zI ?_ | refine zG hX ?_ | refine zO ?_); conv => whnf)
  refine BrReq.dec (fun d1 => absurd d1 (by omega)) (fun d1 => ?_)
  conv => whnf
  repeat ((first | refine zT ?_ | refine zF ?_ | refine zL hX hL ?_ | refine zB hX hL ?_ | (refine zS hX hL ?_; clear hL; intro w hL) | refine zI ?_ | refine zG hX ?_ | refine zO ?_); conv => whnf)
  refine CallReq.mk (L1 := []) (cloneT_fn r m _ h hs) hL ?_
  clear hL
  rintro v m2 L1 w hL hm2 ⟨cs3, rfl, ho⟩
  obtain ⟨m3, hL, hm3, hrep⟩ := ho.freeze hL
  obtain ⟨k3, v0, v1, v2, v3, A3, n3, c3, lo3, hi3, neg3, rfl⟩ := hrep.form
  conv => whnf
  repeat ((first | refine zT ?_ | refine zF ?_ | refine zL hX hL ?_ | refine zB hX hL ?_ | (refine zS hX hL ?_; clear hL; intro w hL) | refine zI ?_ | refine zG hX ?_ | refine zO ?_); conv => whnf)
  exact RetReq.mk hL.drop.drop ⟨rfl, _, rfl, hrep⟩
set_option maxHeartbeats 4000000 in
theorem gather_fn (r : Re) : ∀ (m : Mem) (cs : List Value) (bp : Nat) (ls : List Re) (L : Ev.Own), RepRe m cs r → Small r → deepR 40 r ≤ 40 → (∀ x ∈ ls, deepR 40 x ≤ 40) → ls.length + nodesR r ≤ 1000000 → PlanOwn m bp ls L →
    Ev.Fn Tryz.prog 36 [.pointer (some ⟨bp, 0, none⟩), .agg (toArr cs)] m L fun m' L' u => u = resV [] ∧ PlanOwn m' bp (looksR r ls) L' := by
  induction r using Re.ind with
  | h kd s0 s1 s2 s3 rs lo hi neg ih =>
    intro m cs bp ls L h hsm hd hld hnb hp
    obtain ⟨A, n, c, rfl, hs, hrng⟩ := h.open
    obtain ⟨hn, hc, hm⟩ := hs.lens
    have hmx : maxLen = 9223372036854775807 := rfl
    have he := hs.elem
    have hsub : rs.length ≤ 2000 ∧ ∀ p ∈ rs, Small p := by cases hsm; exact ⟨by assumption, by assumption⟩
    simp only [nodesR] at hnb
    refine Fn.enter (N := 41) hX Tryz.func36 rfl rfl (by show _ ≤ _; simp) (fun w0 hL => ?_)
    conv => whnf
    obtain ⟨S0, hS0⟩ : ∃ S0, S0 = keys L := ⟨_, rfl⟩
    rw [← hS0] at hL ⊢
    refine NewReq.mk hL ?_
    clear hL
    intro b3 w hL
    conv => whnf
    conv => whnf
    repeat ((first | refine zT ?_ | refine zF ?_ | refine zL hX hL ?_ | refine zB hX hL ?_ | (refine zS hX hL ?_; clear hL; intro w hL) | refine zI ?_ | refine zG hX ?_ | refine zO ?_); conv => whnf)
    refine LoopReq.inv hX (fun j : Nat => [(9, .int .i64 j)]) [0, 3, 7, 8]
      (fun j w => j ≤ n ∧ ∃ m1 L1, Mem.Le m m1 ∧ PlanOwn m1 bp (looksL (rs.take j) ls) L1 ∧ Ev.Loc m S0 w0 m1 ((b3, .cells (toArr (reC kd s0 s1 s2 s3 (.slice A n c) lo hi neg)) 30 (0, 0)) :: L1) w) (fun j => n - j) 0
      ⟨by omega, m, L, Mem.Le.refl m, hp, hL⟩ ⟨rfl, trivial⟩ ?_
    clear hL hp
    rintro j w f ⟨hj, m1, L1, hm1, hp, hL⟩
    conv => whnf
    repeat ((first | refine zT ?_ | refine zF ?_ | refine zL hX hL ?_ | refine zB hX hL ?_ | (refine zS hX hL ?_; clear hL; intro w hL) | refine zI ?_ | refine zG hX ?_ | refine zO ?_); conv => whnf)
    refine BrReq.dec (fun hlt => ?_) (fun hlt => ?_)
    · have hlt' : j < rs.length := by omega
      obtain ⟨a, cs', rfl, hl9, hcells, hrep⟩ := he j _ (List.getElem?_eq_getElem hlt')
      obtain ⟨k1, u0, u1, u2, u3, A1, n1, c1, lo1, hi1, neg1, rfl⟩ := hrep.form
      have hln := looksL_len (rs.take j) ls
      have hnt := nodesL_take rs j hlt'
      have hnl := nodesL_take_le rs (j + 1)
      have htk := looksL_take rs j hlt' ls
      have hdj := looksL_deep (rs.take j) ls (fun p hp => deep40_part hd p (List.mem_of_mem_take hp)) hld
      conv => whnf
      repeat ((first | refine Idx2Req.mk j a rfl (by omega) rfl ?_ | refine LdReq.agg hX rfl rfl hL hl9 (hcells.le hm1) ?_ | refine zT ?_ | refine zF ?_ | refine zL hX hL ?_ | refine zB hX hL ?_ | (refine zS hX hL ?_; clear hL; intro w hL) | refine zI ?_ | refine zG hX ?_ | refine zO ?_); conv => whnf)
      refine NewReq.mk hL ?_
      clear hL
      intro b5 w hL
      conv => whnf
      conv => whnf
      repeat ((first | refine zT ?_ | refine zF ?_ | refine zL hX hL ?_ | refine zB hX hL ?_ | (refine zS hX hL ?_; clear hL; intro w hL) | refine zI ?_ | refine zG hX ?_ | refine zO ?_); conv => whnf)
      refine CallReq.mk (L1 := L1) (ih _ (List.getElem_mem hlt') m1 _ bp _ L1 (hrep.le hm1) (hsub.2 _ (List.getElem_mem hlt')) (deep40_part hd _ (List.getElem_mem hlt')) hdj (by omega) hp) (Ev.Loc.back (L1 := [_, _]) hL) ?_
      clear hL
      rintro v m2 L2 w hL hm2 ⟨rfl, hp2⟩
      rw [← htk] at hp2
      replace hL := hL.back
      have hL : Ev.Loc m S0 w0 m2 (_ :: _ :: L2) w := hL
      conv => whnf
      repeat ((first | refine zT ?_ | refine zF ?_ | refine zL hX hL ?_ | refine zB hX hL ?_ | (refine zS hX hL ?_; clear hL; intro w hL) | refine zI ?_ | refine zG hX ?_ | refine zO ?_); conv => whnf)
      refine ⟨j + 1, ⟨by omega, m2, L2, hm1.trans hm2, hp2, hL.drop⟩, by first | omega | (simp only; omega) | (simp only [List.length_cons, List.length_append]; omega), ?_, ?_⟩
      · repeat (first | exact trivial | (refine And.intro (by (conv => lhs; whnf) <;> (conv => rhs; whnf) <;> (first | rfl)) ?_))
      · repeat (first | exact trivial | (refine And.intro (by (conv => lhs; whnf) <;> (conv => rhs; whnf) <;> (first | rfl)) ?_))
    have hjn : j = rs.length := by omega
    rw [hjn, List.take_length] at hp
    have hln := looksL_len rs ls
    have hdl := looksL_deep rs ls (fun p hp => deep40_part hd p hp) hld
    obtain ⟨A0, n0, c0, rows, Lx, rfl, hown, hrows, hrl, hn0, hrl2⟩ := hp
    conv => whnf
    repeat ((first | refine zT ?_ | refine zF ?_ | refine zL hX hL ?_ | refine zB hX hL ?_ | (refine zS hX hL ?_; clear hL; intro w hL) | refine zI ?_ | refine zG hX ?_ | refine zO ?_); conv => whnf)
    refine DrawReq.plan hX (.fst 0 (.fst 1 (.fst 2 (.fst 3 (.fst 4 (.fst 5 (.fst 6 (.fst 7 (.alt 8 (.fst 9 (.fst 10 (.done))) (.stop)))))))))) [(b3, .cells (toArr (reC kd s0 s1 s2 s3 (.slice A n c) lo hi neg)) 30 (0, 0)), (bp, .cells (toArr [.slice A0 n0 c0]) 35 (0, 0))] (by kernel_rfl) (by kernel_rfl) hL (fun h => h.sublist (.cons_cons _ (.cons_cons _ (List.nil_sublist _)))) ?_
    clear hL
    intro w hL
    conv => whnf
    repeat ((first | refine zQ hX ?_ | refine zR hX ?_ | refine zA ?_ | refine zT ?_ | refine zF ?_ | refine zL hX hL ?_ | refine zB hX hL ?_ | (refine zS hX hL ?_; clear hL; intro w hL) | refine zI ?_ | refine zG hX ?_ | refine zO ?_); conv => whnf)
    have hfin : ¬ (8 ≤ kd ∧ ¬ (looksL rs ls).any (fun x => sameR 41 x (bareR (.mk kd s0 s1 s2 s3 rs lo hi neg))) = true) → looksR (.mk kd s0 s1 s2 s3 rs lo hi neg) ls = looksL rs ls := by
      intro h
      simp only [looksR]
      by_cases e : kd < 8
      · rw [if_pos e]
      · rw [if_neg e, if_pos]
        exact Decidable.not_not.1 fun h' => h ⟨by omega, h'⟩
    refine BrReq.dec (fun k8 => ?_) (fun k8 => ?_)
    rotate_left
    · conv => whnf
      repeat ((first | refine zQ hX ?_ | refine zR hX ?_ | refine zA ?_ | refine zT ?_ | refine zF ?_ | refine zL hX hL ?_ | refine zB hX hL ?_ | (refine zS hX hL ?_; clear hL; intro w hL) | refine zI ?_ | refine zG hX ?_ | refine zO ?_); conv => whnf)
      refine RetReq.mk hL.drop ⟨rfl, ?_⟩
      rw [hfin fun h => k8 h.1]
      exact ⟨A0, n0, c0, rows, Lx, rfl, hown, hrows, hrl, hn0, hrl2⟩
    obtain ⟨mm, A', c', ev, hLf, hle, hsl, -⟩ := OwnS.freezeRows (size := 9) (l := looksL rs ls) (L2 := [_, _]) (by omega) hown (Ev.Loc.back (L1 := [_, _]) hL) hrows (by omega) hrl2
    cases ev
    replace hsl : Sl mm 9 (RepRe mm) (.slice A0 rows.length c0) (looksL rs ls) := hsl.le (Mem.Le.refl mm) fun cs x _ hx => hx.le hle
    have hrm := (h.le hm1).le hle
    have hix := Index_fn mm _ _ _ _ hsl hrm
    conv => whnf
    repeat ((first | refine zQ hX ?_ | refine zR hX ?_ | refine zA ?_ | refine zT ?_ | refine zF ?_ | refine zL hX hL ?_ | refine zB hX hL ?_ | (refine zS hX hL ?_; clear hL; intro w hL) | refine zI ?_ | refine zG hX ?_ | refine zO ?_); conv => whnf)
    refine CallReq.lend hix hLf.sub hL ?_
    clear hL hLf
    intro w hL
    conv => whnf
    repeat ((first | refine SReq.mk (hL.sublist (.cons_cons _ (.cons_cons _ (List.nil_sublist _)))) ?_ | refine zQ hX ?_ | refine zR hX ?_ | refine zA ?_ | refine zT ?_ | refine zF ?_ | refine zL hX hL ?_ | refine zB hX hL ?_ | (refine zS hX hL ?_; clear hL; intro w hL) | refine zI ?_ | refine zG hX ?_ | refine zO ?_); conv => whnf)
    have hlike : ∀ x ∈ looksL rs ls, likeR x (.mk kd s0 s1 s2 s3 rs lo hi neg) = sameR 41 x (bareR (.mk kd s0 s1 s2 s3 rs lo hi neg)) := by
      intro x hx
      unfold likeR
      rw [decide_eq_true (hdl x hx), decide_eq_true (by rw [deep_bare]; exact hd), Bool.true_and, Bool.true_and]
    have hany : 0 ≤ idxR (fun x => likeR x (.mk kd s0 s1 s2 s3 rs lo hi neg)) (looksL rs ls) ↔ (looksL rs ls).any (fun x => sameR 41 x (bareR (.mk kd s0 s1 s2 s3 rs lo hi neg))) = true := by
      rw [idxR_neg, List.any_eq_true, List.any_eq_true]
      exact exists_congr fun x => and_congr_right fun hx => by rw [hlike x hx]
    refine BrReq.dec (fun kn => ?_) (fun kn => ?_)
    rotate_left
    · conv => whnf
      repeat ((first | refine zQ hX ?_ | refine zR hX ?_ | refine zA ?_ | refine zT ?_ | refine zF ?_ | refine zL hX hL ?_ | refine zB hX hL ?_ | (refine zS hX hL ?_; clear hL; intro w hL) | refine zI ?_ | refine zG hX ?_ | refine zO ?_); conv => whnf)
      refine RetReq.mk hL.drop ⟨rfl, ?_⟩
      rw [hfin fun h => h.2 (hany.1 (by omega))]
      exact ⟨A0, _, c0, rows, Lx, rfl, hown, hrows, hrl, hn0, hrl2⟩
    have hnew : looksR (.mk kd s0 s1 s2 s3 rs lo hi neg) ls = looksL rs ls ++ [bareR (.mk kd s0 s1 s2 s3 rs lo hi neg)] := by
      simp only [looksR]
      rw [if_neg (by omega), if_neg (fun h => absurd (hany.2 h) (by omega))]
    have hbr := bare_rep (h.le hm1)
    have hsb := small_bare hsm
    have hdb : deepR 40 (bareR (.mk kd s0 s1 s2 s3 rs lo hi neg)) ≤ 40 := by rw [deep_bare]; exact hd
    obtain ⟨zr, hzr⟩ : ∃ zr, zr = reC 0 0 0 0 0 (.slice none 0 0) 0 0 false := ⟨_, rfl⟩
    have hz9 : zr.length = 9 := by rw [hzr]; rfl
    have fin : ∀ (m3 : Mem) (row : List Value) (g6 n6 cap : Nat) (cur : List Value), Mem.Le m1 m3 → RepRe m3 row (bareR (.mk kd s0 s1 s2 s3 rs lo hi neg)) → n6 = rows.length + 1 → n6 ≤ cap → cap ≤ maxLen → cur.length = cap * 9 → cur.take (n6 * 9) = rows.flatten ++ zr →
        PlanOwn m3 bp (looksR (.mk kd s0 s1 s2 s3 rs lo hi neg) ls) [(bp, .cells (toArr [.slice (some ⟨g6, 0, none⟩) n6 cap]) 35 (0, 0)), (g6, .cells (toArr (spliceL cur (rows.length * 9) row)) 30 (0, 0))] := by
      intro m3 row g6 n6 cap cur hm3 hrow hn6 q1 q2 q3 q4
      have ef : rows.flatten ++ zr = (rows ++ [zr]).flatten := by rw [List.flatten_append, List.flatten_cons, List.flatten_nil, List.append_nil]
      rw [ef] at q4
      have hset : (rows ++ [zr]).set rows.length row = rows ++ [row] := by rw [List.set_append_right _ _ (Nat.le_refl _), Nat.sub_self]; rfl
      have ho := owns_row (te := 30) (g := g6) (row := row) rows.length q1 q2 q3 q4 (by
        intro r hr
        rcases List.mem_append.1 hr with hr | hr
        · exact hrows r hr
        · rw [List.mem_singleton] at hr; subst hr; exact hz9) (by rw [List.length_append, List.length_singleton]; omega) hrow.len (by rw [List.length_append, List.length_singleton]; exact hn6)
      rw [hset] at ho
      refine ⟨some ⟨g6, 0, none⟩, n6, cap, rows ++ [row], _, rfl, ho, ?_, by rw [hnew, List.length_append, List.length_append, hrl]; rfl, by rw [hnew, List.length_append, hn6, ← hrl]; rfl, ?_⟩
      · intro r hr
        rcases List.mem_append.1 hr with hr | hr
        · exact hrows r hr
        · rw [List.mem_singleton] at hr; subst hr; exact hrow.len
      · intro i x hx
        rw [hnew] at hx
        by_cases hi : i < rows.length
        · rw [List.getElem?_append_left (by omega)] at hx
          obtain ⟨cs, e1, e2⟩ := hrl2 i x hx
          exact ⟨cs, by rw [List.getElem?_append_left hi]; exact e1, e2.le hm3⟩
        · rw [List.getElem?_append_right (by omega)] at hx
          have hi0 : i - (looksL rs ls).length = 0 := by have := (List.getElem?_eq_some_iff.1 hx).1; simp at this; omega
          rw [hi0] at hx
          simp only [List.getElem?_cons_zero, Option.some.injEq] at hx
          subst hx
          refine ⟨row, ?_, hrow⟩
          rw [List.getElem?_append_right (by omega), show i - rows.length = 0 by omega]; rfl
    have hnodup := hrl
    conv => whnf
    repeat ((first | refine zT ?_ | refine zF ?_ | refine zL hX hL ?_ | refine zB hX hL ?_ | (refine zS hX hL ?_; clear hL; intro w hL) | refine zI ?_ | refine zG hX ?_ | refine zO ?_); conv => whnf)
    refine DrawReq.plan hX (.fst 0 (.fst 1 (.fst 2 (.fst 4 (.alt 3 (.fst 7 (.alt 5 (.alt 6 (.alt 8 (.alt 9 (.fst 10 (.fst 12 (.fst 13 (.alt 11 (.alt 14 (.done) (.stop)) (.alt 14 (.alt 11 (.done) (.stop)) (.stop)))))) (.stop)) (.stop)) (.alt 8 (.alt 6 (.alt 9 (.fst 10 (.fst 12 (.fst 13 (.alt 11 (.alt 14 (.done) (.stop)) (.alt 14 (.alt 11 (.done) (.stop)) (.stop)))))) (.stop)) (.stop)) (.stop))) (.alt 8 (.alt 5 (.alt 6 (.alt 9 (.fst 10 (.fst 12 (.fst 13 (.alt 11 (.alt 14 (.done) (.stop)) (.alt 14 (.alt 11 (.done) (.stop)) (.stop)))))) (.stop)) (.stop)) (.stop)) (.stop)))) (.alt 5 (.alt 3 (.fst 7 (.alt 6 (.alt 8 (.alt 9 (.fst 10 (.fst 12 (.fst 13 (.alt 11 (.alt 14 (.done) (.stop)) (.alt 14 (.alt 11 (.done) (.stop)) (.stop)))))) (.stop)) (.stop)) (.alt 8 (.alt 6 (.alt 9 (.fst 10 (.fst 12 (.fst 13 (.alt 11 (.alt 14 (.done) (.stop)) (.alt 14 (.alt 11 (.done) (.stop)) (.stop)))))) (.stop)) (.stop)) (.stop)))) (.alt 6 (.alt 3 (.fst 7 (.alt 8 (.alt 9 (.fst 10 (.fst 12 (.fst 13 (.alt 11 (.alt 14 (.done) (.stop)) (.alt 14 (.alt 11 (.done) (.stop)) (.stop)))))) (.stop)) (.stop))) (.alt 8 (.alt 3 (.fst 7 (.alt 9 (.fst 10 (.fst 12 (.fst 13 (.alt 11 (.alt 14 (.done) (.stop)) (.alt 14 (.alt 11 (.done) (.stop)) (.stop)))))) (.stop))) (.stop)) (.stop))) (.alt 8 (.alt 3 (.fst 7 (.alt 6 (.alt 9 (.fst 10 (.fst 12 (.fst 13 (.alt 11 (.alt 14 (.done) (.stop)) (.alt 14 (.alt 11 (.done) (.stop)) (.stop)))))) (.stop)) (.stop))) (.alt 6 (.alt 3 (.fst 7 (.alt 9 (.fst 10 (.fst 12 (.fst 13 (.alt 11 (.alt 14 (.done) (.stop)) (.alt 14 (.alt 11 (.done) (.stop)) (.stop)))))) (.stop))) (.stop)) (.stop))) (.stop)))) (.alt 8 (.alt 3 (.fst 7 (.alt 5 (.alt 6 (.alt 9 (.fst 10 (.fst 12 (.fst 13 (.alt 11 (.alt 14 (.done) (.stop)) (.alt 14 (.alt 11 (.done) (.stop)) (.stop)))))) (.stop)) (.stop)) (.stop))) (.alt 5 (.alt 3 (.fst 7 (.alt 6 (.alt 9 (.fst 10 (.fst 12 (.fst 13 (.alt 11 (.alt 14 (.done) (.stop)) (.alt 14 (.alt 11 (.done) (.stop)) (.stop)))))) (.stop)) (.stop))) (.alt 6 (.alt 3 (.fst 7 (.alt 9 (.fst 10 (.fst 12 (.fst 13 (.alt 11 (.alt 14 (.done) (.stop)) (.alt 14 (.alt 11 (.done) (.stop)) (.stop)))))) (.stop))) (.stop)) (.stop))) (.stop))) (.stop)))))))) [(b3, .cells (toArr (reC kd s0 s1 s2 s3 (.slice A n c) lo hi neg)) 30 (0, 0))] (by kernel_rfl) (by kernel_rfl) hL (fun h => h.one 0 rfl) ?_
    clear hL
    intro w hL
    conv => whnf
    repeat' (first
      | ((first | refine BrReq.tt ?_ | refine BrReq.ff ?_ | refine QLdReq.ownA hX rfl rfl 0 rfl rfl ?_ | refine LdReq.own1 hX rfl rfl 1 hL rfl rfl ?_ | refine LdReq.own1 hX rfl rfl 2 hL rfl rfl ?_ | refine AltReq.one ?_ | refine SReq.mk (hL.one 0 rfl) ?_ | refine SReq.mk (hL.one 1 rfl) ?_ | refine SReq.mk ((hL.one 0 rfl).weaken hm3 hm1) ?_ | refine SReq.mk ((hL.one 1 rfl).weaken hm3 hm1) ?_); conv => whnf)
      | (refine NewReq.mk hL ?_; clear hL; intro b36 w hL; conv => whnf)
      | (refine CallReq.val (bare_fn _ kd s0 s1 s2 s3 lo hi neg A n c) hL ?_; clear hL; intro w hL; conv => whnf)
      | (refine CallReq.pure (Clone_fn m1 _ _ hbr hsb hdb) hL ?_; clear hL; rintro v m3 w hL hm3 ⟨csn, rfl, hrn⟩; obtain ⟨kk, x0, x1, x2, x3, A3, n3, c3, lo3, hi3, neg3, rfl⟩ := hrn.form; conv => whnf)
      | (refine alt2 ?_ ?_ <;> (conv => whnf)))
    all_goals (
      have hL : Ev.Loc m S0 w0 m3 ([(b36, .cells (toArr (reC 0 0 0 0 0 (.slice none 0 0) 0 0 false)) 30 (0, 0)), (b3, .cells (toArr (reC kd s0 s1 s2 s3 (.slice A n c) lo hi neg)) 30 (0, 0)), (bp, .cells (toArr [.slice A0 rows.length c0]) 35 (0, 0))] ++ Lx) w := hL
      rw [← hzr] at hL
      refine RunReq.append hX 22 30 rfl rfl rfl rfl rfl hown hL.back (k := 1) (news := zr) (by rw [hz9]; rfl) (hL.src 0 rfl) (by rw [hzr]; simp [reC, Value.oneCell']) (by rw [flat_len rows hrows, hz9]; omega) rfl ?_
      clear hL
      intro A6 n6 c6 L6 w hn6 ho6 hL
      replace hL := hL.back
      rw [List.length_append, flat_len rows hrows, hz9] at hn6
      have hn6 : rows.length * 9 + 9 = n6 * 9 := hn6
      have hn6' : n6 = rows.length + 1 := by omega
      obtain ⟨n', h1, h2⟩ := ho6
      rcases h2 with ⟨e, _, _⟩ | ⟨g6, cap, cur, e, rfl, q1, q2, q3, q4⟩
      · injection e with e1 e2 e3; omega
      injection e with e1 e2 e3
      subst e1 e2 e3
      have q3 : cur.length = c6 * 9 := q3
      have q4 : cur.take (n6 * 9) = rows.flatten ++ zr := q4
      have hf := fin m3 _ g6 n6 c6 cur hm3 hrn hn6' q1 q2 q3 q4
      have hle9 : 0 + scale rows.length 9 + 9 ≤ cur.length := by rw [scale_eq, q3, Nat.zero_add]; have : (rows.length + 1) * 9 ≤ c6 * 9 := Nat.mul_le_mul_right _ (by omega); omega
      have esc : 0 + scale rows.length 9 = rows.length * 9 := by rw [scale_eq, Nat.zero_add]
      rw [← esc] at hf
      have hL : Ev.Loc m S0 w0 m3 [(b36, .cells (toArr zr) 30 (0, 0)), (b3, .cells (toArr (reC kd s0 s1 s2 s3 (.slice A n c) lo hi neg)) 30 (0, 0)), (bp, .cells (toArr [.slice A0 rows.length c0]) 35 (0, 0)), (g6, .cells (toArr cur) 30 (0, 0))] w := hL
      conv => whnf
      repeat ((first | refine SReq.mk ((hL.one 1 rfl).weaken hm3 hm1) ?_ | refine Idx2Req.mk rows.length _ rfl (by omega) rfl ?_ | refine zQ hX ?_ | refine zR hX ?_ | refine zA ?_ | refine zT ?_ | refine zF ?_ | refine zL hX hL ?_ | refine zB hX hL ?_ | (refine zS hX hL ?_; clear hL; intro w hL) | refine zI ?_ | refine zG hX ?_ | refine zO ?_); conv => whnf)
      refine alt2 ?_ ?_
      · conv => whnf
        repeat ((first | (refine StReq.ownAt hX rfl 3 hL rfl rfl hle9 rfl ?_; clear hL; intro w hL) | refine SReq.mk ((hL.one 1 rfl).weaken hm3 hm1) ?_ | refine zQ hX ?_ | refine zR hX ?_ | refine zA ?_ | refine zT ?_ | refine zF ?_ | refine zL hX hL ?_ | refine zB hX hL ?_ | (refine zS hX hL ?_; clear hL; intro w hL) | refine zI ?_ | refine zG hX ?_ | refine zO ?_); conv => whnf)
        exact RetReq.mk hL.drop.drop ⟨rfl, hf⟩
      · conv => whnf
        repeat ((first | (refine StReq.ownAt hX rfl 3 hL rfl rfl hle9 rfl ?_; clear hL; intro w hL) | refine SReq.mk ((hL.one 1 rfl).weaken hm3 hm1) ?_ | refine zQ hX ?_ | refine zR hX ?_ | refine zA ?_ | refine zT ?_ | refine zF ?_ | refine zL hX hL ?_ | refine zB hX hL ?_ | (refine zS hX hL ?_; clear hL; intro w hL) | refine zI ?_ | refine zG hX ?_ | refine zO ?_); conv => whnf)
        exact RetReq.mk hL.drop.drop ⟨rfl, hf⟩)
end Go.Proofs.YtiololnblplloaaGreat.looks
namespace Go.Proofs.YtiololnblplloaaGreat.looks
open Go Go.Ev Go.Proofs Go.Proofs.YtiololnblplloaaGreat.tree
def makeR (l : List Re) : Int × List Re := if l.any (fun r => !formedR r) = true then (1, []) else if 4 < (looksL l []).length then (10, []) else (0, looksL l [])
theorem make1_fn (m : Mem) (p : Re) (cs : List Value) (h : RepRe m cs p) : FnV Tryz.prog 34 ([.agg (toArr cs)] ++ []) m (.bool (!formedR p)) := by
  obtain ⟨k1, u0, u1, u2, u3, A1, n1, c1, lo1, hi1, neg1, rfl⟩ := h.form
  refine Fn.enter (N := 6) hX Tryz.func34 rfl rfl (by show _ ≤ _; simp) (fun w0 hL => ?_)
  conv => whnf
  refine NewReq.mk hL ?_
  clear hL
  intro b1 w hL
  conv => whnf
  conv => whnf
  repeat ((first | refine zT ?_ | refine zF ?_ | refine zL hX hL ?_ | refine zB hX hL ?_ | (refine zS hX hL ?_; clear hL; intro w hL) | refine zI ?_ | refine zG hX ?_ | refine zO ?_); conv => whnf)
  refine CallReq.val (Formed_fn m p _ h) hL ?_
  clear hL
  intro w hL
  conv => whnf
  repeat ((first | refine zT ?_ | refine zF ?_ | refine zL hX hL ?_ | refine zB hX hL ?_ | (refine zS hX hL ?_; clear hL; intro w hL) | refine zI ?_ | refine zG hX ?_ | refine zO ?_); conv => whnf)
  exact RetReq.bool hL.drop rfl
theorem formed_deep {r : Re} (h : formedR r = true) : deepR 40 r ≤ 40 := by
  unfold formedR at h
  simp only [Bool.and_eq_true, decide_eq_true_eq] at h
  exact h.1.1
set_option maxHeartbeats 1000000 in
theorem Make_fn (m : Mem) (v : Value) (l : List Re) (hs : Sl m 9 (RepRe m) v l) (hsm : ∀ r ∈ l, Small r) (hnb : nodesL l ≤ 1000000) :
    Fn0 Tryz.prog 24 [v] m fun m' u => ∃ A n c, u = .tuple (toArr [.agg (toArr [.slice A n c]), .int .i64 (makeR l).1]) ∧ Sl m' 9 (RepRe m') (.slice A n c) (makeR l).2 := by
  have hs' := hs
  obtain ⟨A, n, c, rfl, hn, hc, hm, -⟩ := hs
  have he := hs'.elem
  have hmx : maxLen = 9223372036854775807 := rfl
  refine Fn.enter (N := 25) hX Tryz.func24 rfl rfl (by show _ ≤ _; simp) (fun w0 hL => ?_)
  conv => whnf
  refine NewReq.mk hL ?_
  clear hL
  intro b2 w hL
  conv => whnf
  conv => whnf
  repeat ((first | refine zT ?_ | refine zF ?_ | refine zL hX hL ?_ | refine zB hX hL ?_ | (refine zS hX hL ?_; clear hL; intro w hL) | refine zI ?_ | refine zG hX ?_ | refine zO ?_); conv => whnf)
  refine CallReq.val (containsMake_fn m _ l (fun r => !formedR r) hs' fun p _ cs h => make1_fn m p cs h) hL ?_
  clear hL
  intro w hL
  conv => whnf
  repeat ((first | refine zT ?_ | refine zF ?_ | refine zL hX hL ?_ | refine zB hX hL ?_ | (refine zS hX hL ?_; clear hL; intro w hL) | refine zI ?_ | refine zG hX ?_ | refine zO ?_); conv => whnf)
  refine BrReq.bool (fun hu => ?_) (fun hu => ?_)
  · have e : makeR l = (1, []) := by unfold makeR; rw [if_pos hu]
    conv => whnf
    repeat ((first | refine zT ?_ | refine zF ?_ | refine zL hX hL ?_ | refine zB hX hL ?_ | (refine zS hX hL ?_; clear hL; intro w hL) | refine zI ?_ | refine zG hX ?_ | refine zO ?_); conv => whnf)
    exact RetReq.mk hL.drop ⟨rfl, none, 0, 0, by rw [e]; rfl, by rw [e]; exact ⟨none, 0, 0, rfl, rfl, Nat.le_refl 0, Nat.zero_le _, fun i x hx => by simp at hx⟩⟩
  have hform : ∀ r ∈ l, formedR r = true := by
    intro r hr
    have := List.any_eq_false.1 hu r hr
    simpa using this
  conv => whnf
  repeat ((first | refine zT ?_ | refine zF ?_ | refine zL hX hL ?_ | refine zB hX hL ?_ | (refine zS hX hL ?_; clear hL; intro w hL) | refine zI ?_ | refine zG hX ?_ | refine zO ?_); conv => whnf)
  refine NewReq.mk hL ?_
  clear hL
  intro b4 w hL
  conv => whnf
  conv => whnf
  repeat ((first | refine zT ?_ | refine zF ?_ | refine zL hX hL ?_ | refine zB hX hL ?_ | (refine zS hX hL ?_; clear hL; intro w hL) | refine zI ?_ | refine zG hX ?_ | refine zO ?_); conv => whnf)
  refine LoopReq.inv hX (fun j : Nat => [(12, .int .i64 j)]) [2, 4, 10, 11]
    (fun j w => j ≤ n ∧ ∃ m1 L1, Mem.Le m m1 ∧ PlanOwn m1 b4 (looksL (l.take j) []) L1 ∧ Ev.Loc m [] w0 m1 ((b2, .cells (toArr [.slice none 0 0]) 35 (0, 0)) :: L1) w) (fun j => n - j) 0
    ⟨by omega, m, _, Mem.Le.refl m, ⟨none, 0, 0, [], [], rfl, OwnS.nil _ _, fun r hr => by simp at hr, rfl, rfl, fun i x hx => by simp [looksL] at hx⟩, hL.perm (List.Perm.swap _ _ _)⟩ ⟨rfl, trivial⟩ ?_
  clear hL
  rintro j w f ⟨hj, m1, L1, hm1, hp, hL⟩
  conv => whnf
  repeat ((first | refine zT ?_ | refine zF ?_ | refine zL hX hL ?_ | refine zB hX hL ?_ | (refine zS hX hL ?_; clear hL; intro w hL) | refine zI ?_ | refine zG hX ?_ | refine zO ?_); conv => whnf)
  refine BrReq.dec (fun hlt => ?_) (fun hlt => ?_)
  · have hlt' : j < l.length := by omega
    obtain ⟨a, cs', rfl, hl9, hcells, hrep⟩ := he j _ (List.getElem?_eq_getElem hlt')
    obtain ⟨k1, u0, u1, u2, u3, A1, n1, c1, lo1, hi1, neg1, rfl⟩ := hrep.form
    have hmem := List.getElem_mem hlt'
    have hln := looksL_len (l.take j) []
    have hnt := nodesL_take l j hlt'
    have hnl := nodesL_take_le l (j + 1)
    have htk := looksL_take l j hlt' []
    have hdj := looksL_deep (l.take j) [] (fun p hp => formed_deep (hform p (List.mem_of_mem_take hp))) (fun x hx => by simp at hx)
    simp only [List.length_nil, Nat.zero_add] at hln
    conv => whnf
    repeat ((first | refine Idx2Req.mk j a rfl (by omega) rfl ?_ | refine LdReq.agg hX rfl rfl hL hl9 (hcells.le hm1) ?_ | refine zT ?_ | refine zF ?_ | refine zL hX hL ?_ | refine zB hX hL ?_ | (refine zS hX hL ?_; clear hL; intro w hL) | refine zI ?_ | refine zG hX ?_ | refine zO ?_); conv => whnf)
    refine NewReq.mk hL ?_
    clear hL
    intro b6 w hL
    conv => whnf
    conv => whnf
    repeat ((first | refine zT ?_ | refine zF ?_ | refine zL hX hL ?_ | refine zB hX hL ?_ | (refine zS hX hL ?_; clear hL; intro w hL) | refine zI ?_ | refine zG hX ?_ | refine zO ?_); conv => whnf)
    refine CallReq.mk (L1 := L1) (gather_fn _ m1 _ b4 _ L1 (hrep.le hm1) (hsm _ hmem) (formed_deep (hform _ hmem)) hdj (by omega) hp) (Ev.Loc.back (L1 := [_, _]) hL) ?_
    clear hL
    rintro v m2 L2 w hL hm2 ⟨rfl, hp2⟩
    rw [← htk] at hp2
    replace hL := hL.back
    have hL : Ev.Loc m [] w0 m2 (_ :: _ :: L2) w := hL
    conv => whnf
    repeat ((first | refine zT ?_ | refine zF ?_ | refine zL hX hL ?_ | refine zB hX hL ?_ | (refine zS hX hL ?_; clear hL; intro w hL) | refine zI ?_ | refine zG hX ?_ | refine zO ?_); conv => whnf)
    refine ⟨j + 1, ⟨by omega, m2, L2, hm1.trans hm2, hp2, hL.drop⟩, by first | omega | (simp only; omega) | (simp only [List.length_cons, List.length_append]; omega), ?_, ?_⟩
    · repeat (first | exact trivial | (refine And.intro (by (conv => lhs; whnf) <;> (conv => rhs; whnf) <;> (first | rfl)) ?_))
    · repeat (first | exact trivial | (refine And.intro (by (conv => lhs; whnf) <;> (conv => rhs; whnf) <;> (first | rfl)) ?_))
  have hjn : j = l.length := by omega
  rw [hjn, List.take_length] at hp
  obtain ⟨A0, n0, c0, rows, Lx, rfl, hown, hrows, hrl, hn0, hrl2⟩ := hp
  conv => whnf
  repeat ((first | refine zT ?_ | refine zF ?_ | refine zL hX hL ?_ | refine zB hX hL ?_ | (refine zS hX hL ?_; clear hL; intro w hL) | refine zI ?_ | refine zG hX ?_ | refine zO ?_); conv => whnf)
  refine BrReq.dec (fun h4 => ?_) (fun h4 => ?_)
  · have e : makeR l = (10, []) := by unfold makeR; rw [if_neg (by rw [hu]; simp), if_pos (by omega)]
    conv => whnf
    repeat ((first | refine zT ?_ | refine zF ?_ | refine zL hX hL ?_ | refine zB hX hL ?_ | (refine zS hX hL ?_; clear hL; intro w hL) | refine zI ?_ | refine zG hX ?_ | refine zO ?_); conv => whnf)
    exact RetReq.mk (hL.sublist (List.nil_sublist _)) ⟨rfl, none, 0, 0, by rw [e]; rfl, by rw [e]; exact ⟨none, 0, 0, rfl, rfl, Nat.le_refl 0, Nat.zero_le _, fun i x hx => by simp at hx⟩⟩
  · have e : makeR l = (0, looksL l []) := by unfold makeR; rw [if_neg (by rw [hu]; simp), if_neg (by omega)]
    conv => whnf
    repeat ((first | refine zT ?_ | refine zF ?_ | refine zL hX hL ?_ | refine zB hX hL ?_ | (refine zS hX hL ?_; clear hL; intro w hL) | refine zI ?_ | refine zG hX ?_ | refine zO ?_); conv => whnf)
    have hL : Ev.Loc m [] w0 m1 (_ :: _ :: Lx) w := hL
    obtain ⟨m2, A', c', ev, hL, hle, hsl, -⟩ := OwnS.freezeRows (size := 9) (l := looksL l []) (L2 := [_, _]) (by omega) hown (Ev.Loc.back (L1 := [_, _]) hL) hrows (by omega) hrl2
    cases ev
    exact RetReq.mk hL.drop.drop ⟨rfl, A0, _, c0, by rw [e]; rfl, by rw [e]; exact hsl.le (Mem.Le.refl m2) fun cs x _ hx => hx.le hle⟩
def lateR (l : List Re) : Bool := l.any fun r => decide (r.kind = 8) || decide (r.kind = 11)
theorem late1_fn (m : Mem) (p : Re) (cs : List Value) (h : RepRe m cs p) : FnV Tryz.prog 33 ([.agg (toArr cs)] ++ []) m (.bool (decide (p.kind = 8) || decide (p.kind = 11))) := by
  obtain ⟨kd, s0, s1, s2, s3, rs, lo, hi, neg⟩ := p
  obtain ⟨A, n, c, rfl, _⟩ := h.open
  refine Fn.enter (N := 11) hX Tryz.func33 rfl rfl (by show _ ≤ _; simp) (fun w0 hL => ?_)
  conv => whnf
  refine NewReq.mk hL ?_
  clear hL
  intro b1 w hL
  conv => whnf
  conv => whnf
  repeat ((first | refine zT ?_ | refine zF ?_ | refine zL hX hL ?_ | refine zB hX hL ?_ | (refine zS hX hL ?_; clear hL; intro w hL) | refine zI ?_ | refine zG hX ?_ | refine zO ?_); conv => whnf)
  refine BrReq.dec (fun h8 => ?_) (fun h8 => ?_)
  · conv => whnf
    repeat ((first | refine zT ?_ | refine zF ?_ | refine zL hX hL ?_ | refine zB hX hL ?_ | (refine zS hX hL ?_; clear hL; intro w hL) | refine zI ?_ | refine zG hX ?_ | refine zO ?_); conv => whnf)
    exact RetReq.bool hL.drop (by simp [Re.kind, h8])
  · conv => whnf
    repeat ((first | refine zT ?_ | refine zF ?_ | refine zL hX hL ?_ | refine zB hX hL ?_ | (refine zS hX hL ?_; clear hL; intro w hL) | refine zI ?_ | refine zG hX ?_ | refine zO ?_); conv => whnf)
    exact RetReq.bool hL.drop (by show _ = (decide (kd = 8) || decide (kd = 11)); rw [decide_eq_false h8, Bool.false_or])
theorem Late_fn (m : Mem) (v : Value) (l : List Re) (hs : Sl m 9 (RepRe m) v l) : FnV Tryz.prog 22 [.agg (toArr [v])] m (.bool (lateR l)) := by
  have hs' := hs
  obtain ⟨A, n, c, rfl, -⟩ := hs
  refine Fn.enter (N := 6) hX Tryz.func22 rfl rfl (by show _ ≤ _; simp) (fun w0 hL => ?_)
  conv => whnf
  refine NewReq.mk hL ?_
  clear hL
  intro b1 w hL
  conv => whnf
  conv => whnf
  repeat ((first | refine zT ?_ | refine zF ?_ | refine zL hX hL ?_ | refine zB hX hL ?_ | (refine zS hX hL ?_; clear hL; intro w hL) | refine zI ?_ | refine zG hX ?_ | refine zO ?_); conv => whnf)
  refine CallReq.val (containsLate_fn m _ l (fun r => decide (r.kind = 8) || decide (r.kind = 11)) hs' fun p _ cs h => late1_fn m p cs h) hL ?_
  clear hL
  intro w hL
  conv => whnf
  repeat ((first | refine zT ?_ | refine zF ?_ | refine zL hX hL ?_ | refine zB hX hL ?_ | (refine zS hX hL ?_; clear hL; intro w hL) | refine zI ?_ | refine zG hX ?_ | refine zO ?_); conv => whnf)
  exact RetReq.bool hL.drop rfl
theorem addr_add_add (a : Addr) (x y : Nat) : (a.add x).add y = a.add (x + y) := by
  unfold Addr.add
  by_cases hx : x = 0
  · subst hx; simp
  · by_cases hy : y = 0
    · subst hy; simp
    · rw [if_neg hx, if_neg hy, if_neg (by omega)]; simp [Nat.add_assoc]
theorem rep_one {m : Mem} {cs : List Value} {r : Re} (h : RepRe m cs r) : ∀ u ∈ cs, u.oneCell' = true := by
  obtain ⟨k1, u0, u1, u2, u3, A1, n1, c1, lo1, hi1, neg1, rfl⟩ := h.form
  intro u hu
  simp only [reC, List.mem_cons, List.not_mem_nil, or_false] at hu
  rcases hu with rfl | rfl | rfl | rfl | rfl | rfl | rfl | rfl | rfl <;> rfl
theorem sl_rows {α : Type} {m : Mem} {size : Nat} {R : List Value → α → Prop} {A : Option Addr} {n c : Nat} {l : List α} (hz : 0 < size) (h : Sl m size R (.slice A n c) l) :
    ∃ rows : List (List Value), rows.length = l.length ∧ (∀ r ∈ rows, r.length = size) ∧ (∀ (i : Nat) (x : α), l[i]? = some x → ∃ cs, rows[i]? = some cs ∧ R cs x) ∧ ∀ (j : Nat) (u : Value), rows.flatten[j]? = some u → ∃ a, A = some a ∧ mcell m (a.add j) = some u := by
  have hel := h.elem
  obtain ⟨rows, h1, h2⟩ := list_of (Q := fun i (cs : List Value) => ∃ a, A = some a ∧ cs.length = size ∧ Cells m (a.add (scale i size)) cs ∧ ∀ x, l[i]? = some x → R cs x) l.length fun i hi => by
    obtain ⟨a, cs, e1, e2, e3, e4⟩ := hel i _ (List.getElem?_eq_getElem hi)
    exact ⟨cs, a, e1, e2, e3, fun x hx => by rw [List.getElem?_eq_getElem hi] at hx; cases hx; exact e4⟩
  have hs : ∀ r ∈ rows, r.length = size := fun r hr => by
    obtain ⟨i, hi, rfl⟩ := List.getElem_of_mem hr
    obtain ⟨a, _, e2, _⟩ := h2 i _ (List.getElem?_eq_getElem hi)
    exact e2
  refine ⟨rows, h1, hs, fun i x hx => ?_, fun j u hu => ?_⟩
  · have hi : i < rows.length := by rw [h1]; exact (List.getElem?_eq_some_iff.1 hx).1
    obtain ⟨a, _, _, _, e4⟩ := h2 i _ (List.getElem?_eq_getElem hi)
    exact ⟨_, List.getElem?_eq_getElem hi, e4 x hx⟩
  · have hj := (List.getElem?_eq_some_iff.1 hu).1
    rw [flat_len rows hs] at hj
    have hq : j / size < rows.length := (Nat.div_lt_iff_lt_mul hz).2 hj
    obtain ⟨a, e1, e2, e3, _⟩ := h2 (j / size) _ (List.getElem?_eq_getElem hq)
    have hmod := Nat.mod_lt j hz
    have hdm : j / size * size + j % size = j := by rw [Nat.mul_comm]; exact Nat.div_add_mod j size
    have hg := flat_get rows (j / size) (j % size) _ hs (List.getElem?_eq_getElem hq) hmod
    rw [hdm, hu] at hg
    have := e3 (j % size) u hg.symm
    refine ⟨a, e1, ?_⟩
    have e : (a.add (scale (j / size) size)).add (j % size) = a.add j := by
      rw [scale_eq, addr_add_add, hdm]
    rw [← e]; exact this
set_option maxHeartbeats 2000000 in
theorem refLooks_fn (r : Re) : ∀ (m : Mem) (cs : List Value) (v : Value) (ls : List Re), RepRe m cs r → Sl m 9 (RepRe m) v ls → ls.length + nodesR r ≤ 1000000 →
    Fn0 Tryz.prog 7 [v, .agg (toArr cs)] m fun m' u => Sl m' 9 (RepRe m') u (looksR r ls) := by
  induction r using Re.ind with
  | h kd s0 s1 s2 s3 rs lo hi neg ih =>
    intro m cs v ls h hv hnb
    obtain ⟨A, n, c, rfl, hs, hrng⟩ := h.open
    obtain ⟨hn, hc, hm⟩ := hs.lens
    have hmx : maxLen = 9223372036854775807 := rfl
    have he := hs.elem
    have hv' := hv
    obtain ⟨Av, nv, cv, rfl, -⟩ := hv
    simp only [nodesR] at hnb
    refine Fn.enter (N := 46) hX Tryz.func7 rfl rfl (by show _ ≤ _; simp) (fun w0 hL => ?_)
    conv => whnf
    refine NewReq.mk hL ?_
    clear hL
    intro b3 w hL
    conv => whnf
    conv => whnf
    repeat ((first | refine zT ?_ | refine zF ?_ | refine zL hX hL ?_ | refine zB hX hL ?_ | (refine zS hX hL ?_; clear hL; intro w hL) | refine zI ?_ | refine zG hX ?_ | refine zO ?_); conv => whnf)
    refine LoopReq.inv hX (fun s : Nat × Option Addr × Nat × Nat => [(0, .slice s.2.1 s.2.2.1 s.2.2.2), (10, .int .i64 s.1)]) [3, 9]
      (fun s w => s.1 ≤ n ∧ ∃ m1, Mem.Le m m1 ∧ Sl m1 9 (RepRe m1) (.slice s.2.1 s.2.2.1 s.2.2.2) (looksL (rs.take s.1) ls) ∧ Ev.Loc m [] w0 m1 [(b3, .cells (toArr (reC kd s0 s1 s2 s3 (.slice A n c) lo hi neg)) 30 (0, 0))] w) (fun s => n - s.1) (0, Av, nv, cv)
      ⟨by simp, m, Mem.Le.refl m, hv', hL⟩ ⟨rfl, rfl, trivial⟩ ?_
    clear hL
    rintro ⟨j, A0, n0, c0⟩ w f ⟨hj, m1, hm1, hsl, hL⟩
    simp only at hj hsl
    conv => whnf
    repeat ((first | refine zT ?_ | refine zF ?_ | refine zL hX hL ?_ | refine zB hX hL ?_ | (refine zS hX hL ?_; clear hL; intro w hL) | refine zI ?_ | refine zG hX ?_ | refine zO ?_); conv => whnf)
    refine BrReq.dec (fun hlt => ?_) (fun hlt => ?_)
    · have hlt' : j < rs.length := by simp only at hlt; omega
      obtain ⟨a, cs', rfl, hl9, hcells, hrep⟩ := he j _ (List.getElem?_eq_getElem hlt')
      obtain ⟨k1, u0, u1, u2, u3, A1, n1, c1, lo1, hi1, neg1, rfl⟩ := hrep.form
      have hln := looksL_len (rs.take j) ls
      have hnt := nodesL_take rs j hlt'
      have hnl := nodesL_take_le rs (j + 1)
      have htk := looksL_take rs j hlt' ls
      conv => whnf
      repeat ((first | refine Idx2Req.mk j a rfl (by omega) rfl ?_ | refine LdReq.agg hX rfl rfl hL hl9 (hcells.le hm1) ?_ | refine zT ?_ | refine zF ?_ | refine zL hX hL ?_ | refine zB hX hL ?_ | (refine zS hX hL ?_; clear hL; intro w hL) | refine zI ?_ | refine zG hX ?_ | refine zO ?_); conv => whnf)
      refine CallReq.pure (ih _ (List.getElem_mem hlt') m1 _ _ _ (hrep.le hm1) hsl (by omega)) hL ?_
      clear hL
      rintro v m2 w hL hm2 hsl2
      rw [← htk] at hsl2
      have hsl2' := hsl2
      obtain ⟨A2, n2, c2, rfl, -⟩ := hsl2
      conv => whnf
      repeat ((first | refine zT ?_ | refine zF ?_ | refine zL hX hL ?_ | refine zB hX hL ?_ | (refine zS hX hL ?_; clear hL; intro w hL) | refine zI ?_ | refine zG hX ?_ | refine zO ?_); conv => whnf)
      refine ⟨(j + 1, A2, n2, c2), ⟨by simp only at hlt ⊢; omega, m2, hm1.trans hm2, hsl2', hL⟩, by first | omega | (simp only; omega) | (simp only [List.length_cons, List.length_append]; omega), ?_, ?_⟩
      · repeat (first | exact trivial | (refine And.intro (by (conv => lhs; whnf) <;> (conv => rhs; whnf) <;> (first | rfl)) ?_))
      · repeat (first | exact trivial | (refine And.intro (by (conv => lhs; whnf) <;> (conv => rhs; whnf) <;> (first | rfl)) ?_))
    have hjn : j = rs.length := by simp only at hlt; omega
    rw [hjn, List.take_length] at hsl
    have hln := looksL_len rs ls
    obtain ⟨hn0, hc0, hm0⟩ := hsl.lens
    have hel := hsl.elem
    have hr1 := h.le hm1
    conv => whnf
    repeat ((first | refine zT ?_ | refine zF ?_ | refine zL hX hL ?_ | refine zB hX hL ?_ | (refine zS hX hL ?_; clear hL; intro w hL) | refine zI ?_ | refine zG hX ?_ | refine zO ?_); conv => whnf)
    refine BrReq.dec (fun k8 => ?_) (fun k8 => ?_)
    · have e : looksR (.mk kd s0 s1 s2 s3 rs lo hi neg) ls = looksL rs ls := by simp only [looksR]; rw [if_pos k8]
      conv => whnf
      repeat ((first | refine zT ?_ | refine zF ?_ | refine zL hX hL ?_ | refine zB hX hL ?_ | (refine zS hX hL ?_; clear hL; intro w hL) | refine zI ?_ | refine zG hX ?_ | refine zO ?_); conv => whnf)
      exact RetReq.mk hL.drop ⟨rfl, by rw [e]; exact hsl⟩
    conv => whnf
    repeat ((first | refine zT ?_ | refine zF ?_ | refine zL hX hL ?_ | refine zB hX hL ?_ | (refine zS hX hL ?_; clear hL; intro w hL) | refine zI ?_ | refine zG hX ?_ | refine zO ?_); conv => whnf)
    refine LoopReq.inv hX (fun q : Nat => [(27, .int .i64 q)]) [0, 3, 26]
      (fun q w => (q ≤ n0 ∧ ∀ (i : Nat) (x : Re), i < q → (looksL rs ls)[i]? = some x → sameR 41 x (bareR (.mk kd s0 s1 s2 s3 rs lo hi neg)) = false) ∧ Ev.Loc m [] w0 m1 [(b3, .cells (toArr (reC kd s0 s1 s2 s3 (.slice A n c) lo hi neg)) 30 (0, 0))] w) (fun q => n0 - q) 0
      ⟨⟨by omega, fun i x h => absurd h (by omega)⟩, hL⟩ ⟨rfl, trivial⟩ ?_
    clear hL
    rintro q w f ⟨⟨hq, hdone⟩, hL⟩
    conv => whnf
    repeat ((first | refine zT ?_ | refine zF ?_ | refine zL hX hL ?_ | refine zB hX hL ?_ | (refine zS hX hL ?_; clear hL; intro w hL) | refine zI ?_ | refine zG hX ?_ | refine zO ?_); conv => whnf)
    refine BrReq.dec (fun hlt2 => ?_) (fun hlt2 => ?_)
    · have hq' : q < (looksL rs ls).length := by simp only at hlt2; omega
      obtain ⟨a, cs', rfl, hl9, hcells, hrep⟩ := hel q _ (List.getElem?_eq_getElem hq')
      obtain ⟨k1, u0, u1, u2, u3, A1, n1, c1, lo1, hi1, neg1, rfl⟩ := hrep.form
      conv => whnf
      repeat ((first | refine zT ?_ | refine zF ?_ | refine zL hX hL ?_ | refine zB hX hL ?_ | (refine zS hX hL ?_; clear hL; intro w hL) | refine zI ?_ | refine zG hX ?_ | refine zO ?_); conv => whnf)
      refine DrawReq.plan hX (.fst 0 (.fst 1 (.fst 2 (.fst 3 (.fst 4 (.alt 5 (.alt 6 (.done) (.stop)) (.stop))))))) _ (by kernel_rfl) (by kernel_rfl) hL id ?_
      clear hL
      intro w hL
      conv => whnf
      repeat ((first | (refine Idx2Req.mk q a rfl (by simp only at hlt2 ⊢; omega) rfl ?_) | refine QLdReq.agg hX rfl rfl hl9 hcells ?_ | refine zQ hX ?_ | refine zR hX ?_ | refine zA ?_ | refine zT ?_ | refine zF ?_ | refine zL hX hL ?_ | refine zB hX hL ?_ | (refine zS hX hL ?_; clear hL; intro w hL) | refine zI ?_ | refine zG hX ?_ | refine zO ?_); conv => whnf)
      refine CallReq.val (refBare_fn m1 kd s0 s1 s2 s3 lo hi neg A n c) hL ?_
      clear hL
      intro w hL
      conv => whnf
      repeat ((first | refine SReq.mk hL ?_ | refine zQ hX ?_ | refine zR hX ?_ | refine zA ?_ | refine zT ?_ | refine zF ?_ | refine zL hX hL ?_ | refine zB hX hL ?_ | (refine zS hX hL ?_; clear hL; intro w hL) | refine zI ?_ | refine zG hX ?_ | refine zO ?_); conv => whnf)
      refine CallReq.val (refSame_fn 41 m1 _ _ _ _ hrep (bare_rep hr1) (by omega)) hL ?_
      clear hL
      intro w hL
      conv => whnf
      repeat ((first | refine SReq.mk hL ?_ | refine zQ hX ?_ | refine zR hX ?_ | refine zA ?_ | refine zT ?_ | refine zF ?_ | refine zL hX hL ?_ | refine zB hX hL ?_ | (refine zS hX hL ?_; clear hL; intro w hL) | refine zI ?_ | refine zG hX ?_ | refine zO ?_); conv => whnf)
      refine BrReq.bool (fun g => ?_) (fun g => ?_)
      · have e : looksR (.mk kd s0 s1 s2 s3 rs lo hi neg) ls = looksL rs ls := by
          simp only [looksR]; rw [if_neg k8, if_pos]
          exact List.any_eq_true.2 ⟨_, List.getElem_mem hq', g⟩
        conv => whnf
        repeat ((first | refine zT ?_ | refine zF ?_ | refine zL hX hL ?_ | refine zB hX hL ?_ | (refine zS hX hL ?_; clear hL; intro w hL) | refine zI ?_ | refine zG hX ?_ | refine zO ?_); conv => whnf)
        exact RetReq.mk hL.drop ⟨rfl, by rw [e]; exact hsl⟩
      · have hd : ∀ (i : Nat) (x : Re), i < q + 1 → (looksL rs ls)[i]? = some x → sameR 41 x (bareR (.mk kd s0 s1 s2 s3 rs lo hi neg)) = false := by
          intro i x hi hx
          by_cases e : i = q
          · subst e
            rw [List.getElem?_eq_getElem hq'] at hx
            cases hx; exact g
          · exact hdone i x (by omega) hx
        conv => whnf
        repeat ((first | refine zT ?_ | refine zF ?_ | refine zL hX hL ?_ | refine zB hX hL ?_ | (refine zS hX hL ?_; clear hL; intro w hL) | refine zI ?_ | refine zG hX ?_ | refine zO ?_); conv => whnf)
        refine ⟨q + 1, ⟨⟨by simp only at hlt2; omega, hd⟩, hL⟩, by first | omega | (simp only; omega) | (simp only [List.length_cons, List.length_append]; omega), ?_, ?_⟩
        · repeat (first | exact trivial | (refine And.intro (by (conv => lhs; whnf) <;> (conv => rhs; whnf) <;> (first | rfl)) ?_))
        · repeat (first | exact trivial | (refine And.intro (by (conv => lhs; whnf) <;> (conv => rhs; whnf) <;> (first | rfl)) ?_))
    have e : looksR (.mk kd s0 s1 s2 s3 rs lo hi neg) ls = looksL rs ls ++ [bareR (.mk kd s0 s1 s2 s3 rs lo hi neg)] := by
      simp only [looksR]; rw [if_neg k8, if_neg]
      intro hc
      obtain ⟨x, hx, hxs⟩ := List.any_eq_true.1 hc
      obtain ⟨i, hi, rfl⟩ := List.getElem_of_mem hx
      rw [hdone i _ (by simp only at hlt2; omega) (List.getElem?_eq_getElem hi)] at hxs
      cases hxs
    conv => whnf
    repeat ((first | refine zT ?_ | refine zF ?_ | refine zL hX hL ?_ | refine zB hX hL ?_ | (refine zS hX hL ?_; clear hL; intro w hL) | refine zI ?_ | refine zG hX ?_ | refine zO ?_); conv => whnf)
    refine DrawReq.plan hX (.fst 1 (.fst 3 (.alt 0 (.alt 2 (.alt 4 (.alt 5 (.alt 6 (.fst 7 (.done)) (.stop)) (.stop)) (.stop)) (.stop)) (.stop)))) [(b3, .cells (toArr (reC kd s0 s1 s2 s3 (.slice A n c) lo hi neg)) 30 (0, 0))] (by kernel_rfl) (by kernel_rfl) hL id ?_
    clear hL
    intro w hL
    conv => whnf
    repeat ((first | refine zQ hX ?_ | refine zR hX ?_ | refine zA ?_ | refine zT ?_ | refine zF ?_ | refine zL hX hL ?_ | refine zB hX hL ?_ | (refine zS hX hL ?_; clear hL; intro w hL) | refine zI ?_ | refine zG hX ?_ | refine zO ?_); conv => whnf)
    obtain ⟨rows, g1, g2, g3, g4⟩ := sl_rows (by omega) hsl
    have hone : ∀ u ∈ rows.flatten, u.oneCell' = true := by
      intro u hu
      obtain ⟨r, hr, hur⟩ := List.mem_flatten.1 hu
      obtain ⟨i, hi, rfl⟩ := List.getElem_of_mem hr
      obtain ⟨cs, e1, e2⟩ := g3 i _ (List.getElem?_eq_getElem (by omega))
      rw [List.getElem?_eq_getElem hi] at e1; cases e1
      exact rep_one e2 u hur
    have hflen := flat_len rows g2
    refine NewReq.mk hL ?_
    clear hL
    intro b39 w hL
    replace hL : Ev.Loc m [] w0 m1 ([(b39, .cells (toArr []) 30 (0, 0))] ++ [(b3, .cells (toArr (reC kd s0 s1 s2 s3 (.slice A n c) lo hi neg)) 30 (0, 0))]) w := hL
    conv => whnf
    repeat ((first | refine SReq.mk (hL.one 1 rfl) ?_ | refine zQ hX ?_ | refine zR hX ?_ | refine zA ?_ | refine zT ?_ | refine zF ?_ | refine zL hX hL ?_ | refine zB hX hL ?_ | (refine zS hX hL ?_; clear hL; intro w hL) | refine zI ?_ | refine zG hX ?_ | refine zO ?_); conv => whnf)
    refine RunReq.append hX 22 30 rfl rfl rfl rfl rfl (L1 := [_]) (OwnS.full (n := 0) (cur := []) (Nat.zero_le _) rfl) hL (news := rows.flatten) (by rw [hflen, g1, hn0]) (fun j u hu => ?_) hone (by rw [hflen]; simp; omega) rfl ?_
    · obtain ⟨a, e1, e2⟩ := g4 j u hu
      exact ⟨a, e1, hL.cell e2⟩
    clear hL
    intro A6 n6 c6 L6 w hn6 ho6 hL
    rw [List.nil_append] at ho6
    replace hL := hL.back
    replace hL : Ev.Loc m [] w0 m1 ((b3, .cells (toArr (reC kd s0 s1 s2 s3 (.slice A n c) lo hi neg)) 30 (0, 0)) :: L6) w := hL
    conv => whnf
    repeat ((first | refine SReq.mk (hL.one 0 rfl) ?_ | refine zQ hX ?_ | refine zR hX ?_ | refine zA ?_ | refine zT ?_ | refine zF ?_ | refine zL hX hL ?_ | refine zB hX hL ?_ | (refine zS hX hL ?_; clear hL; intro w hL) | refine zI ?_ | refine zG hX ?_ | refine zO ?_); conv => whnf)
    refine CallReq.val (refBare_fn m1 kd s0 s1 s2 s3 lo hi neg A n c) hL ?_
    clear hL
    intro w hL
    conv => whnf
    repeat ((first | refine SReq.mk (hL.one 0 rfl) ?_ | refine zQ hX ?_ | refine zR hX ?_ | refine zA ?_ | refine zT ?_ | refine zF ?_ | refine zL hX hL ?_ | refine zB hX hL ?_ | (refine zS hX hL ?_; clear hL; intro w hL) | refine zI ?_ | refine zG hX ?_ | refine zO ?_); conv => whnf)
    refine NewReq.mk hL ?_
    clear hL
    intro b44 w hL
    replace hL : Ev.Loc m [] w0 m1 ([(b44, .cells (toArr (reC kd s0 s1 s2 s3 (.slice A n c) lo hi false)) 30 (0, 0)), (b3, .cells (toArr (reC kd s0 s1 s2 s3 (.slice A n c) lo hi neg)) 30 (0, 0))] ++ L6) w := hL
    conv => whnf
    repeat ((first | refine SReq.mk (hL.one 1 rfl) ?_ | refine zQ hX ?_ | refine zR hX ?_ | refine zA ?_ | refine zT ?_ | refine zF ?_ | refine zL hX hL ?_ | refine zB hX hL ?_ | (refine zS hX hL ?_; clear hL; intro w hL) | refine zI ?_ | refine zG hX ?_ | refine zO ?_); conv => whnf)
    refine RunReq.append hX 22 30 rfl rfl rfl rfl rfl ho6 hL.back (k := 1) (news := reC kd s0 s1 s2 s3 (.slice A n c) lo hi false) rfl (hL.src 0 rfl) (rep_one (bare_rep hr1)) (by rw [hflen]; simp [reC]; omega) rfl ?_
    clear hL
    intro A7 n7 c7 L7 w hn7 ho7 hL
    replace hL := hL.back
    have ef : rows.flatten ++ reC kd s0 s1 s2 s3 (.slice A n c) lo hi false = (rows ++ [reC kd s0 s1 s2 s3 (.slice A n c) lo hi false]).flatten := by
      rw [List.flatten_append, List.flatten_cons, List.flatten_nil, List.append_nil]
    rw [ef] at ho7
    have hrows' : ∀ r ∈ rows ++ [reC kd s0 s1 s2 s3 (.slice A n c) lo hi false], r.length = 9 := by
      intro r hr
      rcases List.mem_append.1 hr with hr | hr
      · exact g2 r hr
      · rw [List.mem_singleton] at hr; subst hr; rfl
    have hR : ∀ (i : Nat) (x : Re), (looksL rs ls ++ [bareR (.mk kd s0 s1 s2 s3 rs lo hi neg)])[i]? = some x → ∃ cs, (rows ++ [reC kd s0 s1 s2 s3 (.slice A n c) lo hi false])[i]? = some cs ∧ RepRe m1 cs x := by
      intro i x hx
      by_cases hi : i < rows.length
      · rw [List.getElem?_append_left (by omega)] at hx
        obtain ⟨cs, e1, e2⟩ := g3 i x hx
        exact ⟨cs, by rw [List.getElem?_append_left hi]; exact e1, e2⟩
      · rw [List.getElem?_append_right (by omega)] at hx
        have hi0 : i - (looksL rs ls).length = 0 := by have := (List.getElem?_eq_some_iff.1 hx).1; simp at this; omega
        rw [hi0] at hx
        simp only [List.getElem?_cons_zero, Option.some.injEq] at hx
        subst hx
        refine ⟨_, ?_, bare_rep hr1⟩
        rw [List.getElem?_append_right (by omega), show i - rows.length = 0 by omega]; rfl
    have hL1 := hL
    conv => whnf
    repeat ((first | refine SReq.mk (hL.one 1 rfl) ?_ | refine zQ hX ?_ | refine zR hX ?_ | refine zA ?_ | refine zT ?_ | refine zF ?_ | refine zL hX hL ?_ | refine zB hX hL ?_ | (refine zS hX hL ?_; clear hL; intro w hL) | refine zI ?_ | refine zG hX ?_ | refine zO ?_); conv => whnf)
    obtain ⟨m2, A', c', ev, hL, hle, hsl2, -⟩ := OwnS.freezeRows (size := 9) (l := looksL rs ls ++ [bareR (.mk kd s0 s1 s2 s3 rs lo hi neg)]) (L2 := [_, _]) (by omega) ho7 (Ev.Loc.back (L1 := [_, _]) hL) hrows' (by simp; omega) hR
    exact RetReq.mk (hL.sublist (List.nil_sublist _)) ⟨rfl, by rw [e]; exact hsl2.le (Mem.Le.refl m2) fun cs x _ hx => hx.le hle⟩
end Go.Proofs.YtiololnblplloaaGreat.looks
namespace Go.Proofs.YtiololnblplloaaGreat.looks
open Go Go.Ev Go.Proofs Go.Proofs.YtiololnblplloaaGreat.tree Go.Proofs.YtiololnblplloaaGreat.ar
theorem same_eq : ∀ (k : Nat) (x y : Re), sameR k x y = true → x = y := by
  intro k
  induction k with
  | zero => intro x y h; cases h
  | succ k ih =>
    intro x y h
    obtain ⟨k1, s0, s1, s2, s3, rs, lo, hi, neg⟩ := x
    obtain ⟨k2, t0, t1, t2, t3, rs', lo', hi', neg'⟩ := y
    simp only [sameR, headEq, Re.parts, Bool.and_eq_true, decide_eq_true_eq] at h
    obtain ⟨⟨rfl, ⟨rfl, rfl, rfl, rfl⟩, rfl, rfl, rfl, hl⟩, hp⟩ := h
    have := (all_zip rs rs' hl).1 hp
    have e : rs = rs' := by
      apply List.ext_getElem hl
      intro i h1 h2
      exact ih _ _ (this i _ _ (List.getElem?_eq_getElem h1) (List.getElem?_eq_getElem h2))
    subst e; rfl
theorem idxR_get {f : Re → Bool} : ∀ (l : List Re), 0 ≤ idxR f l → ∃ x, l[(idxR f l).toNat]? = some x ∧ f x = true := by
  intro l
  induction l with
  | nil => intro h; simp [idxR] at h
  | cons p l ih =>
    intro h
    simp only [idxR] at h ⊢
    by_cases hp : f p = true
    · rw [if_pos hp]; exact ⟨p, rfl, hp⟩
    · rw [if_neg hp] at h ⊢
      by_cases h2 : idxR f l < 0
      · rw [if_pos h2] at h; omega
      · rw [if_neg h2]
        obtain ⟨x, hx, hf⟩ := ih (by omega)
        refine ⟨x, ?_, hf⟩
        rw [show (idxR f l + 1).toNat = (idxR f l).toNat + 1 by omega]
        simpa using hx
def lkR (ls : List Re) (r : Re) : Int := idxR (fun y => likeR y r) ls
theorem lkR_lt {ls : List Re} {r : Re} (h : 0 ≤ lkR ls r) : lkR ls r < ls.length := by
  obtain ⟨x, hx, -⟩ := idxR_get ls h
  have := (List.getElem?_eq_some_iff.1 hx).1
  unfold lkR at h ⊢
  omega
mutual
def fndR (ls : List Re) : Re → Prop
  | .mk k s0 s1 s2 s3 rs lo hi neg => (8 ≤ k → 0 ≤ lkR ls (.mk k s0 s1 s2 s3 rs lo hi false)) ∧ fndL ls rs
def fndL (ls : List Re) : List Re → Prop
  | [] => True
  | r :: l => fndR ls r ∧ fndL ls l
end
mutual
theorem looks_sub : ∀ (r : Re) (ls : List Re), ∀ x ∈ ls, x ∈ looksR r ls
  | .mk k s0 s1 s2 s3 rs lo hi neg, ls, x, hx => by
    have ih := looks_subL rs ls x hx
    rw [looksR]
    split
    · exact ih
    split
    · exact ih
    · exact List.mem_append.2 (.inl ih)
theorem looks_subL : ∀ (l ls : List Re), ∀ x ∈ ls, x ∈ looksL l ls
  | [], ls, x, hx => hx
  | r :: l, ls, x, hx => looks_subL l _ x (looks_sub r ls x hx)
end
mutual
theorem looks_fnd (LS : List Re) : ∀ (r : Re) (ls : List Re), deepR 40 r ≤ 40 → (∀ x ∈ ls, deepR 40 x ≤ 40) → (∀ x ∈ looksR r ls, x ∈ LS) → fndR LS r
  | .mk k s0 s1 s2 s3 rs lo hi neg, ls, hd, hls, h => by
    have hp := deep40_part hd
    have hsub : ∀ x ∈ looksL rs ls, x ∈ looksR (.mk k s0 s1 s2 s3 rs lo hi neg) ls := fun x hx => by
      rw [looksR]
      split
      · exact hx
      split
      · exact hx
      · exact List.mem_append.2 (.inl hx)
    rw [fndR]
    refine ⟨fun hk => ?_, looks_fndL LS rs ls hp hls (fun x hx => h x (hsub x hx))⟩
    refine (idxR_neg (f := fun y => likeR y (.mk k s0 s1 s2 s3 rs lo hi false)) LS).2 (List.any_eq_true.2 ?_)
    have hdb : deepR 40 (bareR (.mk k s0 s1 s2 s3 rs lo hi neg)) ≤ 40 := by rw [deep_bare]; exact hd
    have hlike : ∀ x, x = bareR (.mk k s0 s1 s2 s3 rs lo hi neg) → likeR x (.mk k s0 s1 s2 s3 rs lo hi false) = true := fun x e => by
      subst e
      unfold likeR
      rw [decide_eq_true hdb, show bareR (.mk k s0 s1 s2 s3 rs lo hi false) = bareR (.mk k s0 s1 s2 s3 rs lo hi neg) from rfl, decide_eq_true hdb, sameR_refl 40 _ hdb]; rfl
    by_cases ha : (looksL rs ls).any (fun x => sameR 41 x (bareR (.mk k s0 s1 s2 s3 rs lo hi neg))) = true
    · obtain ⟨x, hx, hs⟩ := List.any_eq_true.1 ha
      exact ⟨x, h x (hsub x hx), hlike x (same_eq _ _ _ hs)⟩
    · refine ⟨_, h (bareR (.mk k s0 s1 s2 s3 rs lo hi neg)) ?_, hlike _ rfl⟩
      rw [looksR, if_neg (by omega), if_neg ha]
      simp
theorem looks_fndL (LS : List Re) : ∀ (l ls : List Re), (∀ p ∈ l, deepR 40 p ≤ 40) → (∀ x ∈ ls, deepR 40 x ≤ 40) → (∀ x ∈ looksL l ls, x ∈ LS) → fndL LS l
  | [], _, _, _, _ => by rw [fndL]; trivial
  | r :: l, ls, hd, hls, h => by
    rw [fndL]
    have hr := hd r (by simp)
    exact ⟨looks_fnd LS r ls hr hls fun x hx => h x (looks_subL l _ x hx), looks_fndL LS l _ (fun p hp => hd p (by simp [hp])) (looks_deep r ls hr hls) h⟩
end
mutual
theorem err_fnd {ls : List Re} (h4 : ls.length ≤ 4) : ∀ r : Re, fndR ls r → ∀ (ns : List Nd) (e : Int), (∀ k s0 s1 s2 s3 rs lo hi neg, r = .mk k s0 s1 s2 s3 rs lo hi neg → True) → allR r = true → (bR (lkR ls) r ns e).1.2 = e
  | .mk k s0 s1 s2 s3 rs lo hi neg, hf, ns, e, _, hall => by
    simp only [allR, Bool.and_eq_true, decide_eq_true_eq] at hall
    obtain ⟨hOw, hall⟩ := hall
    rw [allL_eq, List.all_eq_true] at hall
    obtain ⟨⟨hk0, -⟩, -⟩ := hOw
    rw [fndR] at hf
    obtain ⟨hf1, hf2⟩ := hf
    have ih := err_fndL h4 rs hf2 hall
    rw [bR]
    split
    · rfl
    split
    · rfl
    split
    · rfl
    split
    · exact ih _ e
    split
    · exact ih _ e
    split
    · exact ih _ e
    split
    · exact ih _ e
    split
    · exact ih _ e
    · have h0 := hf1 (by omega)
      have h1 := lkR_lt h0
      unfold lookedN
      rw [if_neg (by omega)]
theorem err_fndL {ls : List Re} (h4 : ls.length ≤ 4) : ∀ l : List Re, fndL ls l → (∀ p ∈ l, allR p = true) → ∀ (ns : List Nd) (e : Int), (bL (lkR ls) l ns e).1.2 = e
  | [], _, _, ns, e => rfl
  | r :: l, hf, h, ns, e => by
    rw [fndL] at hf
    rw [bL]
    dsimp only
    rw [err_fndL h4 l hf.2 (fun p hp => h p (by simp [hp])), err_fnd h4 r hf.1 ns e (fun _ _ _ _ _ _ _ _ _ _ => trivial) (h r (by simp))]
end
theorem all_part (k s0 s1 s2 s3 : Int) (rs : List Re) (lo hi : Int) (neg : Bool) (h : allR (.mk k s0 s1 s2 s3 rs lo hi neg) = true) : ∀ p ∈ rs, allR p = true := by
  simp only [allR, Bool.and_eq_true] at h
  have := h.2
  rw [allL_eq, List.all_eq_true] at this
  exact this
end Go.Proofs.YtiololnblplloaaGreat.looks
