/- Looks: which one of a list a pattern is; looks without their Neg. Conditions: none. -/
import Derived.Test.YtblpobeokfkggaaTreeAlike
import Derived.Test.YtblpobeokfkggaaTreeOwn

namespace Go.Proofs.Ytblpobeokfkggaa.looks
open Go Go.Ev Go.Proofs Go.Proofs.Ytblpobeokfkggaa.tree

/-- The first one of which the test is true; -1: none. -/
def idxR (f : Re → Bool) : List Re → Int
  | [] => -1
  | p :: l => if f p = true then 0 else if idxR f l < 0 then -1 else idxR f l + 1
theorem idxR_at {f : Re → Bool} : ∀ (l : List Re) (i : Nat) (x : Re), l[i]? = some x → f x = true → (∀ (q : Nat) (y : Re), q < i → l[q]? = some y → f y = false) → idxR f l = i := by
  intro l
  induction l with
  | nil => intro i x h; simp at h
  | cons p l ih =>
    intro i x h hx hq
    cases i with
    | zero => simp at h; subst h; simp only [idxR]; rw [if_pos hx]; rfl
    | succ i =>
      have h0 := hq 0 p (by omega) rfl
      simp only [idxR]
      rw [if_neg (by rw [h0]; simp), ih i x (by simpa using h) hx fun q y hlt hy => hq (q + 1) y (by omega) (by simpa using hy), if_neg (by omega)]
      omega
theorem idxR_none {f : Re → Bool} : ∀ (l : List Re), (∀ x ∈ l, f x = false) → idxR f l = -1 := by
  intro l
  induction l with
  | nil => intro _; rfl
  | cons p l ih =>
    intro h
    simp only [idxR]
    rw [if_neg (by rw [h p (by simp)]; simp), ih fun x hx => h x (by simp [hx]), if_pos (by omega)]
theorem idxR_neg {f : Re → Bool} : ∀ (l : List Re), 0 ≤ idxR f l ↔ l.any f = true := by
  intro l
  induction l with
  | nil => simp [idxR]
  | cons p l ih =>
    simp only [idxR, List.any_cons, Bool.or_eq_true]
    by_cases h : f p = true
    · rw [if_pos h]; exact ⟨fun _ => .inl h, fun _ => by omega⟩
    · rw [if_neg h]
      by_cases h2 : idxR f l < 0
      · rw [if_pos h2]; exact ⟨fun h' => absurd h' (by omega), fun h' => h'.elim (fun h3 => absurd h3 h) fun h3 => absurd (ih.2 h3) (by omega)⟩
      · rw [if_neg h2]; exact ⟨fun _ => .inr (ih.1 (by omega)), fun _ => by omega⟩


/-- Without its Neg. -/
def bareR : Re → Re
  | .mk k s0 s1 s2 s3 rs lo hi _ => .mk k s0 s1 s2 s3 rs lo hi false
theorem bare_rep {m : Mem} {k s0 s1 s2 s3 lo hi : Int} {neg : Bool} {A : Option Addr} {n c : Nat} {r : Re} (h : RepRe m (reC k s0 s1 s2 s3 (.slice A n c) lo hi neg) r) : RepRe m (reC k s0 s1 s2 s3 (.slice A n c) lo hi false) (bareR r) := by
  obtain ⟨k', t0, t1, t2, t3, rs, lo', hi', neg'⟩ := r
  obtain ⟨A', n', c', e, hs, hr⟩ := h.open
  injection e with e0 e; injection e with e1 e; injection e with e2 e; injection e with e3 e; injection e with e4 e; injection e with e5 e; injection e with e6 e; injection e with e7 e
  cases e0; cases e1; cases e2; cases e3; cases e4; cases e5; cases e6; cases e7
  exact RepRe.shut hs hr

theorem refBare_fn (m : Mem) (k s0 s1 s2 s3 lo hi : Int) (neg : Bool) (A : Option Addr) (n c : Nat) :
    FnV Try.prog 51 [.agg (toArr (reC k s0 s1 s2 s3 (.slice A n c) lo hi neg))] m (.agg (toArr (reC k s0 s1 s2 s3 (.slice A n c) lo hi false))) := by
  refine Fn.enter (N := 5) hX Try.func51 rfl rfl (by show _ ≤ _; simp) (fun w0 hL => ?_)
  conv => whnf
  refine NewReq.mk hL ?_
  clear hL
  intro b1 w hL
  conv => whnf
  refine NewReq.mk hL ?_
  clear hL
  intro b2 w hL
  conv => whnf
  conv => whnf
  repeat ((first | refine zT ?_ | refine zF ?_ | refine zL hX hL ?_ | refine zB hX hL ?_ | (refine zS hX hL ?_; clear hL; intro w hL) | refine zI ?_ | refine zG hX ?_ | refine zO ?_); conv => whnf)
  exact RetReq.mk hL.drop.drop ⟨rfl, rfl⟩

/-- Are they alike, as the program asks it of a look? -/
def likeR (x y : Re) : Bool := decide (deepR 40 x ≤ 40) && decide (deepR 40 (bareR y) ≤ 40) && sameR 41 x (bareR y)

theorem cells_add {m : Mem} {b te : Nat} {fz : Nat × Nat} (cs : List Value) : Cells (m.add b (.cells (toArr cs) te fz)) ⟨b, 0, none⟩ cs := by
  intro j v hj
  rw [addr_add, Nat.zero_add]
  simp only [mcell, ocell, Mem.add_same, toArr, List.getElem?_toArray]
  exact hj

end Go.Proofs.Ytblpobeokfkggaa.looks
