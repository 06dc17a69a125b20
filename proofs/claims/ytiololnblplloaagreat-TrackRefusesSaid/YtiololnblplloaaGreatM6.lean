/- TrackRefuses: part 6 of 14 of the proof. Conditions: none. -/
import Derived.Test.YtiololnblplloaaGreatM1
import Derived.Test.YtiololnblplloaaGreatM2
import Derived.Test.YtiololnblplloaaGreatM5
namespace Go.Proofs.YtiololnblplloaaGreat.tree
open Go Go.Ev Go.Proofs
inductive Re where
  | mk (kind s0 s1 s2 s3 : Int) (parts : List Re) (lo hi : Int) (neg : Bool)
def Re.kind : Re → Int | .mk k _ _ _ _ _ _ _ _ => k
def Re.parts : Re → List Re | .mk _ _ _ _ _ p _ _ _ => p
def Re.lo : Re → Int | .mk _ _ _ _ _ _ l _ _ => l
def Re.hi : Re → Int | .mk _ _ _ _ _ _ _ h _ => h
def Re.neg : Re → Bool | .mk _ _ _ _ _ _ _ _ n => n
def reC (k s0 s1 s2 s3 : Int) (v : Value) (lo hi : Int) (neg : Bool) : List Value :=
  [.int .i64 k, .int .u64 s0, .int .u64 s1, .int .u64 s2, .int .u64 s3, v, .int .i64 lo, .int .i64 hi, .bool neg]
def inI (z : Int) : Prop := -9223372036854775808 ≤ z ∧ z ≤ 9223372036854775807
def inU (z : Int) : Prop := 0 ≤ z ∧ z ≤ 18446744073709551615
inductive RepRe (m : Mem) : List Value → Re → Prop
  | mk (k s0 s1 s2 s3 lo hi : Int) (neg : Bool) (A : Option Addr) (n c : Nat) (rs : List Re) (css : Nat → List Value)
      (hk : inI k) (h0 : inU s0) (h1 : inU s1) (h2 : inU s2) (h3 : inU s3) (hlo : inI lo) (hhi : inI hi)
      (hn : n = rs.length) (hc : n ≤ c) (hm : c ≤ maxLen)
      (hcell : ∀ i, i < n → ∃ a, A = some a ∧ (css i).length = 9 ∧ Cells m (a.add (scale i 9)) (css i))
      (hrep : ∀ i r, rs[i]? = some r → RepRe m (css i) r) :
      RepRe m (reC k s0 s1 s2 s3 (.slice A n c) lo hi neg) (.mk k s0 s1 s2 s3 rs lo hi neg)
theorem RepRe.len {m : Mem} {cs : List Value} {r : Re} (h : RepRe m cs r) : cs.length = 9 := by cases h; rfl
theorem RepRe.le {m m' : Mem} (hm : Mem.Le m m') {cs : List Value} {r : Re} (h : RepRe m cs r) : RepRe m' cs r := by
  induction h with
  | mk k s0 s1 s2 s3 lo hi neg A n c rs css hk h0 h1 h2 h3 hlo hhi hn hc hmx hcell _ ih =>
    exact .mk k s0 s1 s2 s3 lo hi neg A n c rs css hk h0 h1 h2 h3 hlo hhi hn hc hmx (fun i hi => by obtain ⟨a, g1, g2, g3⟩ := hcell i hi; exact ⟨a, g1, g2, g3.le hm⟩) ih
theorem RepRe.open {m : Mem} {cs : List Value} {k s0 s1 s2 s3 lo hi : Int} {neg : Bool} {rs : List Re} (h : RepRe m cs (.mk k s0 s1 s2 s3 rs lo hi neg)) :
    ∃ A n c, cs = reC k s0 s1 s2 s3 (.slice A n c) lo hi neg ∧ Sl m 9 (RepRe m) (.slice A n c) rs ∧ (inI k ∧ inU s0 ∧ inU s1 ∧ inU s2 ∧ inU s3 ∧ inI lo ∧ inI hi) := by
  cases h with
  | mk _ _ _ _ _ _ _ _ A n c _ css hk h0 h1 h2 h3 hlo hhi hn hc hmx hcell hrep =>
    refine ⟨A, n, c, rfl, ⟨A, n, c, rfl, hn, hc, hmx, fun i x hx => ?_⟩, hk, h0, h1, h2, h3, hlo, hhi⟩
    have hi : i < n := by rw [hn]; exact (List.getElem?_eq_some_iff.1 hx).1
    obtain ⟨a, g1, g2, g3⟩ := hcell i hi
    exact ⟨a, css i, g1, g2, g3, hrep i x hx⟩
theorem RepRe.form {m : Mem} {cs : List Value} {r : Re} (h : RepRe m cs r) : ∃ k s0 s1 s2 s3 A n c lo hi neg, cs = reC k s0 s1 s2 s3 (.slice A n c) lo hi neg := by
  cases h; exact ⟨_, _, _, _, _, _, _, _, _, _, _, rfl⟩
theorem RepRe.shut {m : Mem} {k s0 s1 s2 s3 lo hi : Int} {neg : Bool} {rs : List Re} {A : Option Addr} {n c : Nat} (h : Sl m 9 (RepRe m) (.slice A n c) rs)
    (hr : inI k ∧ inU s0 ∧ inU s1 ∧ inU s2 ∧ inU s3 ∧ inI lo ∧ inI hi) : RepRe m (reC k s0 s1 s2 s3 (.slice A n c) lo hi neg) (.mk k s0 s1 s2 s3 rs lo hi neg) := by
  obtain ⟨hn, hc, hmx⟩ := h.lens
  have he := h.elem
  obtain ⟨hk, h0, h1, h2, h3, hlo, hhi⟩ := hr
  have : ∃ css : Nat → List Value, ∀ i x, rs[i]? = some x → ∃ a, A = some a ∧ (css i).length = 9 ∧ Cells m (a.add (scale i 9)) (css i) ∧ RepRe m (css i) x := by
    refine ⟨fun i => if hi : i < rs.length then Classical.choose (Classical.choose_spec (he i rs[i] (List.getElem?_eq_getElem hi))) else [], fun i x hx => ?_⟩
    obtain ⟨hi, rfl⟩ := List.getElem?_eq_some_iff.1 hx
    have := Classical.choose_spec (Classical.choose_spec (he i rs[i] (List.getElem?_eq_getElem hi)))
    simp only [dif_pos hi]
    exact ⟨_, this⟩
  obtain ⟨css, hcss⟩ := this
  refine .mk k s0 s1 s2 s3 lo hi neg A n c rs css hk h0 h1 h2 h3 hlo hhi hn hc hmx (fun i hi => ?_) (fun i r hr => (hcss i r hr).choose_spec.2.2.2)
  obtain ⟨a, g1, g2, g3, _⟩ := hcss i _ (List.getElem?_eq_getElem (by omega))
  exact ⟨a, g1, g2, g3⟩
theorem re_of {m : Mem} : ∀ (n : Nat) (cs : List Value), Rdf X m n 30 cs → ∃ r, RepRe m cs r := by
  intro n
  induction n using Nat.strongRecOn with
  | ind n ih =>
    intro cs h
    obtain ⟨hl, n', hn', hf⟩ := rdf_structL (ti := ⟨.struct [(0, 3), (1, 28), (5, 22), (6, 3), (7, 3), (8, 4)], 9, 88, [.int .i64 0, .int .u64 0, .int .u64 0, .int .u64 0, .int .u64 0, .slice none 0 0, .int .i64 0, .int .i64 0, .bool false]⟩) rfl rfl h
    match cs, hl with
    | [x0, x1, x2, x3, x4, x5, x6, x7, x8], _ =>
      obtain ⟨k, e0, hk⟩ := rdf_int (k := .i64) rfl rfl (hf 0 _ _ rfl rfl)
      obtain ⟨lo, e6, hlo⟩ := rdf_int (k := .i64) rfl rfl (hf 3 _ _ rfl rfl)
      obtain ⟨hi, e7, hhi⟩ := rdf_int (k := .i64) rfl rfl (hf 4 _ _ rfl rfl)
      obtain ⟨neg, e8⟩ := rdf_bool rfl rfl (hf 5 _ _ rfl rfl)
      obtain ⟨_, n2, _, ha⟩ := rdf_arrayL (k := 4) (e := 26) (te := ⟨.int .u64, 1, 8, [.int .u64 0]⟩) rfl rfl rfl (hf 1 _ _ rfl rfl)
      obtain ⟨s0, e1, h0⟩ := rdf_int (k := .u64) rfl rfl (ha 0 (by omega))
      obtain ⟨s1, e2, h1⟩ := rdf_int (k := .u64) rfl rfl (ha 1 (by omega))
      obtain ⟨s2, e3, h2⟩ := rdf_int (k := .u64) rfl rfl (ha 2 (by omega))
      obtain ⟨s3, e4, h3⟩ := rdf_int (k := .u64) rfl rfl (ha 3 (by omega))
      obtain ⟨A, len, c, l, e5, hs, _⟩ := rdf_sliceL (R := RepRe m) (te := ⟨.struct [(0, 3), (1, 28), (5, 22), (6, 3), (7, 3), (8, 4)], 9, 88, [.int .i64 0, .int .u64 0, .int .u64 0, .int .u64 0, .int .u64 0, .slice none 0 0, .int .i64 0, .int .i64 0, .bool false]⟩)
        rfl rfl rfl (fun n3 cs h3 _ h => ih n3 (by omega) cs h) (hf 2 _ _ rfl rfl)
      have e0 : [x0] = [Value.int .i64 k] := e0
      have e1 : [x1] = [Value.int .u64 s0] := e1
      have e2 : [x2] = [Value.int .u64 s1] := e2
      have e3 : [x3] = [Value.int .u64 s2] := e3
      have e4 : [x4] = [Value.int .u64 s3] := e4
      have e5 : [x5] = [Value.slice A len c] := e5
      have e6 : [x6] = [Value.int .i64 lo] := e6
      have e7 : [x7] = [Value.int .i64 hi] := e7
      have e8 : [x8] = [Value.bool neg] := e8
      cases e0; cases e1; cases e2; cases e3; cases e4; cases e5; cases e6; cases e7; cases e8
      exact ⟨_, RepRe.shut hs ⟨hk, h0, h1, h2, h3, hlo, hhi⟩⟩
def deepR : Nat → Re → Nat
  | 0, _ => 1
  | k + 1, r => (r.parts.map (deepR k)).foldl max 0 + 1
theorem foldl_max_le {B : Nat} : ∀ (l : List Nat) (a : Nat), a ≤ B → (∀ x ∈ l, x ≤ B) → l.foldl max a ≤ B := by
  intro l
  induction l with
  | nil => intro a h _; exact h
  | cons x l ih => intro a h hx; exact ih _ (Nat.max_le.2 ⟨h, hx x (by simp)⟩) fun y hy => hx y (by simp [hy])
theorem deepR_le : ∀ (k : Nat) (r : Re), deepR k r ≤ k + 1 := by
  intro k
  induction k with
  | zero => intro r; simp [deepR]
  | succ k ih =>
    intro r
    simp only [deepR]
    have := foldl_max_le (B := k + 1) (r.parts.map (deepR k)) 0 (by omega) (by intro x hx; obtain ⟨p, _, rfl⟩ := List.mem_map.1 hx; exact ih p)
    omega
def maxTo (f : Re → Nat) (rs : List Re) (k : Nat) : Nat := ((rs.take k).map f).foldl max 0
theorem maxTo_succ (f : Re → Nat) (rs : List Re) (k : Nat) (h : k < rs.length) : maxTo f rs (k + 1) = max (maxTo f rs k) (f rs[k]) := by
  unfold maxTo
  rw [List.take_succ_eq_append_getElem h]
  simp only [List.map_append, List.foldl_append, List.map_cons, List.map_nil, List.foldl_cons, List.foldl_nil]
theorem maxTo_le {f : Re → Nat} {B : Nat} (rs : List Re) (k : Nat) (h : ∀ r, f r ≤ B) : maxTo f rs k ≤ B :=
  foldl_max_le _ _ (Nat.zero_le _) (by intro x hx; obtain ⟨p, _, rfl⟩ := List.mem_map.1 hx; exact h p)
theorem deep_fn : ∀ (k : Nat) (m : Mem) (r : Re) (cs : List Value), RepRe m cs r → k ≤ 1000 → FnV Tryz.prog 54 [.agg (toArr cs), .int .i64 k] m (.int .i64 (deepR k r : Nat)) := by
  intro k
  induction k with
  | zero =>
    intro m r cs h _
    obtain ⟨kd, s0, s1, s2, s3, rs, lo, hi, neg⟩ := r
    obtain ⟨A, n, c, rfl, hs, _⟩ := h.open
    refine Fn.enter (N := 26) hX Tryz.func54 rfl rfl (by show _ ≤ _; simp) (fun w0 hL => ?_)
    conv => whnf
    refine NewReq.mk hL ?_
    clear hL
    intro b2 w hL
    conv => whnf
    conv => whnf
    repeat ((first | refine zT ?_ | refine zF ?_ | refine zL hX hL ?_ | refine zB hX hL ?_ | (refine zS hX hL ?_; clear hL; intro w hL) | refine zI ?_ | refine zG hX ?_ | refine zO ?_); conv => whnf)
    exact RetReq.mk hL.drop ⟨rfl, rfl⟩
  | succ k ih =>
    intro m r cs h hk
    obtain ⟨kd, s0, s1, s2, s3, rs, lo, hi, neg⟩ := r
    obtain ⟨A, n, c, rfl, hs, _⟩ := h.open
    obtain ⟨hn, hc, hm⟩ := hs.lens
    have hmx : maxLen = 9223372036854775807 := rfl
    have he := hs.elem
    refine Fn.enter (N := 26) hX Tryz.func54 rfl rfl (by show _ ≤ _; simp) (fun w0 hL => ?_)
    conv => whnf
    refine NewReq.mk hL ?_
    clear hL
    intro b2 w hL
    conv => whnf
    conv => whnf
    repeat ((first | refine zT ?_ | refine zF ?_ | refine zL hX hL ?_ | refine zB hX hL ?_ | (refine zS hX hL ?_; clear hL; intro w hL) | refine zI ?_ | refine zG hX ?_ | refine zO ?_); conv => whnf)
    refine LoopReq.inv hX (fun j : Nat => [(5, .int .i64 (maxTo (deepR k) rs j : Nat)), (13, .int .i64 j)]) [1, 11, 12]
      (fun j w => j ≤ n ∧ Ev.Loc m [] w0 m [] w) (fun j => n - j) 0 ⟨by omega, hL.drop⟩ ⟨rfl, rfl, trivial⟩ ?_
    clear hL
    rintro j w f ⟨hj, hL⟩
    have hmax := maxTo_le (B := k + 1) rs j (deepR_le k)
    conv => whnf
    repeat ((first | refine zT ?_ | refine zF ?_ | refine zL hX hL ?_ | refine zB hX hL ?_ | (refine zS hX hL ?_; clear hL; intro w hL) | refine zI ?_ | refine zG hX ?_ | refine zO ?_); conv => whnf)
    refine BrReq.dec (fun hlt => ?_) (fun hlt => ?_)
    · have hlt' : j < rs.length := by omega
      obtain ⟨a, cs', rfl, hl9, hcells, hrep⟩ := he j _ (List.getElem?_eq_getElem hlt')
      obtain ⟨k1, u0, u1, u2, u3, A1, n1, c1, lo1, hi1, neg1, rfl⟩ := hrep.form
      conv => whnf
      repeat ((first | refine Idx2Req.mk j a rfl (by omega) rfl ?_ | refine LdReq.agg hX rfl rfl hL hl9 hcells ?_ | refine zT ?_ | refine zF ?_ | refine zL hX hL ?_ | refine zB hX hL ?_ | (refine zS hX hL ?_; clear hL; intro w hL) | refine zI ?_ | refine zG hX ?_ | refine zO ?_); conv => whnf)
      refine NewReq.mk hL ?_
      clear hL
      intro b7 w hL
      conv => whnf
      conv => whnf
      repeat ((first | refine zT ?_ | refine zF ?_ | refine zL hX hL ?_ | refine zB hX hL ?_ | (refine zS hX hL ?_; clear hL; intro w hL) | refine zI ?_ | refine zG hX ?_ | refine zO ?_); conv => whnf)
      rw [show ((k + 1 : Nat) : Int) - 1 = (k : Int) by omega]
      refine CallReq.val (ih m _ _ hrep (by omega)) hL ?_
      clear hL
      intro w hL
      conv => whnf
      repeat ((first | refine zT ?_ | refine zF ?_ | refine zL hX hL ?_ | refine zB hX hL ?_ | (refine zS hX hL ?_; clear hL; intro w hL) | refine zI ?_ | refine zG hX ?_ | refine zO ?_); conv => whnf)
      have hsc := maxTo_succ (deepR k) rs j hlt'
      refine ⟨j + 1, ⟨by omega, hL.drop⟩, by first | omega | (simp only; omega) | (simp only [List.length_cons, List.length_append]; omega), ?_, ?_⟩
      · repeat (first | exact trivial | (refine And.intro (by (conv => lhs; whnf) <;> (conv => rhs; whnf) <;> (first | rfl | (rw [hsc]; congr 1; omega))) ?_))
      · repeat (first | exact trivial | (refine And.intro (by (conv => lhs; whnf) <;> (conv => rhs; whnf) <;> (first | rfl | (rw [hsc]; congr 1; omega))) ?_))
    conv => whnf
    repeat ((first | refine zT ?_ | refine zF ?_ | refine zL hX hL ?_ | refine zB hX hL ?_ | (refine zS hX hL ?_; clear hL; intro w hL) | refine zI ?_ | refine zG hX ?_ | refine zO ?_); conv => whnf)
    have hjn : j = rs.length := by omega
    subst hjn
    have e : deepR (k + 1) (.mk kd s0 s1 s2 s3 rs lo hi neg) = maxTo (deepR k) rs rs.length + 1 := by simp [maxTo, deepR, Re.parts]
    exact RetReq.mk hL ⟨rfl, by rw [e]; rfl⟩
theorem refDeep_fn : ∀ (k : Nat) (m : Mem) (r : Re) (cs : List Value), RepRe m cs r → k ≤ 1000 → FnV Tryz.prog 12 [.agg (toArr cs), .int .i64 k] m (.int .i64 (deepR k r : Nat)) := by
  intro k
  induction k with
  | zero =>
    intro m r cs h _
    obtain ⟨kd, s0, s1, s2, s3, rs, lo, hi, neg⟩ := r
    obtain ⟨A, n, c, rfl, hs, _⟩ := h.open
    refine Fn.enter (N := 31) hX Tryz.func12 rfl rfl (by show _ ≤ _; simp) (fun w0 hL => ?_)
    conv => whnf
    refine NewReq.mk hL ?_
    clear hL
    intro b2 w hL
    conv => whnf
    conv => whnf
    repeat ((first | refine zT ?_ | refine zF ?_ | refine zL hX hL ?_ | refine zB hX hL ?_ | (refine zS hX hL ?_; clear hL; intro w hL) | refine zI ?_ | refine zG hX ?_ | refine zO ?_); conv => whnf)
    exact RetReq.mk hL.drop ⟨rfl, rfl⟩
  | succ k ih =>
    intro m r cs h hk
    obtain ⟨kd, s0, s1, s2, s3, rs, lo, hi, neg⟩ := r
    obtain ⟨A, n, c, rfl, hs, _⟩ := h.open
    obtain ⟨hn, hc, hm⟩ := hs.lens
    have hmx : maxLen = 9223372036854775807 := rfl
    have he := hs.elem
    refine Fn.enter (N := 31) hX Tryz.func12 rfl rfl (by show _ ≤ _; simp) (fun w0 hL => ?_)
    conv => whnf
    refine NewReq.mk hL ?_
    clear hL
    intro b2 w hL
    conv => whnf
    conv => whnf
    repeat ((first | refine zT ?_ | refine zF ?_ | refine zL hX hL ?_ | refine zB hX hL ?_ | (refine zS hX hL ?_; clear hL; intro w hL) | refine zI ?_ | refine zG hX ?_ | refine zO ?_); conv => whnf)
    refine LoopReq.inv hX (fun j : Nat => [(5, .int .i64 (maxTo (deepR k) rs j : Nat)), (13, .int .i64 j)]) [1, 2, 12]
      (fun j w => j ≤ n ∧ Ev.Loc m [] w0 m [(b2, .cells (toArr (reC kd s0 s1 s2 s3 (.slice A n c) lo hi neg)) 30 (0, 0))] w) (fun j => n - j) 0 ⟨by omega, hL⟩ ⟨rfl, rfl, trivial⟩ ?_
    clear hL
    rintro j w f ⟨hj, hL⟩
    have hmax := maxTo_le (B := k + 1) rs j (deepR_le k)
    conv => whnf
    repeat ((first | refine zT ?_ | refine zF ?_ | refine zL hX hL ?_ | refine zB hX hL ?_ | (refine zS hX hL ?_; clear hL; intro w hL) | refine zI ?_ | refine zG hX ?_ | refine zO ?_); conv => whnf)
    refine BrReq.dec (fun hlt => ?_) (fun hlt => ?_)
    · have hlt' : j < rs.length := by omega
      obtain ⟨a, cs', rfl, hl9, hcells, hrep⟩ := he j _ (List.getElem?_eq_getElem hlt')
      obtain ⟨k1, u0, u1, u2, u3, A1, n1, c1, lo1, hi1, neg1, rfl⟩ := hrep.form
      conv => whnf
      repeat ((first | refine Idx2Req.mk j a rfl (by omega) rfl ?_ | refine LdReq.agg hX rfl rfl hL hl9 hcells ?_ | refine zT ?_ | refine zF ?_ | refine zL hX hL ?_ | refine zB hX hL ?_ | (refine zS hX hL ?_; clear hL; intro w hL) | refine zI ?_ | refine zG hX ?_ | refine zO ?_); conv => whnf)
      rw [show ((k + 1 : Nat) : Int) - 1 = (k : Int) by omega]
      refine CallReq.val (ih m _ _ hrep (by omega)) hL ?_
      clear hL
      intro w hL
      have hsc := maxTo_succ (deepR k) rs j hlt'
      conv => whnf
      repeat ((first | refine zT ?_ | refine zF ?_ | refine zL hX hL ?_ | refine zB hX hL ?_ | (refine zS hX hL ?_; clear hL; intro w hL) | refine zI ?_ | refine zG hX ?_ | refine zO ?_); conv => whnf)
      refine BrReq.dec (fun h => ?_) (fun h => ?_)
      · conv => whnf
        repeat ((first | refine zT ?_ | refine zF ?_ | refine zL hX hL ?_ | refine zB hX hL ?_ | (refine zS hX hL ?_; clear hL; intro w hL) | refine zI ?_ | refine zG hX ?_ | refine zO ?_); conv => whnf)
        refine ⟨j + 1, ⟨by omega, hL⟩, by first | omega | (simp only; omega) | (simp only [List.length_cons, List.length_append]; omega), ?_, ?_⟩
        · repeat (first | exact trivial | (refine And.intro (by (conv => lhs; whnf) <;> (conv => rhs; whnf) <;> (first | rfl | (rw [hsc]; congr 1; omega))) ?_))
        · repeat (first | exact trivial | (refine And.intro (by (conv => lhs; whnf) <;> (conv => rhs; whnf) <;> (first | rfl | (rw [hsc]; congr 1; omega))) ?_))
      · conv => whnf
        repeat ((first | refine zT ?_ | refine zF ?_ | refine zL hX hL ?_ | refine zB hX hL ?_ | (refine zS hX hL ?_; clear hL; intro w hL) | refine zI ?_ | refine zG hX ?_ | refine zO ?_); conv => whnf)
        refine ⟨j + 1, ⟨by omega, hL⟩, by first | omega | (simp only; omega) | (simp only [List.length_cons, List.length_append]; omega), ?_, ?_⟩
        · repeat (first | exact trivial | (refine And.intro (by (conv => lhs; whnf) <;> (conv => rhs; whnf) <;> (first | rfl | (rw [hsc]; congr 1; omega))) ?_))
        · repeat (first | exact trivial | (refine And.intro (by (conv => lhs; whnf) <;> (conv => rhs; whnf) <;> (first | rfl | (rw [hsc]; congr 1; omega))) ?_))
    conv => whnf
    repeat ((first | refine zT ?_ | refine zF ?_ | refine zL hX hL ?_ | refine zB hX hL ?_ | (refine zS hX hL ?_; clear hL; intro w hL) | refine zI ?_ | refine zG hX ?_ | refine zO ?_); conv => whnf)
    have hjn : j = rs.length := by omega
    subst hjn
    have e : deepR (k + 1) (.mk kd s0 s1 s2 s3 rs lo hi neg) = maxTo (deepR k) rs rs.length + 1 := by simp [maxTo, deepR, Re.parts]
    exact RetReq.mk hL.drop ⟨rfl, by rw [e, Nat.add_comm]; rfl⟩
def loopC (f : Re → Nat) : List Re → Nat → Nat
  | [], n => n
  | p :: l, n => if 2000 < n + f p then n + f p else loopC f l (n + f p)
def cR : Nat → Re → Nat
  | 0, _ => 5000
  | k + 1, r => loopC (cR k) r.parts 1
theorem loopC_ge (f : Re → Nat) : ∀ (l : List Re) (n : Nat), n ≤ loopC f l n := by
  intro l
  induction l with
  | nil => intro n; exact Nat.le_refl n
  | cons p l ih => intro n; simp only [loopC]; split; · omega
                   · have := ih (n + f p); omega
theorem loopC_le {f : Re → Nat} {B : Nat} (hf : ∀ p, f p ≤ B) : ∀ (l : List Re) (n : Nat), n ≤ 2000 → loopC f l n ≤ 2000 + B := by
  intro l
  induction l with
  | nil => intro n h; simp only [loopC]; omega
  | cons p l ih => intro n h; have := hf p; simp only [loopC]; split; · omega
                   · exact ih _ (by omega)
theorem cR_le : ∀ (k : Nat) (r : Re), cR k r ≤ 5000 + 2000 * k := by
  intro k
  induction k with
  | zero => intro r; simp [cR]
  | succ k ih => intro r; simp only [cR]; have := loopC_le ih r.parts 1 (by omega); omega
theorem cR_pos (k : Nat) (r : Re) : 1 ≤ cR k r := by
  cases k with
  | zero => simp [cR]
  | succ k => exact loopC_ge _ _ _
theorem loopC_small {f : Re → Nat} (hf : ∀ p, 1 ≤ f p) : ∀ (l : List Re) (n : Nat), loopC f l n ≤ 2000 → n + l.length ≤ 2000 ∧ ∀ p ∈ l, f p ≤ 2000 := by
  intro l
  induction l with
  | nil => intro n h; simpa [loopC] using h
  | cons p l ih =>
    intro n h
    simp only [loopC] at h
    have h1 := hf p
    split at h
    · omega
    · obtain ⟨h2, h3⟩ := ih _ h
      refine ⟨by simp; omega, fun q hq => ?_⟩
      rcases List.mem_cons.1 hq with rfl | hq
      · omega
      · exact h3 q hq
inductive Small : Re → Prop
  | mk (k s0 s1 s2 s3 : Int) (rs : List Re) (lo hi : Int) (neg : Bool) (h : rs.length ≤ 2000) (hp : ∀ p ∈ rs, Small p) : Small (.mk k s0 s1 s2 s3 rs lo hi neg)
theorem small_of : ∀ (k : Nat) (r : Re), cR k r ≤ 2000 → Small r := by
  intro k
  induction k with
  | zero => intro r h; simp [cR] at h
  | succ k ih =>
    intro r h
    obtain ⟨kd, s0, s1, s2, s3, rs, lo, hi, neg⟩ := r
    obtain ⟨h1, h2⟩ := loopC_small (cR_pos k) _ _ h
    exact .mk _ _ _ _ _ _ _ _ _ (by simp only [Re.parts] at h1; omega) fun p hp => ih p (h2 p hp)
theorem count_fn : ∀ (k : Nat) (m : Mem) (r : Re) (cs : List Value), RepRe m cs r → k ≤ 1000 → FnV Tryz.prog 11 [.agg (toArr cs), .int .i64 k] m (.int .i64 (cR k r : Nat)) := by
  intro k
  induction k with
  | zero =>
    intro m r cs h _
    obtain ⟨kd, s0, s1, s2, s3, rs, lo, hi, neg⟩ := r
    obtain ⟨A, n, c, rfl, hs, _⟩ := h.open
    refine Fn.enter (N := 30) hX Tryz.func11 rfl rfl (by show _ ≤ _; simp) (fun w0 hL => ?_)
    conv => whnf
    refine NewReq.mk hL ?_
    clear hL
    intro b2 w hL
    conv => whnf
    conv => whnf
    repeat ((first | refine zT ?_ | refine zF ?_ | refine zL hX hL ?_ | refine zB hX hL ?_ | (refine zS hX hL ?_; clear hL; intro w hL) | refine zI ?_ | refine zG hX ?_ | refine zO ?_); conv => whnf)
    exact RetReq.mk hL.drop ⟨rfl, rfl⟩
  | succ k ih =>
    intro m r cs h hk
    obtain ⟨kd, s0, s1, s2, s3, rs, lo, hi, neg⟩ := r
    obtain ⟨A, n, c, rfl, hs, _⟩ := h.open
    obtain ⟨hn, hc, hm⟩ := hs.lens
    have hmx : maxLen = 9223372036854775807 := rfl
    have he := hs.elem
    refine Fn.enter (N := 30) hX Tryz.func11 rfl rfl (by show _ ≤ _; simp) (fun w0 hL => ?_)
    conv => whnf
    refine NewReq.mk hL ?_
    clear hL
    intro b2 w hL
    conv => whnf
    conv => whnf
    repeat ((first | refine zT ?_ | refine zF ?_ | refine zL hX hL ?_ | refine zB hX hL ?_ | (refine zS hX hL ?_; clear hL; intro w hL) | refine zI ?_ | refine zG hX ?_ | refine zO ?_); conv => whnf)
    refine LoopReq.inv hX (fun q : Nat × Nat => [(5, .int .i64 q.1), (12, .int .i64 q.2)]) [1, 2, 11]
      (fun q w => (q.2 ≤ n ∧ q.1 ≤ 2000 ∧ loopC (cR k) (rs.drop q.2) q.1 = cR (k + 1) (.mk kd s0 s1 s2 s3 rs lo hi neg)) ∧ Ev.Loc m [] w0 m [(b2, .cells (toArr (reC kd s0 s1 s2 s3 (.slice A n c) lo hi neg)) 30 (0, 0))] w) (fun q => n - q.2) (1, 0)
      ⟨⟨by simp, by simp, rfl⟩, hL⟩ ⟨rfl, rfl, trivial⟩ ?_
    clear hL
    rintro ⟨q, j⟩ w f ⟨⟨hj, hq, hcnt⟩, hL⟩
    simp only at hj hq hcnt
    conv => whnf
    repeat ((first | refine zT ?_ | refine zF ?_ | refine zL hX hL ?_ | refine zB hX hL ?_ | (refine zS hX hL ?_; clear hL; intro w hL) | refine zI ?_ | refine zG hX ?_ | refine zO ?_); conv => whnf)
    refine BrReq.dec (fun hlt => ?_) (fun hlt => ?_)
    · have hlt' : j < rs.length := by omega
      rw [List.drop_eq_getElem_cons hlt'] at hcnt
      simp only [loopC] at hcnt
      have hb := cR_le k rs[j]
      obtain ⟨a, cs', rfl, hl9, hcells, hrep⟩ := he j _ (List.getElem?_eq_getElem hlt')
      obtain ⟨k1, u0, u1, u2, u3, A1, n1, c1, lo1, hi1, neg1, rfl⟩ := hrep.form
      conv => whnf
      repeat ((first | refine Idx2Req.mk j a rfl (by omega) rfl ?_ | refine LdReq.agg hX rfl rfl hL hl9 hcells ?_ | refine zT ?_ | refine zF ?_ | refine zL hX hL ?_ | refine zB hX hL ?_ | (refine zS hX hL ?_; clear hL; intro w hL) | refine zI ?_ | refine zG hX ?_ | refine zO ?_); conv => whnf)
      rw [show ((k + 1 : Nat) : Int) - 1 = (k : Int) by omega]
      refine CallReq.val (ih m _ _ hrep (by omega)) hL ?_
      clear hL
      intro w hL
      conv => whnf
      repeat ((first | refine zT ?_ | refine zF ?_ | refine zL hX hL ?_ | refine zB hX hL ?_ | (refine zS hX hL ?_; clear hL; intro w hL) | refine zI ?_ | refine zG hX ?_ | refine zO ?_); conv => whnf)
      refine BrReq.dec (fun h => ?_) (fun h => ?_)
      · rw [if_pos (by omega)] at hcnt
        conv => whnf
        repeat ((first | refine zT ?_ | refine zF ?_ | refine zL hX hL ?_ | refine zB hX hL ?_ | (refine zS hX hL ?_; clear hL; intro w hL) | refine zI ?_ | refine zG hX ?_ | refine zO ?_); conv => whnf)
        exact RetReq.mk hL.drop ⟨rfl, by rw [← hcnt]; rfl⟩
      · rw [if_neg (by omega)] at hcnt
        conv => whnf
        repeat ((first | refine zT ?_ | refine zF ?_ | refine zL hX hL ?_ | refine zB hX hL ?_ | (refine zS hX hL ?_; clear hL; intro w hL) | refine zI ?_ | refine zG hX ?_ | refine zO ?_); conv => whnf)
        refine ⟨(q + cR k rs[j], j + 1), ⟨⟨by simp only; omega, by simp only; omega, hcnt⟩, hL⟩, by first | omega | (simp only; omega) | (simp only [List.length_cons, List.length_append]; omega), ?_, ?_⟩
        · repeat (first | exact trivial | (refine And.intro (by (conv => lhs; whnf) <;> (conv => rhs; whnf) <;> (first | rfl)) ?_))
        · repeat (first | exact trivial | (refine And.intro (by (conv => lhs; whnf) <;> (conv => rhs; whnf) <;> (first | rfl)) ?_))
    conv => whnf
    repeat ((first | refine zT ?_ | refine zF ?_ | refine zL hX hL ?_ | refine zB hX hL ?_ | (refine zS hX hL ?_; clear hL; intro w hL) | refine zI ?_ | refine zG hX ?_ | refine zO ?_); conv => whnf)
    have hjn : j = rs.length := by omega
    subst hjn
    rw [List.drop_length] at hcnt
    exact RetReq.mk hL.drop ⟨rfl, by rw [← hcnt]; rfl⟩
def OwnRe (m : Mem) (L : Own) (u : Value) (r : Re) : Prop := match r with
  | .mk k s0 s1 s2 s3 rs lo hi neg => ∃ g blk, u = .agg (toArr (reC k s0 s1 s2 s3 (.slice (some ⟨g, 0, none⟩) rs.length rs.length) lo hi neg)) ∧ L = [(g, .cells (toArr (List.flatten blk)) 30 (0, 0))] ∧
      blk.length = rs.length ∧ (∀ r ∈ blk, r.length = 9) ∧ rs.length ≤ maxLen ∧ (∀ (i : Nat) (x : Re), rs[i]? = some x → ∃ cs, blk[i]? = some cs ∧ RepRe m cs x) ∧
      (inI k ∧ inU s0 ∧ inU s1 ∧ inU s2 ∧ inU s3 ∧ inI lo ∧ inI hi)
theorem OwnRe.freeze {m0 m : Mem} {S : List Nat} {w0 w : World} {L1 L2 : Own} {u : Value} {r : Re} (h : OwnRe m L1 u r) (hL : Ev.Loc m0 S w0 m (L1 ++ L2) w) :
    ∃ m' cs, Ev.Loc m0 S w0 m' L2 w ∧ Mem.Le m m' ∧ u = .agg (toArr cs) ∧ RepRe m' cs r := by
  obtain ⟨k, s0, s1, s2, s3, rs, lo, hi, neg⟩ := r
  obtain ⟨g, blk, rfl, rfl, h1, h2, h3, h4, h5⟩ := h
  obtain ⟨m', h6, h7, h8⟩ := rows_freeze (L := L2) (R := RepRe m) hL rfl (Nat.le_refl _) h3 h2 h4
  exact ⟨m', _, h6, h7, rfl, RepRe.shut (h8.le (Mem.Le.refl m') fun cs x _ hx => hx.le h7) h5⟩
set_option maxHeartbeats 1000000 in
theorem clone_fn' : ∀ (N : Nat) (m : Mem) (r : Re) (cs : List Value), SizeOf.sizeOf r ≤ N → RepRe m cs r → Small r → Ev.Fn Tryz.prog 75 [.agg (toArr cs)] m [] fun m' L' u => OwnRe m' L' u r := by
  intro N
  induction N with
  | zero => intro m r cs hN; obtain ⟨kd, s0, s1, s2, s3, rs, lo, hi, neg⟩ := r; simp at hN
  | succ N ih =>
    intro m r cs hN h hsm
    obtain ⟨kd, s0, s1, s2, s3, rs, lo, hi, neg⟩ := r
    obtain ⟨A, n, c, rfl, hs, hrng⟩ := h.open
    obtain ⟨hn, hc, hm⟩ := hs.lens
    have hmx : maxLen = 9223372036854775807 := rfl
    have he := hs.elem
    have hsub : rs.length ≤ 2000 ∧ ∀ p ∈ rs, Small p := by cases hsm; exact ⟨by assumption, by assumption⟩
    refine Fn.enter (N := 27) hX Tryz.func75 rfl rfl (by show _ ≤ _; simp) (fun w0 hL => ?_)
    conv => whnf
    refine NewReq.mk hL ?_
    clear hL
    intro b1 w hL
    conv => whnf
    refine NewReq.mk hL ?_
    clear hL
    intro b2 w hL
    conv => whnf
    conv => whnf
    repeat ((first | refine zT ?_ | refine zF ?_ | refine zL hX hL ?_ | refine zB hX hL ?_ | (refine zS hX hL ?_; clear hL; intro w hL) | refine zI ?_ | refine zG hX ?_ | refine zO ?_); conv => whnf)
    refine RunReq.make hX rfl rfl rfl rfl n n rfl rfl (Nat.le_refl _) (by omega) rfl hL ?_
    clear hL
    intro g w hL
    rw [zeros_rows] at hL
    conv => whnf
    repeat ((first | refine zT ?_ | refine zF ?_ | refine zL hX hL ?_ | refine zB hX hL ?_ | (refine zS hX hL ?_; clear hL; intro w hL) | refine zI ?_ | refine zG hX ?_ | refine zO ?_); conv => whnf)
    refine LoopReq.inv hX (fun j : Nat => [(13, .int .i64 j)]) [1, 2, 3, 11, 12]
      (fun j w => j ≤ n ∧ ∃ m1 blk, Mem.Le m m1 ∧ List.length blk = n ∧ (∀ r ∈ blk, r.length = 9) ∧ (∀ (i : Nat) (x : Re), rs[i]? = some x → i < j → ∃ cs, blk[i]? = some cs ∧ RepRe m1 cs x) ∧
        Ev.Loc m [] w0 m1 [(g, .cells (toArr (List.flatten blk)) 30 (0, 0)), (b2, .cells (toArr (reC 0 0 0 0 0 (.slice none 0 0) 0 0 false)) 30 (0, 0)), (b1, .cells (toArr (reC kd s0 s1 s2 s3 (.slice A n c) lo hi neg)) 30 (0, 0))] w) (fun j => n - j) 0
      ⟨by omega, m, _, Mem.Le.refl m, by simp, by intro r hr; rw [(List.mem_replicate.1 hr).2]; rfl, fun i x _ h => absurd h (by omega), hL⟩ ⟨rfl, trivial⟩ ?_
    clear hL
    rintro j w f ⟨hj, m1, blk, hm1, hbl, hrows, hdone, hL⟩
    conv => whnf
    repeat ((first | refine zT ?_ | refine zF ?_ | refine zL hX hL ?_ | refine zB hX hL ?_ | (refine zS hX hL ?_; clear hL; intro w hL) | refine zI ?_ | refine zG hX ?_ | refine zO ?_); conv => whnf)
    refine BrReq.dec (fun hlt => ?_) (fun hlt => ?_)
    · have hlt' : j < rs.length := by omega
      obtain ⟨a, cs', rfl, hl9, hcells, hrep⟩ := he j _ (List.getElem?_eq_getElem hlt')
      obtain ⟨k1, u0, u1, u2, u3, A1, n1, c1, lo1, hi1, neg1, rfl⟩ := hrep.form
      have hsz : SizeOf.sizeOf rs[j] ≤ N := by
        have := List.sizeOf_lt_of_mem (List.getElem_mem hlt')
        simp at hN
        omega
      conv => whnf
      repeat ((first | refine Idx2Req.mk j a rfl (by omega) rfl ?_ | refine LdReq.agg hX rfl rfl hL hl9 (hcells.le hm1) ?_ | refine zT ?_ | refine zF ?_ | refine zL hX hL ?_ | refine zB hX hL ?_ | (refine zS hX hL ?_; clear hL; intro w hL) | refine zI ?_ | refine zG hX ?_ | refine zO ?_); conv => whnf)
      refine NewReq.mk hL ?_
      clear hL
      intro b5 w hL
      conv => whnf
      conv => whnf
      repeat ((first | refine zT ?_ | refine zF ?_ | refine zL hX hL ?_ | refine zB hX hL ?_ | (refine zS hX hL ?_; clear hL; intro w hL) | refine zI ?_ | refine zG hX ?_ | refine zO ?_); conv => whnf)
      refine CallReq.mk (L1 := []) (ih m1 rs[j] _ hsz (hrep.le hm1) (hsub.2 _ (List.getElem_mem hlt'))) hL ?_
      clear hL
      intro v m2 L1 w hL hm2 ho
      obtain ⟨m3, cs3, hL, hm3, rfl, hrep3⟩ := ho.freeze hL
      obtain ⟨k3, v0, v1, v2, v3, A3, n3, c3, lo3, hi3, neg3, rfl⟩ := hrep3.form
      conv => whnf
      repeat ((first | refine Idx2Req.mk j _ rfl (by omega) rfl ?_ | refine zT ?_ | refine zF ?_ | refine zL hX hL ?_ | refine zB hX hL ?_ | (refine zS hX hL ?_; clear hL; intro w hL) | refine zI ?_ | refine zG hX ?_ | refine zO ?_); conv => whnf)
      refine rows_store hX rfl 1 hL rfl hrows (by omega) rfl rfl ?_
      clear hL
      intro w hL
      have hL : Ev.Loc m [] w0 m3 [_, _, _, _] w := hL
      have hrows' : ∀ r ∈ blk.set j (reC k3 v0 v1 v2 v3 (.slice A3 n3 c3) lo3 hi3 neg3), r.length = 9 := by
        intro r hr
        rcases List.mem_or_eq_of_mem_set hr with h | rfl
        · exact hrows _ h
        · rfl
      have hdone' : ∀ (i : Nat) (x : Re), rs[i]? = some x → i < j + 1 → ∃ cs, (blk.set j (reC k3 v0 v1 v2 v3 (.slice A3 n3 c3) lo3 hi3 neg3))[i]? = some cs ∧ RepRe m3 cs x := by
        intro i x hx hi
        by_cases e : i = j
        · subst e
          obtain ⟨_, rfl⟩ := List.getElem?_eq_some_iff.1 hx
          exact ⟨_, List.getElem?_set_self (by omega), hrep3⟩
        · obtain ⟨cs, g1, g2⟩ := hdone i x hx (by omega)
          exact ⟨cs, by rw [List.getElem?_set_ne (Ne.symm e)]; exact g1, g2.le (hm2.trans hm3)⟩
      conv => whnf
      repeat ((first | refine zT ?_ | refine zF ?_ | refine zL hX hL ?_ | refine zB hX hL ?_ | (refine zS hX hL ?_; clear hL; intro w hL) | refine zI ?_ | refine zG hX ?_ | refine zO ?_); conv => whnf)
      refine ⟨j + 1, ⟨by omega, m3, _, hm1.trans (hm2.trans hm3), by rw [List.length_set]; exact hbl, hrows', hdone', hL.drop⟩, by first | omega | (simp only; omega) | (simp only [List.length_cons, List.length_append]; omega), ?_, ?_⟩
      · repeat (first | exact trivial | (refine And.intro (by (conv => lhs; whnf) <;> (conv => rhs; whnf) <;> (first | rfl)) ?_))
      · repeat (first | exact trivial | (refine And.intro (by (conv => lhs; whnf) <;> (conv => rhs; whnf) <;> (first | rfl)) ?_))
    conv => whnf
    repeat ((first | refine zT ?_ | refine zF ?_ | refine zL hX hL ?_ | refine zB hX hL ?_ | (refine zS hX hL ?_; clear hL; intro w hL) | refine zI ?_ | refine zG hX ?_ | refine zO ?_); conv => whnf)
    subst hn
    have hjn : j = rs.length := by omega
    exact RetReq.mk (hL.one 0 rfl) ⟨g, blk, rfl, rfl, hbl, hrows, by omega, fun i x hx => hdone i x hx (by rw [hjn]; exact (List.getElem?_eq_some_iff.1 hx).1), hrng⟩
theorem clone_fn (m : Mem) (r : Re) (cs : List Value) (h : RepRe m cs r) (hs : Small r) : Ev.Fn Tryz.prog 75 [.agg (toArr cs)] m [] fun m' L' u => OwnRe m' L' u r :=
  clone_fn' _ m r cs (Nat.le_refl _) h hs
end Go.Proofs.YtiololnblplloaaGreat.tree
namespace Go.Proofs.YtiololnblplloaaGreat.tree
open Go Go.Ev Go.Proofs
def headEq : Re → Re → Bool
  | .mk k s0 s1 s2 s3 rs lo hi neg, .mk k' t0 t1 t2 t3 rs' lo' hi' neg' =>
    decide (k = k' ∧ (s0 = t0 ∧ s1 = t1 ∧ s2 = t2 ∧ s3 = t3) ∧ lo = lo' ∧ hi = hi' ∧ neg = neg' ∧ rs.length = rs'.length)
def sameR : Nat → Re → Re → Bool
  | 0, _, _ => false
  | k + 1, a, b => headEq a b && (List.zipWith (sameR k) a.parts b.parts).all id
theorem all_zip {f : Re → Re → Bool} : ∀ (l r : List Re), l.length = r.length → ((List.zipWith f l r).all id = true ↔ ∀ (i : Nat) (x y : Re), l[i]? = some x → r[i]? = some y → f x y = true) := by
  intro l
  induction l with
  | nil => intro r h; simp
  | cons a l ih =>
    intro r h
    cases r with
    | nil => simp at h
    | cons b r =>
      simp only [List.zipWith_cons_cons, List.all_cons, id_eq, Bool.and_eq_true]
      rw [ih r (by simpa using h)]
      constructor
      · rintro ⟨h1, h2⟩ i x y hx hy
        cases i with
        | zero => simp at hx hy; subst hx hy; exact h1
        | succ i => exact h2 i x y (by simpa using hx) (by simpa using hy)
      · intro h1
        exact ⟨h1 0 a b rfl rfl, fun i x y hx hy => h1 (i + 1) x y (by simpa using hx) (by simpa using hy)⟩
theorem refSame_fn : ∀ (k : Nat) (m : Mem) (r r' : Re) (cs cs' : List Value), RepRe m cs r → RepRe m cs' r' → k ≤ 1000 →
    FnV Tryz.prog 8 [.agg (toArr cs), .agg (toArr cs'), .int .i64 k] m (.bool (sameR k r r')) := by
  intro k
  induction k with
  | zero =>
    intro m r r' cs cs' h h' _
    obtain ⟨kd, s0, s1, s2, s3, rs, lo, hi, neg⟩ := r
    obtain ⟨A, n, c, rfl, hs, _⟩ := h.open
    obtain ⟨kd', t0, t1, t2, t3, rs', lo', hi', neg'⟩ := r'
    obtain ⟨A', n', c', rfl, hs', _⟩ := h'.open
    refine Fn.enter (N := 75) hX Tryz.func8 rfl rfl (by show _ ≤ _; simp) (fun w0 hL => ?_)
    conv => whnf
    refine NewReq.mk hL ?_
    clear hL
    intro b3 w hL
    conv => whnf
    refine NewReq.mk hL ?_
    clear hL
    intro b4 w hL
    conv => whnf
    conv => whnf
    repeat ((first | refine zT ?_ | refine zF ?_ | refine zL hX hL ?_ | refine zB hX hL ?_ | (refine zS hX hL ?_; clear hL; intro w hL) | refine zI ?_ | refine zG hX ?_ | refine zO ?_); conv => whnf)
    exact RetReq.mk hL.drop.drop ⟨rfl, rfl⟩
  | succ k ih =>
    intro m r r' cs cs' h h' hk
    obtain ⟨kd, s0, s1, s2, s3, rs, lo, hi, neg⟩ := r
    obtain ⟨A, n, c, rfl, hs, _⟩ := h.open
    obtain ⟨kd', t0, t1, t2, t3, rs', lo', hi', neg'⟩ := r'
    obtain ⟨A', n', c', rfl, hs', _⟩ := h'.open
    obtain ⟨hn, hc, hm⟩ := hs.lens
    obtain ⟨hn', hc', hm'⟩ := hs'.lens
    have hmx : maxLen = 9223372036854775807 := rfl
    have he := hs.elem
    have he' := hs'.elem
    have hno : ¬(kd = kd' ∧ (s0 = t0 ∧ s1 = t1 ∧ s2 = t2 ∧ s3 = t3) ∧ lo = lo' ∧ hi = hi' ∧ neg = neg' ∧ rs.length = rs'.length) → sameR (k + 1) (.mk kd s0 s1 s2 s3 rs lo hi neg) (.mk kd' t0 t1 t2 t3 rs' lo' hi' neg') = false := by
      intro h; simp only [sameR, headEq, decide_eq_false h, Bool.false_and]
    have hset : (!(decide (s0 = t0) && (decide (s1 = t1) && (decide (s2 = t2) && (decide (s3 = t3) && true))))) = true → ¬(s0 = t0 ∧ s1 = t1 ∧ s2 = t2 ∧ s3 = t3) := by
      rintro h ⟨h0, h1, h2, h3⟩; simp [h0, h1, h2, h3] at h
    have hset' : (!(decide (s0 = t0) && (decide (s1 = t1) && (decide (s2 = t2) && (decide (s3 = t3) && true))))) = false → (s0 = t0 ∧ s1 = t1 ∧ s2 = t2 ∧ s3 = t3) := by
      intro h; simpa using h
    refine Fn.enter (N := 75) hX Tryz.func8 rfl rfl (by show _ ≤ _; simp) (fun w0 hL => ?_)
    conv => whnf
    refine NewReq.mk hL ?_
    clear hL
    intro b3 w hL
    conv => whnf
    refine NewReq.mk hL ?_
    clear hL
    intro b4 w hL
    conv => whnf
    conv => whnf
    repeat ((first | refine zT ?_ | refine zF ?_ | refine zL hX hL ?_ | refine zB hX hL ?_ | (refine zS hX hL ?_; clear hL; intro w hL) | refine zI ?_ | refine zG hX ?_ | refine zO ?_); conv => whnf)
    refine BrReq.dec (fun g1 => ?_) (fun g1 => ?_)
    · conv => whnf
      repeat ((first | refine zT ?_ | refine zF ?_ | refine zL hX hL ?_ | refine zB hX hL ?_ | (refine zS hX hL ?_; clear hL; intro w hL) | refine zI ?_ | refine zG hX ?_ | refine zO ?_); conv => whnf)
      exact RetReq.mk hL.drop.drop ⟨rfl, by rw [hno (fun h => g1 h.1)]; rfl⟩
    conv => whnf
    repeat ((first | refine UGenReq.neA hX rfl rfl rfl Tryz.eqGuardType28 rfl rfl rfl ?_ | refine zT ?_ | refine zF ?_ | refine zL hX hL ?_ | refine zB hX hL ?_ | (refine zS hX hL ?_; clear hL; intro w hL) | refine zI ?_ | refine zG hX ?_ | refine zO ?_); conv => whnf)
    refine BrReq.bool (fun g2 => ?_) (fun g2 => ?_)
    · conv => whnf
      repeat ((first | refine zT ?_ | refine zF ?_ | refine zL hX hL ?_ | refine zB hX hL ?_ | (refine zS hX hL ?_; clear hL; intro w hL) | refine zI ?_ | refine zG hX ?_ | refine zO ?_); conv => whnf)
      exact RetReq.mk hL.drop.drop ⟨rfl, by rw [hno (fun h => hset g2 h.2.1)]; rfl⟩
    conv => whnf
    repeat ((first | refine zT ?_ | refine zF ?_ | refine zL hX hL ?_ | refine zB hX hL ?_ | (refine zS hX hL ?_; clear hL; intro w hL) | refine zI ?_ | refine zG hX ?_ | refine zO ?_); conv => whnf)
    refine BrReq.dec (fun g3 => ?_) (fun g3 => ?_)
    · conv => whnf
      repeat ((first | refine zT ?_ | refine zF ?_ | refine zL hX hL ?_ | refine zB hX hL ?_ | (refine zS hX hL ?_; clear hL; intro w hL) | refine zI ?_ | refine zG hX ?_ | refine zO ?_); conv => whnf)
      exact RetReq.mk hL.drop.drop ⟨rfl, by rw [hno (fun h => g3 h.2.2.1)]; rfl⟩
    conv => whnf
    repeat ((first | refine zT ?_ | refine zF ?_ | refine zL hX hL ?_ | refine zB hX hL ?_ | (refine zS hX hL ?_; clear hL; intro w hL) | refine zI ?_ | refine zG hX ?_ | refine zO ?_); conv => whnf)
    refine BrReq.dec (fun g4 => ?_) (fun g4 => ?_)
    · conv => whnf
      repeat ((first | refine zT ?_ | refine zF ?_ | refine zL hX hL ?_ | refine zB hX hL ?_ | (refine zS hX hL ?_; clear hL; intro w hL) | refine zI ?_ | refine zG hX ?_ | refine zO ?_); conv => whnf)
      exact RetReq.mk hL.drop.drop ⟨rfl, by rw [hno (fun h => g4 h.2.2.2.1)]; rfl⟩
    conv => whnf
    repeat ((first | refine zT ?_ | refine zF ?_ | refine zL hX hL ?_ | refine zB hX hL ?_ | (refine zS hX hL ?_; clear hL; intro w hL) | refine zI ?_ | refine zG hX ?_ | refine zO ?_); conv => whnf)
    refine BrReq.bool (fun g5 => ?_) (fun g5 => ?_)
    · conv => whnf
      repeat ((first | refine zT ?_ | refine zF ?_ | refine zL hX hL ?_ | refine zB hX hL ?_ | (refine zS hX hL ?_; clear hL; intro w hL) | refine zI ?_ | refine zG hX ?_ | refine zO ?_); conv => whnf)
      exact RetReq.mk hL.drop.drop ⟨rfl, by rw [hno (fun h => by rw [h.2.2.2.2.1] at g5; simp at g5)]; rfl⟩
    conv => whnf
    repeat ((first | refine zT ?_ | refine zF ?_ | refine zL hX hL ?_ | refine zB hX hL ?_ | (refine zS hX hL ?_; clear hL; intro w hL) | refine zI ?_ | refine zG hX ?_ | refine zO ?_); conv => whnf)
    refine BrReq.dec (fun g6 => ?_) (fun g6 => ?_)
    · conv => whnf
      repeat ((first | refine zT ?_ | refine zF ?_ | refine zL hX hL ?_ | refine zB hX hL ?_ | (refine zS hX hL ?_; clear hL; intro w hL) | refine zI ?_ | refine zG hX ?_ | refine zO ?_); conv => whnf)
      exact RetReq.mk hL.drop.drop ⟨rfl, by rw [hno (fun h => by have := h.2.2.2.2.2; omega)]; rfl⟩
    conv => whnf
    repeat ((first | refine zT ?_ | refine zF ?_ | refine zL hX hL ?_ | refine zB hX hL ?_ | (refine zS hX hL ?_; clear hL; intro w hL) | refine zI ?_ | refine zG hX ?_ | refine zO ?_); conv => whnf)
    have hg5 : neg = neg' := by simpa using g5
    have hg6 : rs.length = rs'.length := by omega
    have hyes : sameR (k + 1) (.mk kd s0 s1 s2 s3 rs lo hi neg) (.mk kd' t0 t1 t2 t3 rs' lo' hi' neg') = (List.zipWith (sameR k) rs rs').all id := by
      simp only [sameR, headEq, Re.parts]
      rw [decide_eq_true ⟨Decidable.not_not.1 g1, hset' g2, Decidable.not_not.1 g3, Decidable.not_not.1 g4, hg5, hg6⟩, Bool.true_and]
    refine LoopReq.inv hX (fun j : Nat => [(57, .int .i64 j)]) [2, 3, 4, 56]
      (fun j w => (j ≤ n ∧ ∀ (i : Nat) (x y : Re), i < j → rs[i]? = some x → rs'[i]? = some y → sameR k x y = true) ∧ Ev.Loc m [] w0 m [(b4, .cells (toArr (reC kd' t0 t1 t2 t3 (.slice A' n' c') lo' hi' neg')) 30 (0, 0)), (b3, .cells (toArr (reC kd s0 s1 s2 s3 (.slice A n c) lo hi neg)) 30 (0, 0))] w) (fun j => n - j) 0
      ⟨⟨by omega, fun i x y h => absurd h (by omega)⟩, hL⟩ ⟨rfl, trivial⟩ ?_
    clear hL
    rintro j w f ⟨⟨hj, hdone⟩, hL⟩
    conv => whnf
    repeat ((first | refine zT ?_ | refine zF ?_ | refine zL hX hL ?_ | refine zB hX hL ?_ | (refine zS hX hL ?_; clear hL; intro w hL) | refine zI ?_ | refine zG hX ?_ | refine zO ?_); conv => whnf)
    refine BrReq.dec (fun hlt => ?_) (fun hlt => ?_)
    · have hlt' : j < rs.length := by omega
      have hlt2 : j < rs'.length := by omega
      obtain ⟨a, cs1, rfl, hl9, hcells, hrep⟩ := he j _ (List.getElem?_eq_getElem hlt')
      obtain ⟨k1, u0, u1, u2, u3, A1, n1, c1, lo1, hi1, neg1, rfl⟩ := hrep.form
      obtain ⟨a', cs2, rfl, hl9', hcells', hrep'⟩ := he' j _ (List.getElem?_eq_getElem hlt2)
      obtain ⟨k2, v0, v1, v2, v3, A2, n2, c2, lo2, hi2, neg2, rfl⟩ := hrep'.form
      conv => whnf
      repeat ((first | refine zT ?_ | refine zF ?_ | refine zL hX hL ?_ | refine zB hX hL ?_ | (refine zS hX hL ?_; clear hL; intro w hL) | refine zI ?_ | refine zG hX ?_ | refine zO ?_); conv => whnf)
      refine DrawReq.plan hX (.fst 0 (.fst 1 (.fst 2 (.fst 3 (.fst 4 (.fst 5 (.fst 6 (.fst 7 (.fst 8 (.fst 9 (.fst 10 (.fst 11 (.alt 12 (.fst 13 (.done)) (.stop)))))))))))))) _ (by kernel_rfl) (by kernel_rfl) hL id ?_
      clear hL
      intro w hL
      conv => whnf
      repeat ((first | refine Idx2Req.mk j a rfl (by omega) rfl ?_ | refine Idx2Req.mk j a' rfl (by omega) rfl ?_ | refine QLdReq.agg hX rfl rfl hl9 hcells ?_ | refine QLdReq.agg hX rfl rfl hl9' hcells' ?_ | refine zQ hX ?_ | refine zR hX ?_ | refine zA ?_ | refine zT ?_ | refine zF ?_ | refine zL hX hL ?_ | refine zB hX hL ?_ | (refine zS hX hL ?_; clear hL; intro w hL) | refine zI ?_ | refine zG hX ?_ | refine zO ?_); conv => whnf)
      rw [show ((k + 1 : Nat) : Int) - 1 = (k : Int) by omega]
      refine CallReq.val (ih m _ _ _ _ hrep hrep' (by omega)) hL ?_
      clear hL
      intro w hL
      conv => whnf
      repeat ((first | refine SReq.mk hL ?_ | refine zQ hX ?_ | refine zR hX ?_ | refine zA ?_ | refine zT ?_ | refine zF ?_ | refine zL hX hL ?_ | refine zB hX hL ?_ | (refine zS hX hL ?_; clear hL; intro w hL) | refine zI ?_ | refine zG hX ?_ | refine zO ?_); conv => whnf)
      refine BrReq.not ?_
      refine BrReq.bool (fun g => ?_) (fun g => ?_)
      · conv => whnf
        repeat ((first | refine zT ?_ | refine zF ?_ | refine zL hX hL ?_ | refine zB hX hL ?_ | (refine zS hX hL ?_; clear hL; intro w hL) | refine zI ?_ | refine zG hX ?_ | refine zO ?_); conv => whnf)
        have hd : ∀ (i : Nat) (x y : Re), i < j + 1 → rs[i]? = some x → rs'[i]? = some y → sameR k x y = true := by
          intro i x y hi hx hy
          by_cases e : i = j
          · subst e
            rw [List.getElem?_eq_getElem hlt'] at hx; rw [List.getElem?_eq_getElem hlt2] at hy
            cases hx; cases hy; exact g
          · exact hdone i x y (by omega) hx hy
        refine ⟨j + 1, ⟨⟨by omega, hd⟩, hL⟩, by first | omega | (simp only; omega) | (simp only [List.length_cons, List.length_append]; omega), ?_, ?_⟩
        · repeat (first | exact trivial | (refine And.intro (by (conv => lhs; whnf) <;> (conv => rhs; whnf) <;> (first | rfl)) ?_))
        · repeat (first | exact trivial | (refine And.intro (by (conv => lhs; whnf) <;> (conv => rhs; whnf) <;> (first | rfl)) ?_))
      · conv => whnf
        repeat ((first | refine zT ?_ | refine zF ?_ | refine zL hX hL ?_ | refine zB hX hL ?_ | (refine zS hX hL ?_; clear hL; intro w hL) | refine zI ?_ | refine zG hX ?_ | refine zO ?_); conv => whnf)
        refine RetReq.mk hL.drop.drop ⟨rfl, ?_⟩
        have : sameR (k + 1) (.mk kd s0 s1 s2 s3 rs lo hi neg) (.mk kd' t0 t1 t2 t3 rs' lo' hi' neg') = false := by
          rw [hyes, Bool.eq_false_iff]
          intro hc
          have := (all_zip rs rs' hg6).1 hc j _ _ (List.getElem?_eq_getElem hlt') (List.getElem?_eq_getElem hlt2)
          rw [g] at this; cases this
        rw [this]; rfl
    · conv => whnf
      repeat ((first | refine zT ?_ | refine zF ?_ | refine zL hX hL ?_ | refine zB hX hL ?_ | (refine zS hX hL ?_; clear hL; intro w hL) | refine zI ?_ | refine zG hX ?_ | refine zO ?_); conv => whnf)
      refine RetReq.mk hL.drop.drop ⟨rfl, ?_⟩
      have : sameR (k + 1) (.mk kd s0 s1 s2 s3 rs lo hi neg) (.mk kd' t0 t1 t2 t3 rs' lo' hi' neg') = true := by
        rw [hyes]
        exact (all_zip rs rs' hg6).2 fun i x y hx hy => hdone i x y (by have := (List.getElem?_eq_some_iff.1 hx).1; omega) hx hy
      rw [this]; rfl
end Go.Proofs.YtiololnblplloaaGreat.tree
namespace Go.Proofs.YtiololnblplloaaGreat.tree
open Go Go.Ev Go.Proofs
def partsK (k : Int) : Int := if k = 3 ∨ k = 4 ∨ k = 5 then -1 else if k = 6 ∨ k = 7 ∨ k = 8 ∨ k = 9 then 1 else 0
theorem parts_fn (m : Mem) (k : Int) : FnV Tryz.prog 114 [.int .i64 k] m (.int .i64 (partsK k)) := by
  refine Fn.enter (N := 13) hX Tryz.func114 rfl rfl (by show _ ≤ _; simp) (fun w0 hL => ?_)
  conv => whnf
  conv => whnf
  repeat' (first | ((first | refine zT ?_ | refine zF ?_ | refine zL hX hL ?_ | refine zB hX hL ?_ | (refine zS hX hL ?_; clear hL; intro w hL) | refine zI ?_ | refine zG hX ?_ | refine zO ?_); conv => whnf) | (refine BrReq.dec (fun _ => ?_) (fun _ => ?_) <;> (conv => whnf)) | (refine BrReq.not ?_; refine BrReq.dec (fun _ => ?_) (fun _ => ?_) <;> (conv => whnf)) | (refine BrReq.bool (fun _ => ?_) (fun _ => ?_) <;> (conv => whnf)))
  all_goals (refine RetReq.mk hL ⟨rfl, ?_⟩; refine congrArg (Value.int .i64) ?_; unfold partsK; split <;> first | omega | (split <;> omega))
def Own (k s0 s1 s2 s3 : Int) (len : Nat) (lo hi : Int) (neg : Bool) : Prop :=
  (0 ≤ k ∧ k ≤ 11) ∧ (0 ≤ partsK k → (len : Int) = partsK k) ∧ (k = 2 ∨ (s0 = 0 ∧ s1 = 0 ∧ s2 = 0 ∧ s3 = 0)) ∧ (neg = true → k = 8 ∨ k = 9) ∧
    (k = 7 → 0 ≤ lo ∧ lo ≤ 20 ∧ (hi = -1 ∨ (lo ≤ hi ∧ 1 ≤ hi ∧ hi ≤ 20))) ∧ (k ≠ 7 → lo = 0 ∧ hi = 0)
instance (k s0 s1 s2 s3 : Int) (len : Nat) (lo hi : Int) (neg : Bool) : Decidable (Own k s0 s1 s2 s3 len lo hi neg) := by unfold Own; infer_instance
theorem own_fn (m : Mem) (k s0 s1 s2 s3 : Int) (A : Option Addr) (n c : Nat) (lo hi : Int) (neg : Bool) :
    FnV Tryz.prog 73 [.agg (toArr (reC k s0 s1 s2 s3 (.slice A n c) lo hi neg))] m (.bool (decide (Own k s0 s1 s2 s3 n lo hi neg))) := by
  refine Fn.enter (N := 88) hX Tryz.func73 rfl rfl (by show _ ≤ _; simp) (fun w0 hL => ?_)
  conv => whnf
  refine NewReq.mk hL ?_
  clear hL
  intro b1 w hL
  conv => whnf
  conv => whnf
  repeat ((first | refine zT ?_ | refine zF ?_ | refine zL hX hL ?_ | refine zB hX hL ?_ | (refine zS hX hL ?_; clear hL; intro w hL) | refine zI ?_ | refine zO ?_); conv => whnf)
  refine SeqReq.cut hX (fun _ : Unit => []) [1] (fun _ w => (0 ≤ k ∧ k ≤ 11) ∧ Ev.Loc m [] w0 m [(b1, .cells (toArr (reC k s0 s1 s2 s3 (.slice A n c) lo hi neg)) 30 (0, 0))] w) ?_ ?_
  · conv => whnf
    repeat' (first | ((first | refine zT ?_ | refine zF ?_ | refine zL hX hL ?_ | refine zB hX hL ?_ | (refine zS hX hL ?_; clear hL; intro w hL) | refine zI ?_ | refine zG hX ?_ | refine zO ?_); conv => whnf) | (refine BrReq.dec (fun _ => ?_) (fun _ => ?_) <;> (conv => whnf)) | (refine BrReq.not ?_; refine BrReq.dec (fun _ => ?_) (fun _ => ?_) <;> (conv => whnf)) | (refine BrReq.bool (fun _ => ?_) (fun _ => ?_) <;> (conv => whnf)))
    · exact RetReq.mk hL.drop ⟨rfl, congrArg Value.bool (decide_eq_false (fun h => by have := h.1; omega)).symm⟩
    · exact RetReq.mk hL.drop ⟨rfl, congrArg Value.bool (decide_eq_false (fun h => by have := h.1; omega)).symm⟩
    · exact ⟨(), ⟨by omega, hL⟩, trivial, rfl, trivial⟩
  clear hL
  rintro _ w f ⟨hk, hL⟩
  conv => whnf
  repeat ((first | refine zT ?_ | refine zF ?_ | refine zL hX hL ?_ | refine zB hX hL ?_ | (refine zS hX hL ?_; clear hL; intro w hL) | refine zI ?_ | refine zO ?_); conv => whnf)
  refine SeqReq.cut hX (fun _ : Unit => []) [1] (fun _ w => (0 ≤ partsK k → (n : Int) = partsK k) ∧ Ev.Loc m [] w0 m [(b1, .cells (toArr (reC k s0 s1 s2 s3 (.slice A n c) lo hi neg)) 30 (0, 0))] w) ?_ ?_
  · conv => whnf
    repeat ((first | refine zT ?_ | refine zF ?_ | refine zL hX hL ?_ | refine zB hX hL ?_ | (refine zS hX hL ?_; clear hL; intro w hL) | refine zI ?_ | refine zG hX ?_ | refine zO ?_); conv => whnf)
    refine CallReq.val (parts_fn m k) hL ?_
    clear hL
    intro w hL
    conv => whnf
    repeat' (first | ((first | refine zT ?_ | refine zF ?_ | refine zL hX hL ?_ | refine zB hX hL ?_ | (refine zS hX hL ?_; clear hL; intro w hL) | refine zI ?_ | refine zG hX ?_ | refine zO ?_); conv => whnf) | (refine BrReq.dec (fun _ => ?_) (fun _ => ?_) <;> (conv => whnf)) | (refine BrReq.not ?_; refine BrReq.dec (fun _ => ?_) (fun _ => ?_) <;> (conv => whnf)) | (refine BrReq.bool (fun _ => ?_) (fun _ => ?_) <;> (conv => whnf)))
    · exact RetReq.mk hL.drop ⟨rfl, congrArg Value.bool (decide_eq_false (fun h => by have := h.2.1; omega)).symm⟩
    · exact ⟨(), ⟨by omega, hL⟩, trivial, rfl, trivial⟩
    · exact ⟨(), ⟨by omega, hL⟩, trivial, rfl, trivial⟩
  clear hL
  rintro _ w f ⟨hn, hL⟩
  conv => whnf
  repeat ((first | refine zT ?_ | refine zF ?_ | refine zL hX hL ?_ | refine zB hX hL ?_ | (refine zS hX hL ?_; clear hL; intro w hL) | refine zI ?_ | refine zO ?_); conv => whnf)
  refine SeqReq.cut hX (fun _ : Unit => []) [1] (fun _ w => ((k = 2 ∨ (s0 = 0 ∧ s1 = 0 ∧ s2 = 0 ∧ s3 = 0)) ∧ (neg = true → k = 8 ∨ k = 9)) ∧ Ev.Loc m [] w0 m [(b1, .cells (toArr (reC k s0 s1 s2 s3 (.slice A n c) lo hi neg)) 30 (0, 0))] w) ?_ ?_
  · conv => whnf
    repeat' (first | ((first | refine UGenReq.neA hX rfl rfl rfl Tryz.eqGuardType28 rfl rfl rfl ?_ | refine zT ?_ | refine zF ?_ | refine zL hX hL ?_ | refine zB hX hL ?_ | (refine zS hX hL ?_; clear hL; intro w hL) | refine zI ?_ | refine zG hX ?_ | refine zO ?_); conv => whnf) | (refine BrReq.dec (fun _ => ?_) (fun _ => ?_) <;> (conv => whnf)) | (refine BrReq.not ?_; refine BrReq.dec (fun _ => ?_) (fun _ => ?_) <;> (conv => whnf)) | (refine BrReq.bool (fun _ => ?_) (fun _ => ?_) <;> (conv => whnf)))
    all_goals first
      | (refine RetReq.mk hL.drop ⟨rfl, congrArg Value.bool (decide_eq_false (fun h => ?_)).symm⟩; obtain ⟨_, _, h3, h4, _⟩ := h; first | (simp_all; done) | (simp_all; omega))
      | (refine ⟨(), ⟨⟨?_, ?_⟩, hL⟩, trivial, rfl, trivial⟩ <;> first | (simp_all; done) | (simp_all; omega))
  clear hL
  rintro _ w f ⟨⟨hs, hg⟩, hL⟩
  have hO : Own k s0 s1 s2 s3 n lo hi neg ↔ ((k = 7 → 0 ≤ lo ∧ lo ≤ 20 ∧ (hi = -1 ∨ (lo ≤ hi ∧ 1 ≤ hi ∧ hi ≤ 20))) ∧ (k ≠ 7 → lo = 0 ∧ hi = 0)) :=
    ⟨fun h => ⟨h.2.2.2.2.1, h.2.2.2.2.2⟩, fun h => ⟨hk, hn, hs, hg, h.1, h.2⟩⟩
  have hOd : decide (Own k s0 s1 s2 s3 n lo hi neg) = decide ((k = 7 → 0 ≤ lo ∧ lo ≤ 20 ∧ (hi = -1 ∨ (lo ≤ hi ∧ 1 ≤ hi ∧ hi ≤ 20))) ∧ (k ≠ 7 → lo = 0 ∧ hi = 0)) := decide_eq_decide.2 hO
  rw [hOd]
  conv => whnf
  repeat' (first | ((first | refine zT ?_ | refine zF ?_ | refine zL hX hL ?_ | refine zB hX hL ?_ | (refine zS hX hL ?_; clear hL; intro w hL) | refine zI ?_ | refine zG hX ?_ | refine zO ?_); conv => whnf) | (refine BrReq.dec (fun _ => ?_) (fun _ => ?_) <;> (conv => whnf)) | (refine BrReq.not ?_; refine BrReq.dec (fun _ => ?_) (fun _ => ?_) <;> (conv => whnf)) | (refine BrReq.bool (fun _ => ?_) (fun _ => ?_) <;> (conv => whnf)))
  all_goals (refine RetReq.bool hL.drop ?_; first | exact decide_eq_decide.2 (by omega) | exact (decide_eq_true (by omega)).symm | exact (decide_eq_false (by omega)).symm)
theorem Re.ind {Q : Re → Prop} (h : ∀ k s0 s1 s2 s3 rs lo hi neg, (∀ p ∈ rs, Q p) → Q (.mk k s0 s1 s2 s3 rs lo hi neg)) : ∀ r, Q r := by
  have : ∀ (n : Nat) (r : Re), SizeOf.sizeOf r ≤ n → Q r := by
    intro n
    induction n with
    | zero => intro r hr; obtain ⟨k, s0, s1, s2, s3, rs, lo, hi, neg⟩ := r; simp at hr
    | succ n ih =>
      intro r hr
      obtain ⟨k, s0, s1, s2, s3, rs, lo, hi, neg⟩ := r
      refine h _ _ _ _ _ _ _ _ _ fun p hp => ih p ?_
      have := List.sizeOf_lt_of_mem hp
      simp at hr
      omega
  intro r
  exact this _ r (Nat.le_refl _)
def timesR (k lo hi : Int) : Int := if k = 7 then max (min (max lo hi) 1001) 1 else 1
def capR (k lo hi : Int) (s : Nat) : Nat := if 1000 < s then 1001 else (min ((s : Int) * timesR k lo hi + 1) 1001).toNat
mutual
def sizeR : Re → Nat
  | .mk k _ _ _ _ rs lo hi _ => capR k lo hi (sizeL rs)
def sizeL : List Re → Nat
  | [] => 0
  | p :: l => sizeR p + sizeL l
end
mutual
def allR : Re → Bool
  | .mk k s0 s1 s2 s3 rs lo hi neg => decide (Own k s0 s1 s2 s3 rs.length lo hi neg) && allL rs
def allL : List Re → Bool
  | [] => true
  | p :: l => allR p && allL l
end
theorem allL_eq (l : List Re) : allL l = l.all allR := by
  induction l with
  | nil => rfl
  | cons p l ih => simp only [allL, List.all_cons, ih]
theorem sizeL_eq (l : List Re) : sizeL l = (l.map sizeR).sum := by
  induction l with
  | nil => rfl
  | cons p l ih => simp only [sizeL, List.map_cons, List.sum_cons, ih]
theorem timesR_pos (k lo hi : Int) : 1 ≤ timesR k lo hi ∧ timesR k lo hi ≤ 1001 := by unfold timesR; split <;> omega
theorem capR_le (k lo hi : Int) (s : Nat) : capR k lo hi s ≤ 1001 := by unfold capR; split <;> omega
theorem sizeR_le (r : Re) : sizeR r ≤ 1001 := by obtain ⟨k, s0, s1, s2, s3, rs, lo, hi, neg⟩ := r; simp only [sizeR]; exact capR_le _ _ _ _
theorem sizeL_take_succ (rs : List Re) (j : Nat) (h : j < rs.length) : sizeL (rs.take (j + 1)) = sizeL (rs.take j) + sizeR rs[j] := by
  rw [List.take_succ_eq_append_getElem h, sizeL_eq, sizeL_eq, List.map_append, List.sum_append]
  simp
theorem sizeL_take_le (rs : List Re) (j : Nat) : sizeL (rs.take j) ≤ sizeL rs := by
  rw [sizeL_eq, sizeL_eq]
  conv => rhs; rw [← List.take_append_drop j rs]
  rw [List.map_append, List.sum_append]
  omega
theorem size_fn (r : Re) : ∀ (m : Mem) (cs : List Value), RepRe m cs r → FnV Tryz.prog 51 [.agg (toArr cs)] m (.int .i64 (sizeR r : Nat)) := by
  induction r using Re.ind with
  | h kd s0 s1 s2 s3 rs lo hi neg ih =>
    intro m cs h
    obtain ⟨A, n, c, rfl, hs, hk, -, -, -, -, hlo, hhi⟩ := h.open
    obtain ⟨hn, hc, hm⟩ := hs.lens
    have hmx : maxLen = 9223372036854775807 := rfl
    have he := hs.elem
    have ht := timesR_pos kd lo hi
    refine Fn.enter (N := 35) hX Tryz.func51 rfl rfl (by show _ ≤ _; simp) (fun w0 hL => ?_)
    conv => whnf
    refine NewReq.mk hL ?_
    clear hL
    intro b1 w hL
    conv => whnf
    conv => whnf
    repeat ((first | refine zT ?_ | refine zF ?_ | refine zL hX hL ?_ | refine zB hX hL ?_ | (refine zS hX hL ?_; clear hL; intro w hL) | refine zI ?_ | refine zG hX ?_ | refine zO ?_); conv => whnf)
    refine LoopReq.inv hX (fun q : Nat × Nat => [(3, .int .i64 q.1), (9, .int .i64 q.2)]) [1, 7, 8]
      (fun q w => (q.2 ≤ n ∧ q.1 ≤ 1000 ∧ q.1 = sizeL (rs.take q.2)) ∧ Ev.Loc m [] w0 m [(b1, .cells (toArr (reC kd s0 s1 s2 s3 (.slice A n c) lo hi neg)) 30 (0, 0))] w) (fun q => n - q.2) (0, 0)
      ⟨⟨by simp, by simp, rfl⟩, hL⟩ ⟨rfl, rfl, trivial⟩ ?_
    clear hL
    rintro ⟨q, j⟩ w f ⟨⟨hj, hq, hsum⟩, hL⟩
    simp only at hj hq hsum
    conv => whnf
    repeat ((first | refine zT ?_ | refine zF ?_ | refine zL hX hL ?_ | refine zB hX hL ?_ | (refine zS hX hL ?_; clear hL; intro w hL) | refine zI ?_ | refine zG hX ?_ | refine zO ?_); conv => whnf)
    refine BrReq.dec (fun hlt => ?_) (fun hlt => ?_)
    · have hlt' : j < rs.length := by omega
      have hstep := sizeL_take_succ rs j hlt'
      have hle := sizeL_take_le rs (j + 1)
      have hpl := sizeR_le rs[j]
      obtain ⟨a, cs', rfl, hl9, hcells, hrep⟩ := he j _ (List.getElem?_eq_getElem hlt')
      obtain ⟨k1, u0, u1, u2, u3, A1, n1, c1, lo1, hi1, neg1, rfl⟩ := hrep.form
      conv => whnf
      repeat ((first | refine Idx2Req.mk j a rfl (by omega) rfl ?_ | refine LdReq.agg hX rfl rfl hL hl9 hcells ?_ | refine zT ?_ | refine zF ?_ | refine zL hX hL ?_ | refine zB hX hL ?_ | (refine zS hX hL ?_; clear hL; intro w hL) | refine zI ?_ | refine zG hX ?_ | refine zO ?_); conv => whnf)
      refine NewReq.mk hL ?_
      clear hL
      intro b5 w hL
      conv => whnf
      conv => whnf
      repeat ((first | refine zT ?_ | refine zF ?_ | refine zL hX hL ?_ | refine zB hX hL ?_ | (refine zS hX hL ?_; clear hL; intro w hL) | refine zI ?_ | refine zG hX ?_ | refine zO ?_); conv => whnf)
      refine CallReq.val (ih _ (List.getElem_mem hlt') m _ hrep) hL ?_
      clear hL
      intro w hL
      conv => whnf
      repeat ((first | refine zT ?_ | refine zF ?_ | refine zL hX hL ?_ | refine zB hX hL ?_ | (refine zS hX hL ?_; clear hL; intro w hL) | refine zI ?_ | refine zG hX ?_ | refine zO ?_); conv => whnf)
      refine BrReq.dec (fun h => ?_) (fun h => ?_)
      · conv => whnf
        repeat ((first | refine zT ?_ | refine zF ?_ | refine zL hX hL ?_ | refine zB hX hL ?_ | (refine zS hX hL ?_; clear hL; intro w hL) | refine zI ?_ | refine zG hX ?_ | refine zO ?_); conv => whnf)
        refine RetReq.int hL.drop.drop ?_
        have : sizeR (.mk kd s0 s1 s2 s3 rs lo hi neg) = 1001 := by simp only [sizeR, capR]; rw [if_pos (by omega)]
        rw [this]; rfl
      · conv => whnf
        repeat ((first | refine zT ?_ | refine zF ?_ | refine zL hX hL ?_ | refine zB hX hL ?_ | (refine zS hX hL ?_; clear hL; intro w hL) | refine zI ?_ | refine zG hX ?_ | refine zO ?_); conv => whnf)
        refine ⟨(q + sizeR rs[j], j + 1), ⟨⟨by simp only; omega, by simp only; omega, by simp only; omega⟩, hL.drop⟩, by first | omega | (simp only; omega) | (simp only [List.length_cons, List.length_append]; omega), ?_, ?_⟩
        · repeat (first | exact trivial | (refine And.intro (by (conv => lhs; whnf) <;> (conv => rhs; whnf) <;> (first | rfl)) ?_))
        · repeat (first | exact trivial | (refine And.intro (by (conv => lhs; whnf) <;> (conv => rhs; whnf) <;> (first | rfl)) ?_))
    have hjn : j = rs.length := by omega
    rw [hjn, List.take_length] at hsum
    have hmul : (q : Int) * timesR kd lo hi ≤ 1000 * 1001 := Int.mul_le_mul (by omega) (by omega) (by omega) (by omega)
    have hmul0 : 0 ≤ (q : Int) * timesR kd lo hi := Int.mul_nonneg (by omega) (by omega)
    have hval : (sizeR (.mk kd s0 s1 s2 s3 rs lo hi neg) : Int) = min ((q : Int) * timesR kd lo hi + 1) 1001 := by
      simp only [sizeR, capR]; rw [if_neg (by omega), hsum]; rw [hsum] at hmul0; omega
    conv => whnf
    repeat ((first | refine zT ?_ | refine zF ?_ | refine zL hX hL ?_ | refine zB hX hL ?_ | (refine zS hX hL ?_; clear hL; intro w hL) | refine zI ?_ | refine zG hX ?_ | refine zO ?_); conv => whnf)
    refine BrReq.dec (fun h7 => ?_) (fun h7 => ?_)
    · have ht7 : timesR kd lo hi = max (min (max lo hi) 1001) 1 := by unfold timesR; rw [if_pos h7]
      rw [ht7] at hmul hmul0 hval
      conv => whnf
      repeat ((first | refine zT ?_ | refine zF ?_ | refine zL hX hL ?_ | refine zB hX hL ?_ | (refine zS hX hL ?_; clear hL; intro w hL) | refine zI ?_ | refine zG hX ?_ | refine zO ?_); conv => whnf)
      refine ArReq.i64 (by simp only; omega) (by simp only; omega) ?_
      conv => whnf
      repeat ((first | refine zT ?_ | refine zF ?_ | refine zL hX hL ?_ | refine zB hX hL ?_ | (refine zS hX hL ?_; clear hL; intro w hL) | refine zI ?_ | refine zG hX ?_ | refine zO ?_); conv => whnf)
      refine ArReq.i64 (by simp only; omega) (by simp only; omega) ?_
      conv => whnf
      repeat ((first | refine zT ?_ | refine zF ?_ | refine zL hX hL ?_ | refine zB hX hL ?_ | (refine zS hX hL ?_; clear hL; intro w hL) | refine zI ?_ | refine zG hX ?_ | refine zO ?_); conv => whnf)
      exact RetReq.int hL.drop (by rw [hval])
    · have ht7 : timesR kd lo hi = 1 := by unfold timesR; rw [if_neg h7]
      rw [ht7, Int.mul_one] at hval
      conv => whnf
      repeat ((first | refine zT ?_ | refine zF ?_ | refine zL hX hL ?_ | refine zB hX hL ?_ | (refine zS hX hL ?_; clear hL; intro w hL) | refine zI ?_ | refine zG hX ?_ | refine zO ?_); conv => whnf)
      exact RetReq.int hL.drop (by rw [hval])
end Go.Proofs.YtiololnblplloaaGreat.tree
namespace Go.Proofs.YtiololnblplloaaGreat.tree
open Go Go.Ev Go.Proofs
theorem refSize_fn (r : Re) : ∀ (m : Mem) (cs : List Value), RepRe m cs r → FnV Tryz.prog 14 [.agg (toArr cs)] m (.int .i64 (sizeR r : Nat)) := by
  induction r using Re.ind with
  | h kd s0 s1 s2 s3 rs lo hi neg ih =>
    intro m cs h
    obtain ⟨A, n, c, rfl, hs, hk, -, -, -, -, hlo, hhi⟩ := h.open
    obtain ⟨hn, hc, hm⟩ := hs.lens
    have hmx : maxLen = 9223372036854775807 := rfl
    have he := hs.elem
    refine Fn.enter (N := 45) hX Tryz.func14 rfl rfl (by show _ ≤ _; simp) (fun w0 hL => ?_)
    conv => whnf
    refine NewReq.mk hL ?_
    clear hL
    intro b1 w hL
    conv => whnf
    conv => whnf
    repeat ((first | refine zT ?_ | refine zF ?_ | refine zL hX hL ?_ | refine zB hX hL ?_ | (refine zS hX hL ?_; clear hL; intro w hL) | refine zI ?_ | refine zG hX ?_ | refine zO ?_); conv => whnf)
    refine LoopReq.inv hX (fun q : Nat × Nat => [(3, .int .i64 q.1), (9, .int .i64 q.2)]) [1, 8]
      (fun q w => (q.2 ≤ n ∧ q.1 = min (sizeL (rs.take q.2)) 1001) ∧ Ev.Loc m [] w0 m [(b1, .cells (toArr (reC kd s0 s1 s2 s3 (.slice A n c) lo hi neg)) 30 (0, 0))] w) (fun q => n - q.2) (0, 0)
      ⟨⟨by simp, rfl⟩, hL⟩ ⟨rfl, rfl, trivial⟩ ?_
    clear hL
    rintro ⟨q, j⟩ w f ⟨⟨hj, hsum⟩, hL⟩
    simp only at hj hsum
    conv => whnf
    repeat ((first | refine zT ?_ | refine zF ?_ | refine zL hX hL ?_ | refine zB hX hL ?_ | (refine zS hX hL ?_; clear hL; intro w hL) | refine zI ?_ | refine zG hX ?_ | refine zO ?_); conv => whnf)
    refine BrReq.dec (fun hlt => ?_) (fun hlt => ?_)
    · have hlt' : j < rs.length := by omega
      have hstep := sizeL_take_succ rs j hlt'
      have hpl := sizeR_le rs[j]
      obtain ⟨a, cs', rfl, hl9, hcells, hrep⟩ := he j _ (List.getElem?_eq_getElem hlt')
      obtain ⟨k1, u0, u1, u2, u3, A1, n1, c1, lo1, hi1, neg1, rfl⟩ := hrep.form
      conv => whnf
      repeat ((first | refine Idx2Req.mk j a rfl (by omega) rfl ?_ | refine LdReq.agg hX rfl rfl hL hl9 hcells ?_ | refine zT ?_ | refine zF ?_ | refine zL hX hL ?_ | refine zB hX hL ?_ | (refine zS hX hL ?_; clear hL; intro w hL) | refine zI ?_ | refine zG hX ?_ | refine zO ?_); conv => whnf)
      refine CallReq.val (ih _ (List.getElem_mem hlt') m _ hrep) hL ?_
      clear hL
      intro w hL
      conv => whnf
      repeat ((first | refine zT ?_ | refine zF ?_ | refine zL hX hL ?_ | refine zB hX hL ?_ | (refine zS hX hL ?_; clear hL; intro w hL) | refine zI ?_ | refine zG hX ?_ | refine zO ?_); conv => whnf)
      refine ⟨(min (q + sizeR rs[j]) 1001, j + 1), ⟨⟨by simp only; omega, by simp only; omega⟩, hL⟩, by first | omega | (simp only; omega) | (simp only [List.length_cons, List.length_append]; omega), ?_, ?_⟩
      · repeat (first | exact trivial | (refine And.intro (by (conv => lhs; whnf) <;> (conv => rhs; whnf) <;> (first | rfl | (simp only; congr 1; omega))) ?_))
      · repeat (first | exact trivial | (refine And.intro (by (conv => lhs; whnf) <;> (conv => rhs; whnf) <;> (first | rfl | (simp only; congr 1; omega))) ?_))
    have hjn : j = rs.length := by omega
    rw [hjn, List.take_length] at hsum
    have key : ∀ t : Int, 1 ≤ t → t ≤ 2000 → (min t 1001 = timesR kd lo hi) → 0 ≤ (q : Int) * t ∧ (q : Int) * t ≤ 1001 * 2000 ∧ min ((q : Int) * t + 1) 1001 = (sizeR (.mk kd s0 s1 s2 s3 rs lo hi neg) : Int) := by
      intro t h1 h2 h3
      have h4 : (q : Int) * t ≤ 1001 * 2000 := Int.mul_le_mul (by omega) h2 (by omega) (by omega)
      have h5 : 0 ≤ (q : Int) * t := Int.mul_nonneg (by omega) (by omega)
      refine ⟨h5, h4, ?_⟩
      simp only [sizeR, capR]
      by_cases hb : 1000 < sizeL rs
      · rw [if_pos hb]
        have : (1001 : Int) * 1 ≤ (q : Int) * t := Int.mul_le_mul (by omega) h1 (by omega) (by omega)
        omega
      · rw [if_neg hb, ← h3]
        have e : q = sizeL rs := by omega
        rw [← e]
        by_cases ht : t ≤ 1001
        · rw [Int.min_eq_left ht]; omega
        · rw [Int.min_eq_right (by omega : (1001 : Int) ≤ t)]
          by_cases h0 : q = 0
          · subst h0; simp; decide
          · have h6 : (1 : Int) * 1001 ≤ (q : Int) * t := Int.mul_le_mul (by omega) (by omega) (by omega) (by omega)
            omega
    conv => whnf
    repeat ((first | refine zT ?_ | refine zF ?_ | refine zL hX hL ?_ | refine zB hX hL ?_ | (refine zS hX hL ?_; clear hL; intro w hL) | refine zI ?_ | refine zG hX ?_ | refine zO ?_); conv => whnf)
    refine BrReq.dec (fun h7 => ?_) (fun h7 => ?_)
    · have ht7 : timesR kd lo hi = max (min (max lo hi) 1001) 1 := by unfold timesR; rw [if_pos h7]
      rw [ht7] at key
      conv => whnf
      repeat ((first | refine zT ?_ | refine zF ?_ | refine zL hX hL ?_ | refine zB hX hL ?_ | (refine zS hX hL ?_; clear hL; intro w hL) | refine zI ?_ | refine zG hX ?_ | refine zO ?_); conv => whnf)
      refine BrReq.dec (fun hl => ?_) (fun hl => ?_)
      · conv => whnf
        repeat ((first | refine zT ?_ | refine zF ?_ | refine zL hX hL ?_ | refine zB hX hL ?_ | (refine zS hX hL ?_; clear hL; intro w hL) | refine zI ?_ | refine zG hX ?_ | refine zO ?_); conv => whnf)
        refine BrReq.dec (fun hh => ?_) (fun hh => ?_)
        · obtain ⟨k1, k2, k3⟩ := key (min hi 2000) (by omega) (by omega) (by omega)
          conv => whnf
          repeat ((first | refine zT ?_ | refine zF ?_ | refine zL hX hL ?_ | refine zB hX hL ?_ | (refine zS hX hL ?_; clear hL; intro w hL) | refine zI ?_ | refine zG hX ?_ | refine zO ?_); conv => whnf)
          refine ArReq.i64 (by (try simp only); omega) (by (try simp only); omega) ?_
          conv => whnf
          repeat ((first | refine zT ?_ | refine zF ?_ | refine zL hX hL ?_ | refine zB hX hL ?_ | (refine zS hX hL ?_; clear hL; intro w hL) | refine zI ?_ | refine zG hX ?_ | refine zO ?_); conv => whnf)
          refine ArReq.i64 (by (try simp only); omega) (by (try simp only); omega) ?_
          conv => whnf
          repeat ((first | refine zT ?_ | refine zF ?_ | refine zL hX hL ?_ | refine zB hX hL ?_ | (refine zS hX hL ?_; clear hL; intro w hL) | refine zI ?_ | refine zG hX ?_ | refine zO ?_); conv => whnf)
          exact RetReq.int hL.drop k3
        · obtain ⟨k1, k2, k3⟩ := key (min lo 2000) (by omega) (by omega) (by omega)
          conv => whnf
          repeat ((first | refine zT ?_ | refine zF ?_ | refine zL hX hL ?_ | refine zB hX hL ?_ | (refine zS hX hL ?_; clear hL; intro w hL) | refine zI ?_ | refine zG hX ?_ | refine zO ?_); conv => whnf)
          refine ArReq.i64 (by (try simp only); omega) (by (try simp only); omega) ?_
          conv => whnf
          repeat ((first | refine zT ?_ | refine zF ?_ | refine zL hX hL ?_ | refine zB hX hL ?_ | (refine zS hX hL ?_; clear hL; intro w hL) | refine zI ?_ | refine zG hX ?_ | refine zO ?_); conv => whnf)
          refine ArReq.i64 (by (try simp only); omega) (by (try simp only); omega) ?_
          conv => whnf
          repeat ((first | refine zT ?_ | refine zF ?_ | refine zL hX hL ?_ | refine zB hX hL ?_ | (refine zS hX hL ?_; clear hL; intro w hL) | refine zI ?_ | refine zG hX ?_ | refine zO ?_); conv => whnf)
          exact RetReq.int hL.drop k3
      · conv => whnf
        repeat ((first | refine zT ?_ | refine zF ?_ | refine zL hX hL ?_ | refine zB hX hL ?_ | (refine zS hX hL ?_; clear hL; intro w hL) | refine zI ?_ | refine zG hX ?_ | refine zO ?_); conv => whnf)
        refine BrReq.dec (fun hh => ?_) (fun hh => ?_)
        · obtain ⟨k1, k2, k3⟩ := key (min hi 2000) (by omega) (by omega) (by omega)
          conv => whnf
          repeat ((first | refine zT ?_ | refine zF ?_ | refine zL hX hL ?_ | refine zB hX hL ?_ | (refine zS hX hL ?_; clear hL; intro w hL) | refine zI ?_ | refine zG hX ?_ | refine zO ?_); conv => whnf)
          refine ArReq.i64 (by (try simp only); omega) (by (try simp only); omega) ?_
          conv => whnf
          repeat ((first | refine zT ?_ | refine zF ?_ | refine zL hX hL ?_ | refine zB hX hL ?_ | (refine zS hX hL ?_; clear hL; intro w hL) | refine zI ?_ | refine zG hX ?_ | refine zO ?_); conv => whnf)
          refine ArReq.i64 (by (try simp only); omega) (by (try simp only); omega) ?_
          conv => whnf
          repeat ((first | refine zT ?_ | refine zF ?_ | refine zL hX hL ?_ | refine zB hX hL ?_ | (refine zS hX hL ?_; clear hL; intro w hL) | refine zI ?_ | refine zG hX ?_ | refine zO ?_); conv => whnf)
          exact RetReq.int hL.drop k3
        · obtain ⟨k1, k2, k3⟩ := key 1 (by omega) (by omega) (by omega)
          rw [Int.mul_one] at k3
          conv => whnf
          repeat ((first | refine zT ?_ | refine zF ?_ | refine zL hX hL ?_ | refine zB hX hL ?_ | (refine zS hX hL ?_; clear hL; intro w hL) | refine zI ?_ | refine zG hX ?_ | refine zO ?_); conv => whnf)
          exact RetReq.int hL.drop (by simp only; rw [Int.mul_one]; exact k3)
    · have ht7 : timesR kd lo hi = 1 := by unfold timesR; rw [if_neg h7]
      obtain ⟨k1, k2, k3⟩ := key 1 (by omega) (by omega) (by omega)
      rw [Int.mul_one] at k3
      conv => whnf
      repeat ((first | refine zT ?_ | refine zF ?_ | refine zL hX hL ?_ | refine zB hX hL ?_ | (refine zS hX hL ?_; clear hL; intro w hL) | refine zI ?_ | refine zG hX ?_ | refine zO ?_); conv => whnf)
      exact RetReq.int hL.drop k3
set_option maxHeartbeats 2000000 in
theorem refFormed0_fn (r : Re) : ∀ (m : Mem) (cs : List Value), RepRe m cs r → FnV Tryz.prog 13 [.agg (toArr cs)] m (.bool (allR r)) := by
  induction r using Re.ind with
  | h kd s0 s1 s2 s3 rs lo hi neg ih =>
    intro m cs h
    obtain ⟨A, n, c, rfl, hs, hk, -, -, -, -, hlo, hhi⟩ := h.open
    obtain ⟨hn, hc, hm⟩ := hs.lens
    have hmx : maxLen = 9223372036854775807 := rfl
    have he := hs.elem
    have hno : ¬ Own kd s0 s1 s2 s3 n lo hi neg → allR (.mk kd s0 s1 s2 s3 rs lo hi neg) = false := by
      intro h; simp only [allR]; rw [← hn, decide_eq_false h, Bool.false_and]
    have hpk : partsK kd = -1 ∨ partsK kd = 1 ∨ partsK kd = 0 := by unfold partsK; split <;> first | omega | (split <;> omega)
    have hpk1 : partsK kd = -1 ↔ (kd = 3 ∨ kd = 4 ∨ kd = 5) := by unfold partsK; split <;> first | omega | (split <;> omega)
    have hpk2 : partsK kd = 1 ↔ (kd = 6 ∨ kd = 7 ∨ kd = 8 ∨ kd = 9) := by unfold partsK; split <;> first | omega | (split <;> omega)
    refine Fn.enter (N := 119) hX Tryz.func13 rfl rfl (by show _ ≤ _; simp) (fun w0 hL => ?_)
    conv => whnf
    refine NewReq.mk hL ?_
    clear hL
    intro b1 w hL
    conv => whnf
    conv => whnf
    repeat ((first | refine zT ?_ | refine zF ?_ | refine zL hX hL ?_ | refine zB hX hL ?_ | (refine zS hX hL ?_; clear hL; intro w hL) | refine zI ?_ | refine zO ?_); conv => whnf)
    refine SeqReq.cut hX (fun _ : Unit => [(3, .int .i64 (if partsK kd = -1 then (n : Int) else partsK kd))]) [1] (fun _ w => Ev.Loc m [] w0 m [(b1, .cells (toArr (reC kd s0 s1 s2 s3 (.slice A n c) lo hi neg)) 30 (0, 0))] w) ?_ ?_
    · conv => whnf
      repeat' (first | ((first | refine zT ?_ | refine zF ?_ | refine zL hX hL ?_ | refine zB hX hL ?_ | (refine zS hX hL ?_; clear hL; intro w hL) | refine zI ?_ | refine zG hX ?_ | refine zO ?_); conv => whnf) | (refine BrReq.dec (fun _ => ?_) (fun _ => ?_) <;> (conv => whnf)) | (refine BrReq.not ?_; refine BrReq.dec (fun _ => ?_) (fun _ => ?_) <;> (conv => whnf)) | (refine BrReq.bool (fun _ => ?_) (fun _ => ?_) <;> (conv => whnf)))
      all_goals (refine ⟨(), hL, ⟨?_, trivial⟩, rfl, trivial⟩; refine congrArg (Value.int .i64) ?_; split <;> omega)
    clear hL
    rintro _ w f hL
    conv => whnf
    repeat ((first | refine zT ?_ | refine zF ?_ | refine zL hX hL ?_ | refine zB hX hL ?_ | (refine zS hX hL ?_; clear hL; intro w hL) | refine zI ?_ | refine zO ?_); conv => whnf)
    refine SeqReq.cut hX (fun _ : Unit => []) [1] (fun _ w => ((0 ≤ kd ∧ kd ≤ 11) ∧ (0 ≤ partsK kd → (n : Int) = partsK kd)) ∧ Ev.Loc m [] w0 m [(b1, .cells (toArr (reC kd s0 s1 s2 s3 (.slice A n c) lo hi neg)) 30 (0, 0))] w) ?_ ?_
    · conv => whnf
      repeat' (first | ((first | refine zT ?_ | refine zF ?_ | refine zL hX hL ?_ | refine zB hX hL ?_ | (refine zS hX hL ?_; clear hL; intro w hL) | refine zI ?_ | refine zG hX ?_ | refine zO ?_); conv => whnf) | (refine BrReq.dec (fun _ => ?_) (fun _ => ?_) <;> (conv => whnf)) | (refine BrReq.not ?_; refine BrReq.dec (fun _ => ?_) (fun _ => ?_) <;> (conv => whnf)) | (refine BrReq.bool (fun _ => ?_) (fun _ => ?_) <;> (conv => whnf)))
      all_goals first
        | (refine RetReq.bool hL.drop ?_; rw [hno (fun h => ?_)]; obtain ⟨g1, g2, g3, g4, g5, g6⟩ := h; omega)
        | (refine ⟨(), ⟨?_, hL⟩, trivial, rfl, trivial⟩; omega)
    clear hL
    rintro _ w f ⟨⟨hkd, hnp⟩, hL⟩
    conv => whnf
    repeat ((first | refine zT ?_ | refine zF ?_ | refine zL hX hL ?_ | refine zB hX hL ?_ | (refine zS hX hL ?_; clear hL; intro w hL) | refine zI ?_ | refine zO ?_); conv => whnf)
    refine SeqReq.cut hX (fun _ : Unit => []) [1] (fun _ w => ((kd = 2 ∨ (s0 = 0 ∧ s1 = 0 ∧ s2 = 0 ∧ s3 = 0)) ∧ (neg = true → kd = 8 ∨ kd = 9)) ∧ Ev.Loc m [] w0 m [(b1, .cells (toArr (reC kd s0 s1 s2 s3 (.slice A n c) lo hi neg)) 30 (0, 0))] w) ?_ ?_
    · conv => whnf
      repeat' (first | ((first | refine UGenReq.neA hX rfl rfl rfl Tryz.eqGuardType28 rfl rfl rfl ?_ | refine zT ?_ | refine zF ?_ | refine zL hX hL ?_ | refine zB hX hL ?_ | (refine zS hX hL ?_; clear hL; intro w hL) | refine zI ?_ | refine zG hX ?_ | refine zO ?_); conv => whnf) | (refine BrReq.dec (fun _ => ?_) (fun _ => ?_) <;> (conv => whnf)) | (refine BrReq.not ?_; refine BrReq.dec (fun _ => ?_) (fun _ => ?_) <;> (conv => whnf)) | (refine BrReq.bool (fun _ => ?_) (fun _ => ?_) <;> (conv => whnf)))
      all_goals first
        | (refine RetReq.bool hL.drop ?_; rw [hno (fun h => ?_)]; obtain ⟨g1, g2, g3, g4, g5, g6⟩ := h; (first | (simp_all; done) | (simp_all; omega)))
        | (refine ⟨(), ⟨?_, hL⟩, trivial, rfl, trivial⟩; (first | (simp_all; done) | (simp_all; omega)))
    clear hL
    rintro _ w f ⟨⟨hse, hng⟩, hL⟩
    conv => whnf
    repeat ((first | refine zT ?_ | refine zF ?_ | refine zL hX hL ?_ | refine zB hX hL ?_ | (refine zS hX hL ?_; clear hL; intro w hL) | refine zI ?_ | refine zO ?_); conv => whnf)
    refine SeqReq.cut hX (fun _ : Unit => []) [1] (fun _ w => (kd ≠ 7 → lo = 0 ∧ hi = 0) ∧ Ev.Loc m [] w0 m [(b1, .cells (toArr (reC kd s0 s1 s2 s3 (.slice A n c) lo hi neg)) 30 (0, 0))] w) ?_ ?_
    · conv => whnf
      repeat' (first | ((first | refine zT ?_ | refine zF ?_ | refine zL hX hL ?_ | refine zB hX hL ?_ | (refine zS hX hL ?_; clear hL; intro w hL) | refine zI ?_ | refine zG hX ?_ | refine zO ?_); conv => whnf) | (refine BrReq.dec (fun _ => ?_) (fun _ => ?_) <;> (conv => whnf)) | (refine BrReq.not ?_; refine BrReq.dec (fun _ => ?_) (fun _ => ?_) <;> (conv => whnf)) | (refine BrReq.bool (fun _ => ?_) (fun _ => ?_) <;> (conv => whnf)))
      all_goals first
        | (refine RetReq.bool hL.drop ?_; rw [hno (fun h => ?_)]; obtain ⟨g1, g2, g3, g4, g5, g6⟩ := h; omega)
        | (refine ⟨(), ⟨?_, hL⟩, trivial, rfl, trivial⟩; omega)
    clear hL
    rintro _ w f ⟨ho7, hL⟩
    conv => whnf
    repeat ((first | refine zT ?_ | refine zF ?_ | refine zL hX hL ?_ | refine zB hX hL ?_ | (refine zS hX hL ?_; clear hL; intro w hL) | refine zI ?_ | refine zO ?_); conv => whnf)
    refine SeqReq.cut hX (fun _ : Unit => []) [1] (fun _ w => (kd = 7 → 0 ≤ lo ∧ lo ≤ 20 ∧ (hi = -1 ∨ (lo ≤ hi ∧ 1 ≤ hi ∧ hi ≤ 20))) ∧ Ev.Loc m [] w0 m [(b1, .cells (toArr (reC kd s0 s1 s2 s3 (.slice A n c) lo hi neg)) 30 (0, 0))] w) ?_ ?_
    · conv => whnf
      repeat' (first | ((first | refine zT ?_ | refine zF ?_ | refine zL hX hL ?_ | refine zB hX hL ?_ | (refine zS hX hL ?_; clear hL; intro w hL) | refine zI ?_ | refine zG hX ?_ | refine zO ?_); conv => whnf) | (refine BrReq.dec (fun _ => ?_) (fun _ => ?_) <;> (conv => whnf)) | (refine BrReq.not ?_; refine BrReq.dec (fun _ => ?_) (fun _ => ?_) <;> (conv => whnf)) | (refine BrReq.bool (fun _ => ?_) (fun _ => ?_) <;> (conv => whnf)))
      all_goals first
        | (refine RetReq.bool hL.drop ?_; rw [hno (fun h => ?_)]; obtain ⟨g1, g2, g3, g4, g5, g6⟩ := h; omega)
        | (refine ⟨(), ⟨?_, hL⟩, trivial, rfl, trivial⟩; omega)
    clear hL
    rintro _ w f ⟨hi7, hL⟩
    have hO : Own kd s0 s1 s2 s3 n lo hi neg := ⟨hkd, hnp, hse, hng, hi7, ho7⟩
    have hyes : allR (.mk kd s0 s1 s2 s3 rs lo hi neg) = rs.all allR := by
      simp only [allR]; rw [← hn, decide_eq_true hO, Bool.true_and, allL_eq]
    conv => whnf
    repeat ((first | refine zT ?_ | refine zF ?_ | refine zL hX hL ?_ | refine zB hX hL ?_ | (refine zS hX hL ?_; clear hL; intro w hL) | refine zI ?_ | refine zG hX ?_ | refine zO ?_); conv => whnf)
    refine LoopReq.inv hX (fun j : Nat => [(108, .int .i64 j)]) [1, 107]
      (fun j w => (j ≤ n ∧ ∀ (i : Nat) (x : Re), i < j → rs[i]? = some x → allR x = true) ∧ Ev.Loc m [] w0 m [(b1, .cells (toArr (reC kd s0 s1 s2 s3 (.slice A n c) lo hi neg)) 30 (0, 0))] w) (fun j => n - j) 0
      ⟨⟨by omega, fun i x h => absurd h (by omega)⟩, hL⟩ ⟨rfl, trivial⟩ ?_
    clear hL
    rintro j w f ⟨⟨hj, hdone⟩, hL⟩
    conv => whnf
    repeat ((first | refine zT ?_ | refine zF ?_ | refine zL hX hL ?_ | refine zB hX hL ?_ | (refine zS hX hL ?_; clear hL; intro w hL) | refine zI ?_ | refine zG hX ?_ | refine zO ?_); conv => whnf)
    refine BrReq.dec (fun hlt => ?_) (fun hlt => ?_)
    · have hlt' : j < rs.length := by omega
      obtain ⟨a, cs', rfl, hl9, hcells, hrep⟩ := he j _ (List.getElem?_eq_getElem hlt')
      obtain ⟨k1, u0, u1, u2, u3, A1, n1, c1, lo1, hi1, neg1, rfl⟩ := hrep.form
      conv => whnf
      repeat ((first | refine Idx2Req.mk j a rfl (by omega) rfl ?_ | refine LdReq.agg hX rfl rfl hL hl9 hcells ?_ | refine zT ?_ | refine zF ?_ | refine zL hX hL ?_ | refine zB hX hL ?_ | (refine zS hX hL ?_; clear hL; intro w hL) | refine zI ?_ | refine zG hX ?_ | refine zO ?_); conv => whnf)
      refine CallReq.val (ih _ (List.getElem_mem hlt') m _ hrep) hL ?_
      clear hL
      intro w hL
      conv => whnf
      repeat ((first | refine zT ?_ | refine zF ?_ | refine zL hX hL ?_ | refine zB hX hL ?_ | (refine zS hX hL ?_; clear hL; intro w hL) | refine zI ?_ | refine zG hX ?_ | refine zO ?_); conv => whnf)
      refine BrReq.not ?_
      refine BrReq.bool (fun g => ?_) (fun g => ?_)
      · have hd : ∀ (i : Nat) (x : Re), i < j + 1 → rs[i]? = some x → allR x = true := by
          intro i x hi hx
          by_cases e : i = j
          · subst e
            rw [List.getElem?_eq_getElem hlt'] at hx
            cases hx; exact g
          · exact hdone i x (by omega) hx
        conv => whnf
        repeat ((first | refine zT ?_ | refine zF ?_ | refine zL hX hL ?_ | refine zB hX hL ?_ | (refine zS hX hL ?_; clear hL; intro w hL) | refine zI ?_ | refine zG hX ?_ | refine zO ?_); conv => whnf)
        refine ⟨j + 1, ⟨⟨by omega, hd⟩, hL⟩, by first | omega | (simp only; omega) | (simp only [List.length_cons, List.length_append]; omega), ?_, ?_⟩
        · repeat (first | exact trivial | (refine And.intro (by (conv => lhs; whnf) <;> (conv => rhs; whnf) <;> (first | rfl)) ?_))
        · repeat (first | exact trivial | (refine And.intro (by (conv => lhs; whnf) <;> (conv => rhs; whnf) <;> (first | rfl)) ?_))
      · conv => whnf
        repeat ((first | refine zT ?_ | refine zF ?_ | refine zL hX hL ?_ | refine zB hX hL ?_ | (refine zS hX hL ?_; clear hL; intro w hL) | refine zI ?_ | refine zG hX ?_ | refine zO ?_); conv => whnf)
        refine RetReq.bool hL.drop ?_
        rw [hyes]
        symm
        rw [Bool.eq_false_iff]
        intro hc
        have := List.all_eq_true.1 hc _ (List.getElem_mem hlt')
        rw [g] at this; cases this
    · conv => whnf
      repeat ((first | refine zT ?_ | refine zF ?_ | refine zL hX hL ?_ | refine zB hX hL ?_ | (refine zS hX hL ?_; clear hL; intro w hL) | refine zI ?_ | refine zG hX ?_ | refine zO ?_); conv => whnf)
      refine RetReq.bool hL.drop ?_
      rw [hyes]
      symm
      rw [List.all_eq_true]
      intro x hx
      obtain ⟨i, hi, rfl⟩ := List.getElem_of_mem hx
      exact hdone i _ (by omega) (List.getElem?_eq_getElem hi)
def formedR (r : Re) : Bool := decide (deepR 40 r ≤ 40) && allR r && decide (sizeR r ≤ 1000)
theorem refFormed_fn (m : Mem) (r : Re) (cs : List Value) (h : RepRe m cs r) : FnV Tryz.prog 6 [.agg (toArr cs)] m (.bool (formedR r)) := by
  obtain ⟨k1, u0, u1, u2, u3, A1, n1, c1, lo1, hi1, neg1, rfl⟩ := h.form
  refine Fn.enter (N := 15) hX Tryz.func6 rfl rfl (by show _ ≤ _; simp) (fun w0 hL => ?_)
  conv => whnf
  refine NewReq.mk hL ?_
  clear hL
  intro b1 w hL
  conv => whnf
  conv => whnf
  repeat ((first | refine zT ?_ | refine zF ?_ | refine zL hX hL ?_ | refine zB hX hL ?_ | (refine zS hX hL ?_; clear hL; intro w hL) | refine zI ?_ | refine zG hX ?_ | refine zO ?_); conv => whnf)
  refine CallReq.val (refDeep_fn 40 m r _ h (by omega)) hL ?_
  clear hL
  intro w hL
  conv => whnf
  repeat ((first | refine zT ?_ | refine zF ?_ | refine zL hX hL ?_ | refine zB hX hL ?_ | (refine zS hX hL ?_; clear hL; intro w hL) | refine zI ?_ | refine zG hX ?_ | refine zO ?_); conv => whnf)
  refine BrReq.dec (fun hd => ?_) (fun hd => ?_)
  · conv => whnf
    repeat ((first | refine zT ?_ | refine zF ?_ | refine zL hX hL ?_ | refine zB hX hL ?_ | (refine zS hX hL ?_; clear hL; intro w hL) | refine zI ?_ | refine zG hX ?_ | refine zO ?_); conv => whnf)
    refine CallReq.val (refFormed0_fn r m _ h) hL ?_
    clear hL
    intro w hL
    conv => whnf
    repeat ((first | refine zT ?_ | refine zF ?_ | refine zL hX hL ?_ | refine zB hX hL ?_ | (refine zS hX hL ?_; clear hL; intro w hL) | refine zI ?_ | refine zG hX ?_ | refine zO ?_); conv => whnf)
    refine BrReq.bool (fun ha => ?_) (fun ha => ?_)
    · conv => whnf
      repeat ((first | refine zT ?_ | refine zF ?_ | refine zL hX hL ?_ | refine zB hX hL ?_ | (refine zS hX hL ?_; clear hL; intro w hL) | refine zI ?_ | refine zG hX ?_ | refine zO ?_); conv => whnf)
      refine CallReq.val (refSize_fn r m _ h) hL ?_
      clear hL
      intro w hL
      conv => whnf
      repeat ((first | refine zT ?_ | refine zF ?_ | refine zL hX hL ?_ | refine zB hX hL ?_ | (refine zS hX hL ?_; clear hL; intro w hL) | refine zI ?_ | refine zG hX ?_ | refine zO ?_); conv => whnf)
      refine RetReq.bool hL.drop ?_
      unfold formedR
      rw [decide_eq_true (by omega : deepR 40 r ≤ 40), ha, Bool.true_and, Bool.true_and]
      exact decide_eq_decide.2 (by omega)
    · conv => whnf
      repeat ((first | refine zT ?_ | refine zF ?_ | refine zL hX hL ?_ | refine zB hX hL ?_ | (refine zS hX hL ?_; clear hL; intro w hL) | refine zI ?_ | refine zG hX ?_ | refine zO ?_); conv => whnf)
      refine RetReq.bool hL.drop ?_
      unfold formedR
      rw [ha, Bool.and_false, Bool.false_and]
  · conv => whnf
    repeat ((first | refine zT ?_ | refine zF ?_ | refine zL hX hL ?_ | refine zB hX hL ?_ | (refine zS hX hL ?_; clear hL; intro w hL) | refine zI ?_ | refine zG hX ?_ | refine zO ?_); conv => whnf)
    refine RetReq.bool hL.drop ?_
    unfold formedR
    rw [decide_eq_false (by omega : ¬ deepR 40 r ≤ 40), Bool.false_and, Bool.false_and]
end Go.Proofs.YtiololnblplloaaGreat.tree
namespace Go.Proofs.YtiololnblplloaaGreat.tree
open Go Go.Ev Go.Proofs
theorem indexAll_fn (m : Mem) (v : Value) (rs : List Re) (f : Re → Bool) (hs : Sl m 9 (RepRe m) v rs) (hf : ∀ p ∈ rs, ∀ cs, RepRe m cs p → FnV Tryz.prog 74 [.agg (toArr cs)] m (.bool (f p))) :
    Fn0 Tryz.prog 49 [v, .func (.func 74) #[] #[]] m fun _ u => ∃ z : Int, u = .int .i64 z ∧ (0 ≤ z ↔ rs.any f = true) := by
  have hs' := hs
  obtain ⟨A, n, c, rfl, hn, hc, hm, -⟩ := hs
  have he := hs'.elem
  have hmx : maxLen = 9223372036854775807 := rfl
  refine Fn.enter (N := 19) hX Tryz.func49 rfl rfl (by show _ ≤ _; simp) (fun w0 hL => ?_)
  conv => whnf
  conv => whnf
  repeat ((first | refine zT ?_ | refine zF ?_ | refine zL hX hL ?_ | refine zB hX hL ?_ | (refine zS hX hL ?_; clear hL; intro w hL) | refine zI ?_ | refine zG hX ?_ | refine zO ?_); conv => whnf)
  refine LoopReq.inv hX (fun j : Nat => [(8, .int .i64 j)]) [0, 1, 7]
    (fun j w => (j ≤ n ∧ ∀ (i : Nat) (x : Re), i < j → rs[i]? = some x → f x = false) ∧ Ev.Loc m [] w0 m [] w) (fun j => n - j) 0
    ⟨⟨by omega, fun i x h => absurd h (by omega)⟩, hL⟩ ⟨rfl, trivial⟩ ?_
  clear hL
  rintro j w g ⟨⟨hj, hdone⟩, hL⟩
  conv => whnf
  repeat ((first | refine zT ?_ | refine zF ?_ | refine zL hX hL ?_ | refine zB hX hL ?_ | (refine zS hX hL ?_; clear hL; intro w hL) | refine zI ?_ | refine zG hX ?_ | refine zO ?_); conv => whnf)
  refine BrReq.dec (fun hlt => ?_) (fun hlt => ?_)
  · have hlt' : j < rs.length := by omega
    obtain ⟨a, cs', rfl, hl9, hcells, hrep⟩ := he j _ (List.getElem?_eq_getElem hlt')
    obtain ⟨k1, u0, u1, u2, u3, A1, n1, c1, lo1, hi1, neg1, rfl⟩ := hrep.form
    conv => whnf
    repeat ((first | refine Idx2Req.mk j a rfl (by omega) rfl ?_ | refine LdReq.agg hX rfl rfl hL hl9 hcells ?_ | refine zT ?_ | refine zF ?_ | refine zL hX hL ?_ | refine zB hX hL ?_ | (refine zS hX hL ?_; clear hL; intro w hL) | refine zI ?_ | refine zG hX ?_ | refine zO ?_); conv => whnf)
    refine CallReq.val (hf _ (List.getElem_mem hlt') _ hrep) hL ?_
    clear hL
    intro w hL
    conv => whnf
    repeat ((first | refine zT ?_ | refine zF ?_ | refine zL hX hL ?_ | refine zB hX hL ?_ | (refine zS hX hL ?_; clear hL; intro w hL) | refine zI ?_ | refine zG hX ?_ | refine zO ?_); conv => whnf)
    refine BrReq.bool (fun hb => ?_) (fun hb => ?_)
    · conv => whnf
      repeat ((first | refine zT ?_ | refine zF ?_ | refine zL hX hL ?_ | refine zB hX hL ?_ | (refine zS hX hL ?_; clear hL; intro w hL) | refine zI ?_ | refine zG hX ?_ | refine zO ?_); conv => whnf)
      refine RetReq.mk hL ⟨rfl, j, rfl, fun _ => ?_, fun _ => by omega⟩
      exact List.any_eq_true.2 ⟨_, List.getElem_mem hlt', hb⟩
    · have hd : ∀ (i : Nat) (x : Re), i < j + 1 → rs[i]? = some x → f x = false := by
        intro i x hi hx
        by_cases e : i = j
        · subst e
          rw [List.getElem?_eq_getElem hlt'] at hx
          cases hx; exact hb
        · exact hdone i x (by omega) hx
      conv => whnf
      repeat ((first | refine zT ?_ | refine zF ?_ | refine zL hX hL ?_ | refine zB hX hL ?_ | (refine zS hX hL ?_; clear hL; intro w hL) | refine zI ?_ | refine zG hX ?_ | refine zO ?_); conv => whnf)
      refine ⟨j + 1, ⟨⟨by omega, hd⟩, hL⟩, by first | omega | (simp only; omega) | (simp only [List.length_cons, List.length_append]; omega), ?_, ?_⟩
      · repeat (first | exact trivial | (refine And.intro (by (conv => lhs; whnf) <;> (conv => rhs; whnf) <;> (first | rfl)) ?_))
      · repeat (first | exact trivial | (refine And.intro (by (conv => lhs; whnf) <;> (conv => rhs; whnf) <;> (first | rfl)) ?_))
  · conv => whnf
    repeat ((first | refine zT ?_ | refine zF ?_ | refine zL hX hL ?_ | refine zB hX hL ?_ | (refine zS hX hL ?_; clear hL; intro w hL) | refine zI ?_ | refine zG hX ?_ | refine zO ?_); conv => whnf)
    refine RetReq.mk hL ⟨rfl, -1, rfl, fun h => absurd h (by omega), fun h => ?_⟩
    obtain ⟨x, hx, hfx⟩ := List.any_eq_true.1 h
    obtain ⟨i, hi, rfl⟩ := List.getElem_of_mem hx
    rw [hdone i _ (by omega) (List.getElem?_eq_getElem hi)] at hfx
    cases hfx
theorem containsAll_fn (m : Mem) (v : Value) (rs : List Re) (f : Re → Bool) (hs : Sl m 9 (RepRe m) v rs) (hf : ∀ p ∈ rs, ∀ cs, RepRe m cs p → FnV Tryz.prog 74 [.agg (toArr cs)] m (.bool (f p))) :
    FnV Tryz.prog 32 [v, .func (.func 74) #[] #[]] m (.bool (rs.any f)) := by
  have hs' := hs
  obtain ⟨A, n, c, rfl, -⟩ := hs
  refine Fn.enter (N := 9) hX Tryz.func32 rfl rfl (by show _ ≤ _; simp) (fun w0 hL => ?_)
  conv => whnf
  conv => whnf
  repeat ((first | refine zT ?_ | refine zF ?_ | refine zL hX hL ?_ | refine zB hX hL ?_ | (refine zS hX hL ?_; clear hL; intro w hL) | refine zI ?_ | refine zG hX ?_ | refine zO ?_); conv => whnf)
  refine CallReq.pure (indexAll_fn m _ rs f hs' hf) hL ?_
  clear hL
  rintro u m' w hL - ⟨z, rfl, hz⟩
  conv => whnf
  repeat ((first | refine zT ?_ | refine zF ?_ | refine zL hX hL ?_ | refine zB hX hL ?_ | (refine zS hX hL ?_; clear hL; intro w hL) | refine zI ?_ | refine zG hX ?_ | refine zO ?_); conv => whnf)
  refine RetReq.bool hL ?_
  rw [Bool.eq_iff_iff, decide_eq_true_iff]
  exact hz
theorem all_fn (r : Re) : ∀ (m : Mem) (cs : List Value), RepRe m cs r → FnV Tryz.prog 50 [.agg (toArr cs)] m (.bool (allR r)) := by
  induction r using Re.ind with
  | h kd s0 s1 s2 s3 rs lo hi neg ih =>
    intro m cs h
    obtain ⟨A, n, c, rfl, hs, hk, -, -, -, -, hlo, hhi⟩ := h.open
    obtain ⟨hn, hc, hm⟩ := hs.lens
    have hit : ∀ p ∈ rs, ∀ cs, RepRe m cs p → FnV Tryz.prog 74 [.agg (toArr cs)] m (.bool (!allR p)) := by
      intro p hp cs hr
      obtain ⟨k1, u0, u1, u2, u3, A1, n1, c1, lo1, hi1, neg1, rfl⟩ := hr.form
      refine Fn.enter (N := 6) hX Tryz.func74 rfl rfl (by show _ ≤ _; simp) (fun w0 hL => ?_)
      conv => whnf
      refine NewReq.mk hL ?_
      clear hL
      intro b1 w hL
      conv => whnf
      conv => whnf
      repeat ((first | refine zT ?_ | refine zF ?_ | refine zL hX hL ?_ | refine zB hX hL ?_ | (refine zS hX hL ?_; clear hL; intro w hL) | refine zI ?_ | refine zG hX ?_ | refine zO ?_); conv => whnf)
      refine CallReq.val (ih p hp m _ hr) hL ?_
      clear hL
      intro w hL
      conv => whnf
      repeat ((first | refine zT ?_ | refine zF ?_ | refine zL hX hL ?_ | refine zB hX hL ?_ | (refine zS hX hL ?_; clear hL; intro w hL) | refine zI ?_ | refine zG hX ?_ | refine zO ?_); conv => whnf)
      exact RetReq.bool hL.drop rfl
    refine Fn.enter (N := 11) hX Tryz.func50 rfl rfl (by show _ ≤ _; simp) (fun w0 hL => ?_)
    conv => whnf
    refine NewReq.mk hL ?_
    clear hL
    intro b1 w hL
    conv => whnf
    conv => whnf
    repeat ((first | refine zT ?_ | refine zF ?_ | refine zL hX hL ?_ | refine zB hX hL ?_ | (refine zS hX hL ?_; clear hL; intro w hL) | refine zI ?_ | refine zG hX ?_ | refine zO ?_); conv => whnf)
    refine CallReq.val (own_fn m kd s0 s1 s2 s3 A n c lo hi neg) hL ?_
    clear hL
    intro w hL
    conv => whnf
    repeat ((first | refine zT ?_ | refine zF ?_ | refine zL hX hL ?_ | refine zB hX hL ?_ | (refine zS hX hL ?_; clear hL; intro w hL) | refine zI ?_ | refine zG hX ?_ | refine zO ?_); conv => whnf)
    refine BrReq.dec (fun hd => ?_) (fun hd => ?_)
    · conv => whnf
      repeat ((first | refine zT ?_ | refine zF ?_ | refine zL hX hL ?_ | refine zB hX hL ?_ | (refine zS hX hL ?_; clear hL; intro w hL) | refine zI ?_ | refine zG hX ?_ | refine zO ?_); conv => whnf)
      refine CallReq.val (containsAll_fn m _ rs (fun p => !allR p) hs hit) hL ?_
      clear hL
      intro w hL
      conv => whnf
      repeat ((first | refine zT ?_ | refine zF ?_ | refine zL hX hL ?_ | refine zB hX hL ?_ | (refine zS hX hL ?_; clear hL; intro w hL) | refine zI ?_ | refine zG hX ?_ | refine zO ?_); conv => whnf)
      refine RetReq.bool hL.drop ?_
      simp only [allR]
      rw [← hn, decide_eq_true hd, Bool.true_and, allL_eq, List.all_eq_not_any_not]
    · conv => whnf
      repeat ((first | refine zT ?_ | refine zF ?_ | refine zL hX hL ?_ | refine zB hX hL ?_ | (refine zS hX hL ?_; clear hL; intro w hL) | refine zI ?_ | refine zG hX ?_ | refine zO ?_); conv => whnf)
      refine RetReq.bool hL.drop ?_
      simp only [allR]
      rw [← hn, decide_eq_false hd, Bool.false_and]
theorem Deep_fn (m : Mem) (r : Re) (cs : List Value) (h : RepRe m cs r) : FnV Tryz.prog 37 [.agg (toArr cs)] m (.int .i64 (deepR 40 r : Nat)) := by
  obtain ⟨k1, u0, u1, u2, u3, A1, n1, c1, lo1, hi1, neg1, rfl⟩ := h.form
  refine Fn.enter (N := 5) hX Tryz.func37 rfl rfl (by show _ ≤ _; simp) (fun w0 hL => ?_)
  conv => whnf
  refine NewReq.mk hL ?_
  clear hL
  intro b1 w hL
  conv => whnf
  conv => whnf
  repeat ((first | refine zT ?_ | refine zF ?_ | refine zL hX hL ?_ | refine zB hX hL ?_ | (refine zS hX hL ?_; clear hL; intro w hL) | refine zI ?_ | refine zG hX ?_ | refine zO ?_); conv => whnf)
  refine CallReq.val (deep_fn 40 m r _ h (by omega)) hL ?_
  clear hL
  intro w hL
  conv => whnf
  repeat ((first | refine zT ?_ | refine zF ?_ | refine zL hX hL ?_ | refine zB hX hL ?_ | (refine zS hX hL ?_; clear hL; intro w hL) | refine zI ?_ | refine zG hX ?_ | refine zO ?_); conv => whnf)
  exact RetReq.int hL.drop rfl
theorem Formed_fn (m : Mem) (r : Re) (cs : List Value) (h : RepRe m cs r) : FnV Tryz.prog 35 [.agg (toArr cs)] m (.bool (formedR r)) := by
  obtain ⟨k1, u0, u1, u2, u3, A1, n1, c1, lo1, hi1, neg1, rfl⟩ := h.form
  refine Fn.enter (N := 15) hX Tryz.func35 rfl rfl (by show _ ≤ _; simp) (fun w0 hL => ?_)
  conv => whnf
  refine NewReq.mk hL ?_
  clear hL
  intro b1 w hL
  conv => whnf
  conv => whnf
  repeat ((first | refine zT ?_ | refine zF ?_ | refine zL hX hL ?_ | refine zB hX hL ?_ | (refine zS hX hL ?_; clear hL; intro w hL) | refine zI ?_ | refine zG hX ?_ | refine zO ?_); conv => whnf)
  refine CallReq.val (Deep_fn m r _ h) hL ?_
  clear hL
  intro w hL
  conv => whnf
  repeat ((first | refine zT ?_ | refine zF ?_ | refine zL hX hL ?_ | refine zB hX hL ?_ | (refine zS hX hL ?_; clear hL; intro w hL) | refine zI ?_ | refine zG hX ?_ | refine zO ?_); conv => whnf)
  refine BrReq.dec (fun hd => ?_) (fun hd => ?_)
  · conv => whnf
    repeat ((first | refine zT ?_ | refine zF ?_ | refine zL hX hL ?_ | refine zB hX hL ?_ | (refine zS hX hL ?_; clear hL; intro w hL) | refine zI ?_ | refine zG hX ?_ | refine zO ?_); conv => whnf)
    refine CallReq.val (all_fn r m _ h) hL ?_
    clear hL
    intro w hL
    conv => whnf
    repeat ((first | refine zT ?_ | refine zF ?_ | refine zL hX hL ?_ | refine zB hX hL ?_ | (refine zS hX hL ?_; clear hL; intro w hL) | refine zI ?_ | refine zG hX ?_ | refine zO ?_); conv => whnf)
    refine BrReq.bool (fun ha => ?_) (fun ha => ?_)
    · conv => whnf
      repeat ((first | refine zT ?_ | refine zF ?_ | refine zL hX hL ?_ | refine zB hX hL ?_ | (refine zS hX hL ?_; clear hL; intro w hL) | refine zI ?_ | refine zG hX ?_ | refine zO ?_); conv => whnf)
      refine CallReq.val (size_fn r m _ h) hL ?_
      clear hL
      intro w hL
      conv => whnf
      repeat ((first | refine zT ?_ | refine zF ?_ | refine zL hX hL ?_ | refine zB hX hL ?_ | (refine zS hX hL ?_; clear hL; intro w hL) | refine zI ?_ | refine zG hX ?_ | refine zO ?_); conv => whnf)
      refine RetReq.bool hL.drop ?_
      unfold formedR
      rw [decide_eq_true (by omega : deepR 40 r ≤ 40), ha, Bool.true_and, Bool.true_and]
      exact decide_eq_decide.2 (by omega)
    · conv => whnf
      repeat ((first | refine zT ?_ | refine zF ?_ | refine zL hX hL ?_ | refine zB hX hL ?_ | (refine zS hX hL ?_; clear hL; intro w hL) | refine zI ?_ | refine zG hX ?_ | refine zO ?_); conv => whnf)
      refine RetReq.bool hL.drop ?_
      unfold formedR
      rw [ha, Bool.and_false, Bool.false_and]
  · conv => whnf
    repeat ((first | refine zT ?_ | refine zF ?_ | refine zL hX hL ?_ | refine zB hX hL ?_ | (refine zS hX hL ?_; clear hL; intro w hL) | refine zI ?_ | refine zG hX ?_ | refine zO ?_); conv => whnf)
    refine RetReq.bool hL.drop ?_
    unfold formedR
    rw [decide_eq_false (by omega : ¬ deepR 40 r ≤ 40), Bool.false_and, Bool.false_and]
theorem Few_fn (m : Mem) (r : Re) (cs : List Value) (h : RepRe m cs r) (k : Nat) (hk : k ≤ 1000) : FnV Tryz.prog 5 [.agg (toArr cs), .int .i64 k] m (.bool (decide (cR k r ≤ 2000))) := by
  obtain ⟨k1, u0, u1, u2, u3, A1, n1, c1, lo1, hi1, neg1, rfl⟩ := h.form
  refine Fn.enter (N := 9) hX Tryz.func5 rfl rfl (by show _ ≤ _; simp) (fun w0 hL => ?_)
  conv => whnf
  refine NewReq.mk hL ?_
  clear hL
  intro b1 w hL
  conv => whnf
  conv => whnf
  repeat ((first | refine zT ?_ | refine zF ?_ | refine zL hX hL ?_ | refine zB hX hL ?_ | (refine zS hX hL ?_; clear hL; intro w hL) | refine zI ?_ | refine zG hX ?_ | refine zO ?_); conv => whnf)
  refine CallReq.val (count_fn k m r _ h hk) hL ?_
  clear hL
  intro w hL
  conv => whnf
  repeat ((first | refine zT ?_ | refine zF ?_ | refine zL hX hL ?_ | refine zB hX hL ?_ | (refine zS hX hL ?_; clear hL; intro w hL) | refine zI ?_ | refine zG hX ?_ | refine zO ?_); conv => whnf)
  exact RetReq.bool hL.drop (decide_eq_decide.2 (by omega))
end Go.Proofs.YtiololnblplloaaGreat.tree
namespace Go.Proofs.YtiololnblplloaaGreat.ar
open Go Go.Ev Go.Proofs Go.Proofs.YtiololnblplloaaGreat.tree
def catsN : List Nd → List Int → Int → List Nd × Int
  | ns, [], out => (ns, out)
  | ns, z :: l, out => catsN (catN ns z out).1 l (catN ns z out).2
def optN (x : Int) : Nat → List Nd → Int → List Nd × Int
  | 0, ns, out => (ns, out)
  | n + 1, ns, out => optN x n (orN (catN (emptyN ns).1 x out).1 [(emptyN ns).2, (catN (emptyN ns).1 x out).2]).1 (orN (catN (emptyN ns).1 x out).1 [(emptyN ns).2, (catN (emptyN ns).1 x out).2]).2
def repN (x : Int) : Nat → List Nd → Int → List Nd × Int
  | 0, ns, out => (ns, out)
  | n + 1, ns, out => repN x n (catN ns x out).1 (catN ns x out).2
def timesN (lo hi : Int) (ns : List Nd) (x : Int) : List Nd × Int :=
  let e := emptyN ns
  let s := if hi < 0 then starN e.1 x else e
  let o := optN x (hi - lo).toNat s.1 s.2
  repN x lo.toNat o.1 o.2
abbrev Bs := (List Nd × Int) × Int
def lookedN (ns : List Nd) (e : Int) (k : Int) (neg : Bool) : Bs := if k < 0 ∨ 4 ≤ k then (((noneN ns).1, 10), (noneN ns).2) else (((lookN ns k neg).1, e), (lookN ns k neg).2)
mutual
def bR (lk : Re → Int) : Re → List Nd → Int → Bs
  | .mk k s0 s1 s2 s3 rs lo hi neg, ns, e =>
    if k = 0 then (((noneN ns).1, e), (noneN ns).2)
    else if k = 1 then (((emptyN ns).1, e), (emptyN ns).2)
    else if k = 2 then (((bytesN ns ⟨s0, s1, s2, s3⟩).1, e), (bytesN ns ⟨s0, s1, s2, s3⟩).2)
    else if k = 3 then
      let p := bL lk rs (emptyN ns).1 e
      let c := catsN p.1.1 p.2.reverse (emptyN ns).2
      ((c.1, p.1.2), c.2)
    else if k = 4 then
      let p := bL lk rs ns e
      (((orN p.1.1 p.2).1, p.1.2), (orN p.1.1 p.2).2)
    else if k = 5 then
      let p := bL lk rs ns e
      (((andN p.1.1 p.2).1, p.1.2), (andN p.1.1 p.2).2)
    else if k = 6 then
      let p := bL lk rs ns e
      (((notN p.1.1 (p.2.headD 0)).1, p.1.2), (notN p.1.1 (p.2.headD 0)).2)
    else if k = 7 then
      let p := bL lk rs ns e
      (((timesN lo hi p.1.1 (p.2.headD 0)).1, p.1.2), (timesN lo hi p.1.1 (p.2.headD 0)).2)
    else lookedN ns e (lk (.mk k s0 s1 s2 s3 rs lo hi false)) neg
def bL (lk : Re → Int) : List Re → List Nd → Int → (List Nd × Int) × List Int
  | [], ns, e => ((ns, e), [])
  | r :: l, ns, e =>
    let p := bR lk r ns e
    let q := bL lk l p.1.1 p.1.2
    (q.1, p.2 :: q.2)
end
theorem bL_take (lk : Re → Int) : ∀ (rs : List Re) (ns : List Nd) (e : Int) (j : Nat) (h : j < rs.length), bL lk (rs.take (j + 1)) ns e =
    ((bR lk rs[j] (bL lk (rs.take j) ns e).1.1 (bL lk (rs.take j) ns e).1.2).1, (bL lk (rs.take j) ns e).2 ++ [(bR lk rs[j] (bL lk (rs.take j) ns e).1.1 (bL lk (rs.take j) ns e).1.2).2])
  | r :: l, ns, e, 0, h => by simp [bL]
  | r :: l, ns, e, j + 1, h => by
    simp only [List.take_succ_cons, bL, List.getElem_cons_succ]
    rw [bL_take lk l _ _ j (by simpa using h)]
    rfl
theorem bL_len (lk : Re → Int) : ∀ (rs : List Re) (ns : List Nd) (e : Int), (bL lk rs ns e).2.length = rs.length
  | [], ns, e => rfl
  | r :: l, ns, e => by simp only [bL, List.length_cons, bL_len lk l]
inductive InRe : Re → Prop
  | mk {k s0 s1 s2 s3 lo hi : Int} {neg : Bool} {rs : List Re} : InS ⟨s0, s1, s2, s3⟩ → (∀ p ∈ rs, InRe p) → InRe (.mk k s0 s1 s2 s3 rs lo hi neg)
theorem rep_in (r : Re) : ∀ {m : Mem} {cs : List Value}, RepRe m cs r → InRe r := by
  induction r using Re.ind with
  | h kd s0 s1 s2 s3 rs lo hi neg ih =>
    intro m cs h
    obtain ⟨A, n, c, rfl, hs, -, h0, h1, h2, h3, -⟩ := h.open
    refine .mk ⟨h0, h1, h2, h3⟩ fun p hp => ?_
    obtain ⟨i, hi, rfl⟩ := List.getElem_of_mem hp
    obtain ⟨a, cs', -, -, -, hr⟩ := hs.elem i _ (List.getElem?_eq_getElem hi)
    exact ih _ hp hr
def OkB (r : List Nd × Int) : Prop := OkA r.1 ∧ i64 r.2
theorem chain_i64 {kd : Int} : ∀ (l : List Int) (ns : List Nd) (out : Int), OkA ns → 0 ≤ kd ∧ kd ≤ 8 → (∀ z ∈ l, i64 z) → i64 out → i64 (chainN kd ns l out).2
  | [], _, _, _, _, _, h => h
  | z :: l, ns, out, hO, hk, hl, ho => chain_i64 l _ _ (okA_p hO (inN_P hk (hl z (by simp)) ho)) hk (fun y hy => hl y (by simp [hy])) (pN_i64 hO _)
theorem gput_i64 {ns : List Nd} (hO : OkA ns) (g : Bool) (l : List Int) : i64 (gputN g ns l).2 := by
  unfold gputN
  split
  · simp [i64]
  · rename_i ht
    have ht := there_ok ht
    have h2 := okA_wins (okA_nothing hO g) g
    have hpre := (nothing_pre g ns).trans (wins_pre g (nothingN g ns).1)
    have hw := wins_i64 (okA_nothing hO g) g
    have hno := nothing_i64 hO g
    generalize (winsN g (nothingN g ns).1).1 = ns2 at h2 hpre
    have hm := memN_ok h2 (kdG_or g) fun z hz => okId_pre hpre (ht z hz)
    have h3 := okA_gbytes h2 g (memN ns2 (kdG g) l)
    have hi := gbytes_i64 h2 g hm
    unfold restN
    split
    · exact hw
    · have hx : ∀ z ∈ (Lib.compact (sortI (dropI (nothingN g ns).2 (gbytesN g ns2 (memN ns2 (kdG g) l)).2))).reverse, i64 z := fun z hz => hi z (csd_mem (List.mem_reverse.1 hz))
      generalize (Lib.compact (sortI (dropI (nothingN g ns).2 (gbytesN g ns2 (memN ns2 (kdG g) l)).2))).reverse = xs at hx
      cases xs with
      | nil => exact hno
      | cons z xs => exact chain_i64 xs _ z h3 (kdG_le g) (fun y hy => hx y (by simp [hy])) (hx z (by simp))
theorem okB_or {ns : List Nd} (h : OkA ns) (g : Bool) (l : List Int) : OkB (gputN g ns l) := ⟨okA_gput h g l, gput_i64 h g l⟩
theorem okB_cat {ns : List Nd} (h : OkA ns) {x y : Int} (hx : i64 x) (hy : i64 y) : OkB (catN ns x y) := catF_i64 _ h hx hy
theorem okB_empty {ns : List Nd} (h : OkA ns) : OkB (emptyN ns) := ⟨okA_empty h, pN_i64 h _⟩
theorem okB_none {ns : List Nd} (h : OkA ns) : OkB (noneN ns) := ⟨okA_none h, pN_i64 h _⟩
theorem okB_not {ns : List Nd} (h : OkA ns) {x : Int} (hx : i64 x) : OkB (notN ns x) := by
  refine ⟨notN_ok h hx, ?_⟩
  unfold notN
  split
  · split
    · exact (nodeN_in h x).a
    · exact pN_i64 h _
  · simp [i64]
theorem okB_star {ns : List Nd} (h : OkA ns) {x : Int} (hx : i64 x) : OkB (starN ns x) := by
  refine ⟨starN_ok h hx, ?_⟩
  unfold starN
  split
  · split
    · exact pN_i64 h _
    split
    · exact hx
    · exact pN_i64 h _
  · simp [i64]
theorem okB_cats : ∀ (l : List Int) {ns : List Nd} {out : Int}, OkA ns → (∀ z ∈ l, i64 z) → i64 out → OkB (catsN ns l out)
  | [], _, _, h, _, ho => ⟨h, ho⟩
  | z :: l, ns, out, h, hl, ho => by
    have := okB_cat h (hl z (by simp)) ho
    exact okB_cats l this.1 (fun y hy => hl y (by simp [hy])) this.2
theorem okB_opt {x : Int} (hx : i64 x) : ∀ (n : Nat) {ns : List Nd} {out : Int}, OkA ns → i64 out → OkB (optN x n ns out)
  | 0, _, _, h, ho => ⟨h, ho⟩
  | n + 1, ns, out, h, ho => by
    have h1 := okB_cat (okA_empty h) hx ho
    have h2 := okB_or h1.1 false [(emptyN ns).2, (catN (emptyN ns).1 x out).2]
    exact okB_opt hx n h2.1 h2.2
theorem okB_rep {x : Int} (hx : i64 x) : ∀ (n : Nat) {ns : List Nd} {out : Int}, OkA ns → i64 out → OkB (repN x n ns out)
  | 0, _, _, h, ho => ⟨h, ho⟩
  | n + 1, ns, out, h, ho => by
    have h1 := okB_cat h hx ho
    exact okB_rep hx n h1.1 h1.2
theorem okB_times {ns : List Nd} (h : OkA ns) (lo hi : Int) {x : Int} (hx : i64 x) : OkB (timesN lo hi ns x) := by
  unfold timesN
  have h1 := okB_empty h
  have h2 : OkB (if hi < 0 then starN (emptyN ns).1 x else emptyN ns) := by
    split
    · exact okB_star h1.1 hx
    · exact h1
  have h3 := okB_opt hx (hi - lo).toNat h2.1 h2.2
  exact okB_rep hx lo.toNat h3.1 h3.2
theorem okB_looked {ns : List Nd} (h : OkA ns) (e k : Int) (neg : Bool) : OkB ((lookedN ns e k neg).1.1, (lookedN ns e k neg).2) := by
  unfold lookedN
  split
  · exact okB_none h
  · rename_i hk
    exact ⟨okA_p h ⟨by simp [i64], by simp [u64], by simp [u64], by simp [u64], by simp [u64], by unfold i64; simp only; omega, by simp [i64]⟩, pN_i64 h _⟩
mutual
theorem okB_R (lk : Re → Int) : ∀ (r : Re), InRe r → ∀ (ns : List Nd) (e : Int), OkA ns → OkB ((bR lk r ns e).1.1, (bR lk r ns e).2)
  | .mk k s0 s1 s2 s3 rs lo hi neg, hr, ns, e, h => by
    have hs : InS ⟨s0, s1, s2, s3⟩ := by cases hr; assumption
    have hp : ∀ p ∈ rs, InRe p := by cases hr; assumption
    have hL := okB_L lk rs hp
    rw [bR]
    split
    · exact okB_none h
    split
    · exact okB_empty h
    split
    · exact ⟨okA_bytes h hs, bytesN_i64 h _⟩
    split
    · have h1 := hL (emptyN ns).1 e (okA_empty h)
      exact okB_cats _ h1.1 (fun z hz => h1.2 z (List.mem_reverse.1 hz)) (pN_i64 h _)
    split
    · have h1 := hL ns e h
      exact okB_or h1.1 false _
    split
    · have h1 := hL ns e h
      exact okB_or h1.1 true _
    have hh : ∀ (l : List Int), (∀ z ∈ l, i64 z) → i64 (l.headD 0) := fun l hl => by
      cases l with
      | nil => simp [i64]
      | cons z l => exact hl z (by simp)
    split
    · have h1 := hL ns e h
      exact okB_not h1.1 (hh _ h1.2)
    split
    · have h1 := hL ns e h
      exact okB_times h1.1 lo hi (hh _ h1.2)
    · exact okB_looked h e _ neg
theorem okB_L (lk : Re → Int) : ∀ (l : List Re), (∀ p ∈ l, InRe p) → ∀ (ns : List Nd) (e : Int), OkA ns → OkA (bL lk l ns e).1.1 ∧ ∀ z ∈ (bL lk l ns e).2, i64 z
  | [], _, ns, e, h => ⟨h, by simp [bL]⟩
  | r :: l, hl, ns, e, h => by
    have h1 := okB_R lk r (hl r (by simp)) ns e h
    have h2 := okB_L lk l (fun p hp => hl p (by simp [hp])) (bR lk r ns e).1.1 (bR lk r ns e).1.2 h1.1
    rw [bL]
    refine ⟨h2.1, fun z hz => ?_⟩
    rcases List.mem_cons.1 hz with rfl | hz
    · exact h1.2
    · exact h2.2 z hz
end
end Go.Proofs.YtiololnblplloaaGreat.ar
namespace Go.Proofs.YtiololnblplloaaGreat.fo
open Go Go.Ev
abbrev Prt := List Int
abbrev Fml := List (List Int)
def subP (a b : Prt) : Prop := ∀ n ∈ a, n ∈ b
def Rises (p : Prt) : Prop := (∀ n ∈ p, 0 ≤ n) ∧ p.Pairwise (· < ·)
def lexB : Prt → Prt → Bool
  | a :: as1, b :: bs => if a = b then lexB as1 bs else decide (a < b)
  | _, _ => false
def lessP (a b : Prt) : Prop := a.length < b.length ∨ (a.length = b.length ∧ lexB a b = true)
theorem lex_irrefl : ∀ a, lexB a a = false
  | [] => rfl
  | a :: as1 => by rw [lexB, if_pos rfl]; exact lex_irrefl as1
theorem lex_trans : ∀ {a b c : Prt}, lexB a b = true → lexB b c = true → lexB a c = true
  | [], _, _, h, _ => by rw [lexB] at h; cases h; simp
  | _ :: _, [], _, h, _ => by rw [lexB] at h; cases h; simp
  | _ :: _, _ :: _, [], _, h => by rw [lexB] at h; cases h; simp
  | a :: as1, b :: bs, c :: cs, h1, h2 => by
    rw [lexB] at h1 h2 ⊢
    by_cases e1 : a = b
    · subst e1
      rw [if_pos rfl] at h1
      by_cases e2 : a = c
      · subst e2; rw [if_pos rfl] at h2 ⊢; exact lex_trans h1 h2
      · rw [if_neg e2] at h2 ⊢; exact h2
    · rw [if_neg e1] at h1
      have h1 := of_decide_eq_true h1
      by_cases e2 : b = c
      · subst e2; rw [if_neg e1]; exact decide_eq_true h1
      · rw [if_neg e2] at h2
        have h2 := of_decide_eq_true h2
        rw [if_neg (by omega)]
        exact decide_eq_true (by omega)
theorem lex_total : ∀ {a b : Prt}, a.length = b.length → lexB a b = true ∨ a = b ∨ lexB b a = true
  | [], [], _ => .inr (.inl rfl)
  | [], _ :: _, h => by simp at h
  | _ :: _, [], h => by simp at h
  | a :: as1, b :: bs, h => by
    rw [lexB, lexB]
    by_cases e : a = b
    · subst e
      rw [if_pos rfl, if_pos rfl]
      rcases lex_total (a := as1) (b := bs) (by simpa using h) with h | h | h
      · exact .inl h
      · exact .inr (.inl (by rw [h]))
      · exact .inr (.inr h)
    · rw [if_neg e, if_neg (fun h => e h.symm)]
      rcases Int.lt_or_gt_of_ne e with h | h
      · exact .inl (decide_eq_true h)
      · exact .inr (.inr (decide_eq_true h))
theorem less_irrefl (a : Prt) : ¬ lessP a a := by
  rintro (h | ⟨-, h⟩)
  · omega
  · rw [lex_irrefl] at h; cases h
theorem less_trans {a b c : Prt} (h1 : lessP a b) (h2 : lessP b c) : lessP a c := by
  rcases h1 with h1 | ⟨h1, k1⟩ <;> rcases h2 with h2 | ⟨h2, k2⟩
  · exact .inl (by omega)
  · exact .inl (by omega)
  · exact .inl (by omega)
  · exact .inr ⟨by omega, lex_trans k1 k2⟩
theorem less_total (a b : Prt) : lessP a b ∨ a = b ∨ lessP b a := by
  rcases Nat.lt_trichotomy a.length b.length with h | h | h
  · exact .inl (.inl h)
  · rcases lex_total h with k | k | k
    · exact .inl (.inr ⟨h, k⟩)
    · exact .inr (.inl k)
    · exact .inr (.inr (.inr ⟨h.symm, k⟩))
  · exact .inr (.inr (.inl h))
theorem Rises.tail {a : Int} {p : Prt} (h : Rises (a :: p)) : Rises p := ⟨fun n hn => h.1 n (by simp [hn]), (List.pairwise_cons.1 h.2).2⟩
theorem sub_list : ∀ {q p : Prt}, Rises p → Rises q → subP p q → p.Sublist q
  | [], [], _, _, _ => List.Sublist.refl _
  | [], a :: p, _, _, h => by have := h a (by simp); cases this
  | b :: q, [], _, _, _ => List.nil_sublist _
  | b :: q, a :: p, hp, hq, h => by
    have hpa := (List.pairwise_cons.1 hp.2).1
    have hqb := (List.pairwise_cons.1 hq.2).1
    by_cases e : a = b
    · subst e
      refine List.Sublist.cons_cons a (sub_list hp.tail hq.tail fun n hn => ?_)
      rcases List.mem_cons.1 (h n (by simp [hn])) with e | e
      · have := hpa n hn; omega
      · exact e
    · have hab : a ∈ q := by rcases List.mem_cons.1 (h a (by simp)) with k | k; exact absurd k e; exact k
      have hba := hqb a hab
      refine List.Sublist.cons b (sub_list hp hq.tail fun n hn => ?_)
      rcases List.mem_cons.1 (h n hn) with k | k
      · rcases List.mem_cons.1 hn with k2 | k2
        · omega
        · have := hpa n k2; omega
      · exact k
theorem list_sub {p q : Prt} (h : p.Sublist q) : subP p q := fun n hn => h.subset hn
theorem within_iff {p q : Prt} (hp : Rises p) (hq : Rises q) : p.isSublist q = true ↔ subP p q := by
  rw [List.isSublist_iff_sublist]
  exact ⟨list_sub, sub_list hp hq⟩
structure FormedP (f : Fml) : Prop where
  rises : ∀ p ∈ f, Rises p
  less : f.Pairwise lessP
  apart : f.Pairwise fun a b => ¬ subP a b
theorem FormedP.nil : FormedP [] := ⟨fun _ h => by (cases h), .nil, .nil⟩
theorem FormedP.sub {f g : Fml} (h : FormedP f) (hs : g.Sublist f) : FormedP g := ⟨fun p hp => h.rises p (hs.subset hp), h.less.sublist hs, h.apart.sublist hs⟩
theorem FormedP.snoc {g : Fml} {p : Prt} (h : FormedP g) (hp : Rises p) (hl : ∀ q, g.getLast? = some q → lessP q p) (ha : ∀ q ∈ g, ¬ subP q p) : FormedP (g ++ [p]) := by
  refine ⟨fun q hq => ?_, List.pairwise_append.2 ⟨h.less, List.pairwise_singleton _ _, fun a ha b hb => ?_⟩, List.pairwise_append.2 ⟨h.apart, List.pairwise_singleton _ _, fun a ha' b hb => by rw [List.mem_singleton.1 hb]; exact ha a ha'⟩⟩
  · rcases List.mem_append.1 hq with hq | hq
    · exact h.rises q hq
    · rw [List.mem_singleton.1 hq]; exact hp
  · rw [List.mem_singleton.1 hb]
    cases hg : g.getLast? with
    | none => rw [List.getLast?_eq_none_iff] at hg; subst hg; cases ha
    | some q =>
      have hq := hl q hg
      obtain ⟨g', rfl⟩ := List.getLast?_eq_some_iff.1 hg
      rcases List.mem_append.1 ha with ha | ha
      · exact less_trans ((List.pairwise_append.1 h.less).2.2 a ha q (by simp)) hq
      · rw [List.mem_singleton.1 ha]; exact hq
theorem FormedP.one {f : Fml} (h : FormedP f) {p q : Prt} (hp : p ∈ f) (hq : q ∈ f) (hs : subP q p) : q = p := by
  obtain ⟨i, hi, rfl⟩ := List.getElem_of_mem hp
  obtain ⟨k, hk, rfl⟩ := List.getElem_of_mem hq
  rcases Nat.lt_trichotomy k i with h1 | h1 | h1
  · exact absurd hs (List.pairwise_iff_getElem.1 h.apart k i hk hi h1)
  · subst h1; rfl
  · have hl := List.pairwise_iff_getElem.1 h.less i k hi hk h1
    have hsl := sub_list (h.rises _ hq) (h.rises _ hp) hs
    have hlen := hsl.length_le
    refine hsl.eq_of_length ?_
    rcases hl with hl | hl
    · omega
    · omega
def holdsP (f : Fml) (S : Prt) : Prop := ∃ p ∈ f, subP p S
def addM (out : Fml) (p : Prt) : Fml := if (out.any fun q => q.isSublist p) = true then out else out ++ [p]
def mini (l : Fml) : Fml := l.foldl addM []
theorem mini_snoc (l : Fml) (p : Prt) : mini (l ++ [p]) = addM (mini l) p := by unfold mini; rw [List.foldl_append]; rfl
structure Canon (l r : Fml) : Prop where
  formed : FormedP r
  mem : ∀ q ∈ r, q ∈ l
  holds : ∀ S, holdsP r S ↔ holdsP l S
theorem mini_take {l : Fml} (hr : ∀ p ∈ l, Rises p) (hs : l.Pairwise fun a b => ¬ lessP b a) : ∀ n, n ≤ l.length → FormedP (mini (l.take n)) ∧ (∀ q ∈ mini (l.take n), q ∈ l.take n) ∧ ∀ p ∈ l.take n, ∃ q ∈ mini (l.take n), subP q p
  | 0, _ => ⟨by rw [List.take_zero]; exact FormedP.nil, by simp [mini], by simp⟩
  | n + 1, hn => by
    obtain ⟨h1, h2, h3⟩ := mini_take hr hs n (by omega)
    have htk : l.take (n + 1) = l.take n ++ [l[n]] := by rw [List.take_add_one, List.getElem?_eq_getElem (by omega)]; rfl
    have hp : Rises l[n] := hr _ (List.getElem_mem _)
    have hord : ∀ q ∈ l.take n, ¬ lessP l[n] q := fun q hq => by
      obtain ⟨i, hi, rfl⟩ := List.getElem_of_mem hq
      rw [List.length_take] at hi
      rw [List.getElem_take]
      exact List.pairwise_iff_getElem.1 hs i n (by omega) (by omega) (by omega)
    rw [htk, mini_snoc]
    generalize l[n] = p at *
    unfold addM
    by_cases ha : ((mini (l.take n)).any fun q => q.isSublist p) = true
    · rw [if_pos ha]
      obtain ⟨q, hq, hqp⟩ := List.any_eq_true.1 ha
      refine ⟨h1, fun q hq => List.mem_append_left _ (h2 q hq), fun x hx => ?_⟩
      rcases List.mem_append.1 hx with hx | hx
      · exact h3 x hx
      · rw [List.mem_singleton.1 hx]; exact ⟨q, hq, list_sub (List.isSublist_iff_sublist.1 hqp)⟩
    · rw [if_neg ha]
      have hno : ∀ q ∈ mini (l.take n), ¬ subP q p := fun q hq hs2 => ha (List.any_eq_true.2 ⟨q, hq, (within_iff (h1.rises q hq) hp).2 hs2⟩)
      refine ⟨h1.snoc hp (fun q hq => ?_) hno, fun q hq => ?_, fun x hx => ?_⟩
      · have hqm := List.mem_of_getLast? hq
        rcases less_total q p with h | h | h
        · exact h
        · subst h; exact absurd (fun _ h => h) (hno q hqm)
        · exact absurd h (hord q (h2 q hqm))
      · rcases List.mem_append.1 hq with hq | hq
        · exact List.mem_append_left _ (h2 q hq)
        · exact List.mem_append_right _ hq
      · rcases List.mem_append.1 hx with hx | hx
        · obtain ⟨q, hq, hs2⟩ := h3 x hx; exact ⟨q, List.mem_append_left _ hq, hs2⟩
        · rw [List.mem_singleton.1 hx]; exact ⟨p, by simp, fun _ h => h⟩
theorem mini_canon {l : Fml} (hr : ∀ p ∈ l, Rises p) (hs : l.Pairwise fun a b => ¬ lessP b a) : Canon l (mini l) := by
  obtain ⟨h1, h2, h3⟩ := mini_take hr hs l.length (Nat.le_refl _)
  rw [List.take_length] at h1 h2 h3
  refine ⟨h1, h2, fun S => ⟨fun ⟨p, hp, hS⟩ => ⟨p, h2 p hp, hS⟩, fun ⟨p, hp, hS⟩ => ?_⟩⟩
  obtain ⟨q, hq, hqp⟩ := h3 p hp
  exact ⟨q, hq, fun n hn => hS n (hqp n hn)⟩
theorem Canon.perm {l l' r : Fml} (h : Canon l r) (hp : l.Perm l') : Canon l' r :=
  ⟨h.formed, fun q hq => hp.mem_iff.1 (h.mem q hq), fun S => (h.holds S).trans ⟨fun ⟨p, hm, hs⟩ => ⟨p, hp.mem_iff.1 hm, hs⟩, fun ⟨p, hm, hs⟩ => ⟨p, hp.mem_iff.2 hm, hs⟩⟩⟩
theorem nodup_le : ∀ (n : Nat) (l : List Nat), l.Nodup → (∀ x ∈ l, x < n) → l.length ≤ n
  | 0, l, _, h => by cases l with | nil => simp | cons a l => exact absurd (h a (by simp)) (by omega)
  | n + 1, l, hn, h => by
    have h1 := nodup_le n (l.erase n) (hn.erase n) fun x hx => by
      have := h x (List.mem_of_mem_erase hx)
      have hne : x ≠ n := fun e => by subst e; exact hn.not_mem_erase hx
      omega
    have := List.length_erase (a := n) (l := l)
    split at this <;> omega
end Go.Proofs.YtiololnblplloaaGreat.fo
