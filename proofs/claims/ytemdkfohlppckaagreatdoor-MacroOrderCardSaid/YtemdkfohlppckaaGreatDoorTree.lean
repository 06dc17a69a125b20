/- Patterns: what is read as one, and the functions over them: deep, count, clone. Conditions: none. -/
import Derived.Test.YtemdkfohlppckaaGreatDoorEv
import Derived.Test.YtemdkfohlppckaaGreatDoorTab

namespace Go.Proofs.YtemdkfohlppckaaGreatDoor.tree
open Go Go.Ev Go.Proofs

/-- A pattern. -/
inductive Re where
  | mk (kind s0 s1 s2 s3 : Int) (parts : List Re) (lo hi : Int) (neg : Bool)

def Re.kind : Re → Int | .mk k _ _ _ _ _ _ _ _ => k
def Re.parts : Re → List Re | .mk _ _ _ _ _ p _ _ _ => p
def Re.lo : Re → Int | .mk _ _ _ _ _ _ l _ _ => l
def Re.hi : Re → Int | .mk _ _ _ _ _ _ _ h _ => h
def Re.neg : Re → Bool | .mk _ _ _ _ _ _ _ _ n => n

/-- A pattern's cells. -/
def reC (k s0 s1 s2 s3 : Int) (v : Value) (lo hi : Int) (neg : Bool) : List Value :=
  [.int .i64 k, .int .u64 s0, .int .u64 s1, .int .u64 s2, .int .u64 s3, v, .int .i64 lo, .int .i64 hi, .bool neg]

def inI (z : Int) : Prop := -9223372036854775808 ≤ z ∧ z ≤ 9223372036854775807
def inU (z : Int) : Prop := 0 ≤ z ∧ z ≤ 18446744073709551615

/-- These cells read as this pattern. -/
inductive RepRe (m : Mem) : List Value → Re → Prop
  | mk (k s0 s1 s2 s3 lo hi : Int) (neg : Bool) (A : Option Addr) (n c : Nat) (rs : List Re) (css : Nat → List Value)
      (hk : inI k) (h0 : inU s0) (h1 : inU s1) (h2 : inU s2) (h3 : inU s3) (hlo : inI lo) (hhi : inI hi)
      (hn : n = rs.length) (hc : n ≤ c) (hm : c ≤ maxLen)
      (hcell : ∀ i, i < n → ∃ a, A = some a ∧ (css i).length = 9 ∧ Cells m (a.add (scale i 9)) (css i))
      (hrep : ∀ i r, rs[i]? = some r → RepRe m (css i) r) :
      RepRe m (reC k s0 s1 s2 s3 (.slice A n c) lo hi neg) (.mk k s0 s1 s2 s3 rs lo hi neg)

theorem RepRe.len {m : Mem} {cs : List Value} {r : Re} (h : RepRe m cs r) : cs.length = 9 := by cases h; rfl

theorem RepRe.le {m m' : Mem} (hm : Mem.Le m m') {cs : List Value} {r : Re} (h : RepRe m cs r) : RepRe m' cs r := by
  induction h with
  | mk k s0 s1 s2 s3 lo hi neg A n c rs css hk h0 h1 h2 h3 hlo hhi hn hc hmx hcell _ ih =>
    exact .mk k s0 s1 s2 s3 lo hi neg A n c rs css hk h0 h1 h2 h3 hlo hhi hn hc hmx (fun i hi => by obtain ⟨a, g1, g2, g3⟩ := hcell i hi; exact ⟨a, g1, g2, g3.le hm⟩) ih

/-- A pattern that is read, taken apart. -/
theorem RepRe.open {m : Mem} {cs : List Value} {k s0 s1 s2 s3 lo hi : Int} {neg : Bool} {rs : List Re} (h : RepRe m cs (.mk k s0 s1 s2 s3 rs lo hi neg)) :
    ∃ A n c, cs = reC k s0 s1 s2 s3 (.slice A n c) lo hi neg ∧ Sl m 9 (RepRe m) (.slice A n c) rs ∧ (inI k ∧ inU s0 ∧ inU s1 ∧ inU s2 ∧ inU s3 ∧ inI lo ∧ inI hi) := by
  cases h with
  | mk _ _ _ _ _ _ _ _ A n c _ css hk h0 h1 h2 h3 hlo hhi hn hc hmx hcell hrep =>
    refine ⟨A, n, c, rfl, ⟨A, n, c, rfl, hn, hc, hmx, fun i x hx => ?_⟩, hk, h0, h1, h2, h3, hlo, hhi⟩
    have hi : i < n := by rw [hn]; exact (List.getElem?_eq_some_iff.1 hx).1
    obtain ⟨a, g1, g2, g3⟩ := hcell i hi
    exact ⟨a, css i, g1, g2, g3, hrep i x hx⟩

theorem RepRe.form {m : Mem} {cs : List Value} {r : Re} (h : RepRe m cs r) : ∃ k s0 s1 s2 s3 A n c lo hi neg, cs = reC k s0 s1 s2 s3 (.slice A n c) lo hi neg := by
  cases h; exact ⟨_, _, _, _, _, _, _, _, _, _, _, rfl⟩

theorem RepRe.shut {m : Mem} {k s0 s1 s2 s3 lo hi : Int} {neg : Bool} {rs : List Re} {A : Option Addr} {n c : Nat} (h : Sl m 9 (RepRe m) (.slice A n c) rs)
    (hr : inI k ∧ inU s0 ∧ inU s1 ∧ inU s2 ∧ inU s3 ∧ inI lo ∧ inI hi) : RepRe m (reC k s0 s1 s2 s3 (.slice A n c) lo hi neg) (.mk k s0 s1 s2 s3 rs lo hi neg) := by
  obtain ⟨hn, hc, hmx⟩ := h.lens
  have he := h.elem
  obtain ⟨hk, h0, h1, h2, h3, hlo, hhi⟩ := hr
  have : ∃ css : Nat → List Value, ∀ i x, rs[i]? = some x → ∃ a, A = some a ∧ (css i).length = 9 ∧ Cells m (a.add (scale i 9)) (css i) ∧ RepRe m (css i) x := by
    refine ⟨fun i => if hi : i < rs.length then Classical.choose (Classical.choose_spec (he i rs[i] (List.getElem?_eq_getElem hi))) else [], fun i x hx => ?_⟩
    obtain ⟨hi, rfl⟩ := List.getElem?_eq_some_iff.1 hx
    have := Classical.choose_spec (Classical.choose_spec (he i rs[i] (List.getElem?_eq_getElem hi)))
    simp only [dif_pos hi]
    exact ⟨_, this⟩
  obtain ⟨css, hcss⟩ := this
  refine .mk k s0 s1 s2 s3 lo hi neg A n c rs css hk h0 h1 h2 h3 hlo hhi hn hc hmx (fun i hi => ?_) (fun i r hr => (hcss i r hr).choose_spec.2.2.2)
  obtain ⟨a, g1, g2, g3, _⟩ := hcss i _ (List.getElem?_eq_getElem (by omega))
  exact ⟨a, g1, g2, g3⟩

/-- What came in reads as a pattern. -/
theorem re_of {m : Mem} : ∀ (n : Nat) (cs : List Value), Rdf X m n 36 cs → ∃ r, RepRe m cs r := by
  intro n
  induction n using Nat.strongRecOn with
  | ind n ih =>
    intro cs h
    obtain ⟨hl, n', hn', hf⟩ := rdf_structL (ti := ⟨.struct [(0, 3), (1, 33), (5, 34), (6, 3), (7, 3), (8, 4)], 9, 88, [.int .i64 0, .int .u64 0, .int .u64 0, .int .u64 0, .int .u64 0, .slice none 0 0, .int .i64 0, .int .i64 0, .bool false]⟩) rfl rfl h
    match cs, hl with
    | [x0, x1, x2, x3, x4, x5, x6, x7, x8], _ =>
      obtain ⟨k, e0, hk⟩ := rdf_int (k := .i64) rfl rfl (hf 0 _ _ rfl rfl)
      obtain ⟨lo, e6, hlo⟩ := rdf_int (k := .i64) rfl rfl (hf 3 _ _ rfl rfl)
      obtain ⟨hi, e7, hhi⟩ := rdf_int (k := .i64) rfl rfl (hf 4 _ _ rfl rfl)
      obtain ⟨neg, e8⟩ := rdf_bool rfl rfl (hf 5 _ _ rfl rfl)
      obtain ⟨_, n2, _, ha⟩ := rdf_arrayL (k := 4) (e := 31) (te := ⟨.int .u64, 1, 8, [.int .u64 0]⟩) rfl rfl rfl (hf 1 _ _ rfl rfl)
      obtain ⟨s0, e1, h0⟩ := rdf_int (k := .u64) rfl rfl (ha 0 (by omega))
      obtain ⟨s1, e2, h1⟩ := rdf_int (k := .u64) rfl rfl (ha 1 (by omega))
      obtain ⟨s2, e3, h2⟩ := rdf_int (k := .u64) rfl rfl (ha 2 (by omega))
      obtain ⟨s3, e4, h3⟩ := rdf_int (k := .u64) rfl rfl (ha 3 (by omega))
      obtain ⟨A, len, c, l, e5, hs, _⟩ := rdf_sliceL (R := RepRe m) (te := ⟨.struct [(0, 3), (1, 33), (5, 34), (6, 3), (7, 3), (8, 4)], 9, 88, [.int .i64 0, .int .u64 0, .int .u64 0, .int .u64 0, .int .u64 0, .slice none 0 0, .int .i64 0, .int .i64 0, .bool false]⟩)
        rfl rfl rfl (fun n3 cs h3 _ h => ih n3 (by omega) cs h) (hf 2 _ _ rfl rfl)
      have e0 : [x0] = [Value.int .i64 k] := e0
      have e1 : [x1] = [Value.int .u64 s0] := e1
      have e2 : [x2] = [Value.int .u64 s1] := e2
      have e3 : [x3] = [Value.int .u64 s2] := e3
      have e4 : [x4] = [Value.int .u64 s3] := e4
      have e5 : [x5] = [Value.slice A len c] := e5
      have e6 : [x6] = [Value.int .i64 lo] := e6
      have e7 : [x7] = [Value.int .i64 hi] := e7
      have e8 : [x8] = [Value.bool neg] := e8
      cases e0; cases e1; cases e2; cases e3; cases e4; cases e5; cases e6; cases e7; cases e8
      exact ⟨_, RepRe.shut hs ⟨hk, h0, h1, h2, h3, hlo, hhi⟩⟩

/-- How deep, as far as so many levels. -/
def deepR : Nat → Re → Nat
  | 0, _ => 1
  | k + 1, r => (r.parts.map (deepR k)).foldl max 0 + 1

theorem foldl_max_le {B : Nat} : ∀ (l : List Nat) (a : Nat), a ≤ B → (∀ x ∈ l, x ≤ B) → l.foldl max a ≤ B := by
  intro l
  induction l with
  | nil => intro a h _; exact h
  | cons x l ih => intro a h hx; exact ih _ (Nat.max_le.2 ⟨h, hx x (by simp)⟩) fun y hy => hx y (by simp [hy])

theorem deepR_le : ∀ (k : Nat) (r : Re), deepR k r ≤ k + 1 := by
  intro k
  induction k with
  | zero => intro r; simp [deepR]
  | succ k ih =>
    intro r
    simp only [deepR]
    have := foldl_max_le (B := k + 1) (r.parts.map (deepR k)) 0 (by omega) (by intro x hx; obtain ⟨p, _, rfl⟩ := List.mem_map.1 hx; exact ih p)
    omega
theorem deepR_pos (k : Nat) (r : Re) : 1 ≤ deepR k r := by cases k <;> simp [deepR]

/-- The greatest of the first ones. -/
def maxTo (f : Re → Nat) (rs : List Re) (k : Nat) : Nat := ((rs.take k).map f).foldl max 0
theorem maxTo_succ (f : Re → Nat) (rs : List Re) (k : Nat) (h : k < rs.length) : maxTo f rs (k + 1) = max (maxTo f rs k) (f rs[k]) := by
  unfold maxTo
  rw [List.take_succ_eq_append_getElem h]
  simp only [List.map_append, List.foldl_append, List.map_cons, List.map_nil, List.foldl_cons, List.foldl_nil]
theorem maxTo_le {f : Re → Nat} {B : Nat} (rs : List Re) (k : Nat) (h : ∀ r, f r ≤ B) : maxTo f rs k ≤ B :=
  foldl_max_le _ _ (Nat.zero_le _) (by intro x hx; obtain ⟨p, _, rfl⟩ := List.mem_map.1 hx; exact h p)

theorem deep_fn : ∀ (k : Nat) (m : Mem) (r : Re) (cs : List Value), RepRe m cs r → k ≤ 1000 → FnV Tryz.prog 44 [.agg (toArr cs), .int .i64 k] m (.int .i64 (deepR k r : Nat)) := by
  intro k
  induction k with
  | zero =>
    intro m r cs h _
    obtain ⟨kd, s0, s1, s2, s3, rs, lo, hi, neg⟩ := r
    obtain ⟨A, n, c, rfl, hs, _⟩ := h.open
    refine Fn.enter (N := 26) hX Tryz.func44 rfl rfl (by show _ ≤ _; simp) (fun w0 hL => ?_)
    conv => whnf
    refine NewReq.mk hL ?_
    clear hL
    intro b2 w hL
    conv => whnf
    conv => whnf
    repeat ((first | refine zT ?_ | refine zF ?_ | refine zL hX hL ?_ | refine zB hX hL ?_ | (refine zS hX hL ?_; clear hL; intro w hL) | refine zI ?_ | refine zG hX ?_ | refine zO ?_); conv => whnf)
    exact RetReq.mk hL.drop ⟨rfl, rfl⟩
  | succ k ih =>
    intro m r cs h hk
    obtain ⟨kd, s0, s1, s2, s3, rs, lo, hi, neg⟩ := r
    obtain ⟨A, n, c, rfl, hs, _⟩ := h.open
    obtain ⟨hn, hc, hm⟩ := hs.lens
    have hmx : maxLen = 9223372036854775807 := rfl
    have he := hs.elem
    refine Fn.enter (N := 26) hX Tryz.func44 rfl rfl (by show _ ≤ _; simp) (fun w0 hL => ?_)
    conv => whnf
    refine NewReq.mk hL ?_
    clear hL
    intro b2 w hL
    conv => whnf
    conv => whnf
    repeat ((first | refine zT ?_ | refine zF ?_ | refine zL hX hL ?_ | refine zB hX hL ?_ | (refine zS hX hL ?_; clear hL; intro w hL) | refine zI ?_ | refine zG hX ?_ | refine zO ?_); conv => whnf)
    refine LoopReq.inv hX (fun j : Nat => [(5, .int .i64 (maxTo (deepR k) rs j : Nat)), (13, .int .i64 j)]) [1, 11, 12]
      (fun j w => j ≤ n ∧ Ev.Loc m [] w0 m [] w) (fun j => n - j) 0 ⟨by omega, hL.drop⟩ ⟨rfl, rfl, trivial⟩ ?_
    clear hL
    rintro j w f ⟨hj, hL⟩
    have hmax := maxTo_le (B := k + 1) rs j (deepR_le k)
    conv => whnf
    repeat ((first | refine zT ?_ | refine zF ?_ | refine zL hX hL ?_ | refine zB hX hL ?_ | (refine zS hX hL ?_; clear hL; intro w hL) | refine zI ?_ | refine zG hX ?_ | refine zO ?_); conv => whnf)
    refine BrReq.dec (fun hlt => ?_) (fun hlt => ?_)
    · have hlt' : j < rs.length := by omega
      obtain ⟨a, cs', rfl, hl9, hcells, hrep⟩ := he j _ (List.getElem?_eq_getElem hlt')
      obtain ⟨k1, u0, u1, u2, u3, A1, n1, c1, lo1, hi1, neg1, rfl⟩ := hrep.form
      conv => whnf
      repeat ((first | refine Idx2Req.mk j a rfl (by omega) rfl ?_ | refine LdReq.agg hX rfl rfl hL hl9 hcells ?_ | refine zT ?_ | refine zF ?_ | refine zL hX hL ?_ | refine zB hX hL ?_ | (refine zS hX hL ?_; clear hL; intro w hL) | refine zI ?_ | refine zG hX ?_ | refine zO ?_); conv => whnf)
      refine NewReq.mk hL ?_
      clear hL
      intro b7 w hL
      conv => whnf
      conv => whnf
      repeat ((first | refine zT ?_ | refine zF ?_ | refine zL hX hL ?_ | refine zB hX hL ?_ | (refine zS hX hL ?_; clear hL; intro w hL) | refine zI ?_ | refine zG hX ?_ | refine zO ?_); conv => whnf)
      rw [show ((k + 1 : Nat) : Int) - 1 = (k : Int) by omega]
      refine CallReq.val (ih m _ _ hrep (by omega)) hL ?_
      clear hL
      intro w hL
      conv => whnf
      repeat ((first | refine zT ?_ | refine zF ?_ | refine zL hX hL ?_ | refine zB hX hL ?_ | (refine zS hX hL ?_; clear hL; intro w hL) | refine zI ?_ | refine zG hX ?_ | refine zO ?_); conv => whnf)
      have hsc := maxTo_succ (deepR k) rs j hlt'
      refine ⟨j + 1, ⟨by omega, hL.drop⟩, by first | omega | (simp only; omega) | (simp only [List.length_cons, List.length_append]; omega), ?_, ?_⟩
      · repeat (first | exact trivial | (refine And.intro (by (conv => lhs; whnf) <;> (conv => rhs; whnf) <;> (first | rfl | (rw [hsc]; congr 1; omega))) ?_))
      · repeat (first | exact trivial | (refine And.intro (by (conv => lhs; whnf) <;> (conv => rhs; whnf) <;> (first | rfl | (rw [hsc]; congr 1; omega))) ?_))
    conv => whnf
    repeat ((first | refine zT ?_ | refine zF ?_ | refine zL hX hL ?_ | refine zB hX hL ?_ | (refine zS hX hL ?_; clear hL; intro w hL) | refine zI ?_ | refine zG hX ?_ | refine zO ?_); conv => whnf)
    have hjn : j = rs.length := by omega
    subst hjn
    have e : deepR (k + 1) (.mk kd s0 s1 s2 s3 rs lo hi neg) = maxTo (deepR k) rs rs.length + 1 := by simp [maxTo, deepR, Re.parts]
    exact RetReq.mk hL ⟨rfl, by rw [e]; rfl⟩

/-- How many nodes, up to so many levels, as the law counts. -/
def loopC (f : Re → Nat) : List Re → Nat → Nat
  | [], n => n
  | p :: l, n => if 2000 < n + f p then n + f p else loopC f l (n + f p)
def cR : Nat → Re → Nat
  | 0, _ => 5000
  | k + 1, r => loopC (cR k) r.parts 1

theorem loopC_ge (f : Re → Nat) : ∀ (l : List Re) (n : Nat), n ≤ loopC f l n := by
  intro l
  induction l with
  | nil => intro n; exact Nat.le_refl n
  | cons p l ih => intro n; simp only [loopC]; split; · omega
                   · have := ih (n + f p); omega
theorem loopC_le {f : Re → Nat} {B : Nat} (hf : ∀ p, f p ≤ B) : ∀ (l : List Re) (n : Nat), n ≤ 2000 → loopC f l n ≤ 2000 + B := by
  intro l
  induction l with
  | nil => intro n h; simp only [loopC]; omega
  | cons p l ih => intro n h; have := hf p; simp only [loopC]; split; · omega
                   · exact ih _ (by omega)
theorem cR_le : ∀ (k : Nat) (r : Re), cR k r ≤ 5000 + 2000 * k := by
  intro k
  induction k with
  | zero => intro r; simp [cR]
  | succ k ih => intro r; simp only [cR]; have := loopC_le ih r.parts 1 (by omega); omega
theorem cR_pos (k : Nat) (r : Re) : 1 ≤ cR k r := by
  cases k with
  | zero => simp [cR]
  | succ k => exact loopC_ge _ _ _
theorem loopC_small {f : Re → Nat} (hf : ∀ p, 1 ≤ f p) : ∀ (l : List Re) (n : Nat), loopC f l n ≤ 2000 → n + l.length ≤ 2000 ∧ ∀ p ∈ l, f p ≤ 2000 := by
  intro l
  induction l with
  | nil => intro n h; simpa [loopC] using h
  | cons p l ih =>
    intro n h
    simp only [loopC] at h
    have h1 := hf p
    split at h
    · omega
    · obtain ⟨h2, h3⟩ := ih _ h
      refine ⟨by simp; omega, fun q hq => ?_⟩
      rcases List.mem_cons.1 hq with rfl | hq
      · omega
      · exact h3 q hq

/-- No node has too many parts. -/
inductive Small : Re → Prop
  | mk (k s0 s1 s2 s3 : Int) (rs : List Re) (lo hi : Int) (neg : Bool) (h : rs.length ≤ 2000) (hp : ∀ p ∈ rs, Small p) : Small (.mk k s0 s1 s2 s3 rs lo hi neg)
theorem small_of : ∀ (k : Nat) (r : Re), cR k r ≤ 2000 → Small r := by
  intro k
  induction k with
  | zero => intro r h; simp [cR] at h
  | succ k ih =>
    intro r h
    obtain ⟨kd, s0, s1, s2, s3, rs, lo, hi, neg⟩ := r
    obtain ⟨h1, h2⟩ := loopC_small (cR_pos k) _ _ h
    exact .mk _ _ _ _ _ _ _ _ _ (by simp only [Re.parts] at h1; omega) fun p hp => ih p (h2 p hp)

/-- A pattern whose parts lie in a block of one's own; theirs are handed over. -/
def OwnRe (m : Mem) (L : Own) (u : Value) (r : Re) : Prop := match r with
  | .mk k s0 s1 s2 s3 rs lo hi neg => ∃ g blk, u = .agg (toArr (reC k s0 s1 s2 s3 (.slice (some ⟨g, 0, none⟩) rs.length rs.length) lo hi neg)) ∧ L = [(g, .cells (toArr (List.flatten blk)) 36 (0, 0))] ∧
      blk.length = rs.length ∧ (∀ r ∈ blk, r.length = 9) ∧ rs.length ≤ maxLen ∧ (∀ (i : Nat) (x : Re), rs[i]? = some x → ∃ cs, blk[i]? = some cs ∧ RepRe m cs x) ∧
      (inI k ∧ inU s0 ∧ inU s1 ∧ inU s2 ∧ inU s3 ∧ inI lo ∧ inI hi)

theorem OwnRe.freeze {m0 m : Mem} {S : List Nat} {w0 w : World} {L1 L2 : Own} {u : Value} {r : Re} (h : OwnRe m L1 u r) (hL : Ev.Loc m0 S w0 m (L1 ++ L2) w) :
    ∃ m' cs, Ev.Loc m0 S w0 m' L2 w ∧ Mem.Le m m' ∧ u = .agg (toArr cs) ∧ RepRe m' cs r := by
  obtain ⟨k, s0, s1, s2, s3, rs, lo, hi, neg⟩ := r
  obtain ⟨g, blk, rfl, rfl, h1, h2, h3, h4, h5⟩ := h
  obtain ⟨m', h6, h7, h8⟩ := rows_freeze (L := L2) (R := RepRe m) hL rfl (Nat.le_refl _) h3 h2 h4
  exact ⟨m', _, h6, h7, rfl, RepRe.shut (h8.le (Mem.Le.refl m') fun cs x _ hx => hx.le h7) h5⟩

set_option maxHeartbeats 1000000 in
theorem clone_fn' : ∀ (N : Nat) (m : Mem) (r : Re) (cs : List Value), SizeOf.sizeOf r ≤ N → RepRe m cs r → Small r → Ev.Fn Tryz.prog 47 [.agg (toArr cs)] m [] fun m' L' u => OwnRe m' L' u r := by
  intro N
  induction N with
  | zero => intro m r cs hN; obtain ⟨kd, s0, s1, s2, s3, rs, lo, hi, neg⟩ := r; simp at hN
  | succ N ih =>
    intro m r cs hN h hsm
    obtain ⟨kd, s0, s1, s2, s3, rs, lo, hi, neg⟩ := r
    obtain ⟨A, n, c, rfl, hs, hrng⟩ := h.open
    obtain ⟨hn, hc, hm⟩ := hs.lens
    have hmx : maxLen = 9223372036854775807 := rfl
    have he := hs.elem
    have hsub : rs.length ≤ 2000 ∧ ∀ p ∈ rs, Small p := by cases hsm; exact ⟨by assumption, by assumption⟩
    refine Fn.enter (N := 27) hX Tryz.func47 rfl rfl (by show _ ≤ _; simp) (fun w0 hL => ?_)
    conv => whnf
    refine NewReq.mk hL ?_
    clear hL
    intro b1 w hL
    conv => whnf
    refine NewReq.mk hL ?_
    clear hL
    intro b2 w hL
    conv => whnf
    conv => whnf
    repeat ((first | refine zT ?_ | refine zF ?_ | refine zL hX hL ?_ | refine zB hX hL ?_ | (refine zS hX hL ?_; clear hL; intro w hL) | refine zI ?_ | refine zG hX ?_ | refine zO ?_); conv => whnf)
    refine RunReq.make hX rfl rfl rfl rfl n n rfl rfl (Nat.le_refl _) (by omega) rfl hL ?_
    clear hL
    intro g w hL
    rw [zeros_rows] at hL
    conv => whnf
    repeat ((first | refine zT ?_ | refine zF ?_ | refine zL hX hL ?_ | refine zB hX hL ?_ | (refine zS hX hL ?_; clear hL; intro w hL) | refine zI ?_ | refine zG hX ?_ | refine zO ?_); conv => whnf)
    refine LoopReq.inv hX (fun j : Nat => [(13, .int .i64 j)]) [1, 2, 3, 11, 12]
      (fun j w => j ≤ n ∧ ∃ m1 blk, Mem.Le m m1 ∧ List.length blk = n ∧ (∀ r ∈ blk, r.length = 9) ∧ (∀ (i : Nat) (x : Re), rs[i]? = some x → i < j → ∃ cs, blk[i]? = some cs ∧ RepRe m1 cs x) ∧
        Ev.Loc m [] w0 m1 [(g, .cells (toArr (List.flatten blk)) 36 (0, 0)), (b2, .cells (toArr (reC 0 0 0 0 0 (.slice none 0 0) 0 0 false)) 36 (0, 0)), (b1, .cells (toArr (reC kd s0 s1 s2 s3 (.slice A n c) lo hi neg)) 36 (0, 0))] w) (fun j => n - j) 0
      ⟨by omega, m, _, Mem.Le.refl m, by simp, by intro r hr; rw [(List.mem_replicate.1 hr).2]; rfl, fun i x _ h => absurd h (by omega), hL⟩ ⟨rfl, trivial⟩ ?_
    clear hL
    rintro j w f ⟨hj, m1, blk, hm1, hbl, hrows, hdone, hL⟩
    conv => whnf
    repeat ((first | refine zT ?_ | refine zF ?_ | refine zL hX hL ?_ | refine zB hX hL ?_ | (refine zS hX hL ?_; clear hL; intro w hL) | refine zI ?_ | refine zG hX ?_ | refine zO ?_); conv => whnf)
    refine BrReq.dec (fun hlt => ?_) (fun hlt => ?_)
    · have hlt' : j < rs.length := by omega
      obtain ⟨a, cs', rfl, hl9, hcells, hrep⟩ := he j _ (List.getElem?_eq_getElem hlt')
      obtain ⟨k1, u0, u1, u2, u3, A1, n1, c1, lo1, hi1, neg1, rfl⟩ := hrep.form
      have hsz : SizeOf.sizeOf rs[j] ≤ N := by
        have := List.sizeOf_lt_of_mem (List.getElem_mem hlt')
        simp at hN
        omega
      conv => whnf
      repeat ((first | refine Idx2Req.mk j a rfl (by omega) rfl ?_ | refine LdReq.agg hX rfl rfl hL hl9 (hcells.le hm1) ?_ | refine zT ?_ | refine zF ?_ | refine zL hX hL ?_ | refine zB hX hL ?_ | (refine zS hX hL ?_; clear hL; intro w hL) | refine zI ?_ | refine zG hX ?_ | refine zO ?_); conv => whnf)
      refine NewReq.mk hL ?_
      clear hL
      intro b5 w hL
      conv => whnf
      conv => whnf
      repeat ((first | refine zT ?_ | refine zF ?_ | refine zL hX hL ?_ | refine zB hX hL ?_ | (refine zS hX hL ?_; clear hL; intro w hL) | refine zI ?_ | refine zG hX ?_ | refine zO ?_); conv => whnf)
      refine CallReq.mk (L1 := []) (ih m1 rs[j] _ hsz (hrep.le hm1) (hsub.2 _ (List.getElem_mem hlt'))) hL ?_
      clear hL
      intro v m2 L1 w hL hm2 ho
      obtain ⟨m3, cs3, hL, hm3, rfl, hrep3⟩ := ho.freeze hL
      obtain ⟨k3, v0, v1, v2, v3, A3, n3, c3, lo3, hi3, neg3, rfl⟩ := hrep3.form
      conv => whnf
      repeat ((first | refine Idx2Req.mk j _ rfl (by omega) rfl ?_ | refine zT ?_ | refine zF ?_ | refine zL hX hL ?_ | refine zB hX hL ?_ | (refine zS hX hL ?_; clear hL; intro w hL) | refine zI ?_ | refine zG hX ?_ | refine zO ?_); conv => whnf)
      refine rows_store hX rfl 1 hL rfl hrows (by omega) rfl rfl ?_
      clear hL
      intro w hL
      have hL : Ev.Loc m [] w0 m3 [_, _, _, _] w := hL
      have hrows' : ∀ r ∈ blk.set j (reC k3 v0 v1 v2 v3 (.slice A3 n3 c3) lo3 hi3 neg3), r.length = 9 := by
        intro r hr
        rcases List.mem_or_eq_of_mem_set hr with h | rfl
        · exact hrows _ h
        · rfl
      have hdone' : ∀ (i : Nat) (x : Re), rs[i]? = some x → i < j + 1 → ∃ cs, (blk.set j (reC k3 v0 v1 v2 v3 (.slice A3 n3 c3) lo3 hi3 neg3))[i]? = some cs ∧ RepRe m3 cs x := by
        intro i x hx hi
        by_cases e : i = j
        · subst e
          obtain ⟨_, rfl⟩ := List.getElem?_eq_some_iff.1 hx
          exact ⟨_, List.getElem?_set_self (by omega), hrep3⟩
        · obtain ⟨cs, g1, g2⟩ := hdone i x hx (by omega)
          exact ⟨cs, by rw [List.getElem?_set_ne (Ne.symm e)]; exact g1, g2.le (hm2.trans hm3)⟩
      conv => whnf
      repeat ((first | refine zT ?_ | refine zF ?_ | refine zL hX hL ?_ | refine zB hX hL ?_ | (refine zS hX hL ?_; clear hL; intro w hL) | refine zI ?_ | refine zG hX ?_ | refine zO ?_); conv => whnf)
      refine ⟨j + 1, ⟨by omega, m3, _, hm1.trans (hm2.trans hm3), by rw [List.length_set]; exact hbl, hrows', hdone', hL.drop⟩, by first | omega | (simp only; omega) | (simp only [List.length_cons, List.length_append]; omega), ?_, ?_⟩
      · repeat (first | exact trivial | (refine And.intro (by (conv => lhs; whnf) <;> (conv => rhs; whnf) <;> (first | rfl)) ?_))
      · repeat (first | exact trivial | (refine And.intro (by (conv => lhs; whnf) <;> (conv => rhs; whnf) <;> (first | rfl)) ?_))
    conv => whnf
    repeat ((first | refine zT ?_ | refine zF ?_ | refine zL hX hL ?_ | refine zB hX hL ?_ | (refine zS hX hL ?_; clear hL; intro w hL) | refine zI ?_ | refine zG hX ?_ | refine zO ?_); conv => whnf)
    subst hn
    have hjn : j = rs.length := by omega
    exact RetReq.mk (hL.one 0 rfl) ⟨g, blk, rfl, rfl, hbl, hrows, by omega, fun i x hx => hdone i x hx (by rw [hjn]; exact (List.getElem?_eq_some_iff.1 hx).1), hrng⟩

theorem clone_fn (m : Mem) (r : Re) (cs : List Value) (h : RepRe m cs r) (hs : Small r) : Ev.Fn Tryz.prog 47 [.agg (toArr cs)] m [] fun m' L' u => OwnRe m' L' u r :=
  clone_fn' _ m r cs (Nat.le_refl _) h hs

end Go.Proofs.YtemdkfohlppckaaGreatDoor.tree
