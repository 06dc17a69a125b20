/- norm: Or, And, Cat, Not, Star, Look. Conditions: none. -/
import Derived.Test.YtpdiljdklllmjaaGreatNoGput

namespace Go.Proofs.YtpdiljdklllmjaaGreat.ar
open Go Go.Ev Go.Proofs

def PutR (ab : Nat) (r : List Nd × Int) : Mem → Own → Value → Prop := fun _ L' u => u = .int .i64 r.2 ∧ Ar ab r.1 L'
def orN (ns : List Nd) (l : List Int) : List Nd × Int := gputN false ns l
def andN (ns : List Nd) (l : List Int) : List Nd × Int := gputN true ns l
theorem OrG_fn (m : Mem) (ab : Nat) (ns : List Nd) (L : Own) (hA : Ar ab ns L) (hO : OkA ns) (v : Value) (l : List Int) (hv : SlI m .i64 v l) (hlb : l.length ≤ 1000) :
    Ev.Fn Tryz.prog 55 [.pointer (some ⟨ab, 0, none⟩), v] m L (PutR ab (gputN false ns l)) := by
  obtain ⟨A, n, c, rfl, -⟩ := id hv
  refine Fn.enter (N := 9) hX Tryz.func55 rfl rfl (by show _ ≤ _; simp) (fun w0 hL => ?_)
  conv => whnf
  generalize keys L = S0 at hL ⊢
  conv => whnf
  repeat ((first | refine zT ?_ | refine zF ?_ | refine zL hX hL ?_ | refine zB hX hL ?_ | (refine zS hX hL ?_; clear hL; intro w hL) | refine zI ?_ | refine zG hX ?_ | refine zO ?_); conv => whnf)
  refine CallReq.mk (L1 := L) (L2 := []) (gputO_fn m ab ns L hA hO _ l hv hlb) (by rw [List.append_nil]; exact hL) ?_
  clear hL
  rintro u m2 L2 w hL - ⟨rfl, hA3⟩
  rw [List.append_nil] at hL
  conv => whnf
  repeat ((first | refine zT ?_ | refine zF ?_ | refine zL hX hL ?_ | refine zB hX hL ?_ | (refine zS hX hL ?_; clear hL; intro w hL) | refine zI ?_ | refine zG hX ?_ | refine zO ?_); conv => whnf)
  exact RetReq.mk hL ⟨rfl, hA3⟩
theorem AndG_fn (m : Mem) (ab : Nat) (ns : List Nd) (L : Own) (hA : Ar ab ns L) (hO : OkA ns) (v : Value) (l : List Int) (hv : SlI m .i64 v l) (hlb : l.length ≤ 1000) :
    Ev.Fn Tryz.prog 56 [.pointer (some ⟨ab, 0, none⟩), v] m L (PutR ab (gputN true ns l)) := by
  obtain ⟨A, n, c, rfl, -⟩ := id hv
  refine Fn.enter (N := 9) hX Tryz.func56 rfl rfl (by show _ ≤ _; simp) (fun w0 hL => ?_)
  conv => whnf
  generalize keys L = S0 at hL ⊢
  conv => whnf
  repeat ((first | refine zT ?_ | refine zF ?_ | refine zL hX hL ?_ | refine zB hX hL ?_ | (refine zS hX hL ?_; clear hL; intro w hL) | refine zI ?_ | refine zG hX ?_ | refine zO ?_); conv => whnf)
  refine CallReq.mk (L1 := L) (L2 := []) (gputA_fn m ab ns L hA hO _ l hv hlb) (by rw [List.append_nil]; exact hL) ?_
  clear hL
  rintro u m2 L2 w hL - ⟨rfl, hA3⟩
  rw [List.append_nil] at hL
  conv => whnf
  repeat ((first | refine zT ?_ | refine zF ?_ | refine zL hX hL ?_ | refine zB hX hL ?_ | (refine zS hX hL ?_; clear hL; intro w hL) | refine zI ?_ | refine zG hX ?_ | refine zO ?_); conv => whnf)
  exact RetReq.mk hL ⟨rfl, hA3⟩
def lookN (ns : List Nd) (k : Int) (neg : Bool) : List Nd × Int := pN ns ⟨8, 0, 0, 0, 0, k, 0, neg⟩
theorem Look_fn (m : Mem) (ab : Nat) (ns : List Nd) (L : Own) (hA : Ar ab ns L) (hO : OkA ns) (k : Int) (hk : i64 k) (neg : Bool) :
    Ev.Fn Tryz.prog 70 [.pointer (some ⟨ab, 0, none⟩), .int .i64 k, .bool neg] m L (PutQ ab (lookN ns k neg).1 (lookN ns k neg).2 m) := by
  refine Fn.enter (N := 12) hX Tryz.func70 rfl rfl (by show _ ≤ _; simp) (fun w0 hL => ?_)
  conv => whnf
  generalize keys L = S0 at hL ⊢
  conv => whnf
  repeat ((first | refine zT ?_ | refine zF ?_ | refine zL hX hL ?_ | refine zB hX hL ?_ | (refine zS hX hL ?_; clear hL; intro w hL) | refine zI ?_ | refine zG hX ?_ | refine zO ?_); conv => whnf)
  refine CallReq.mk (L1 := L) (L2 := []) (put_fn m ab ns L hA hO ⟨8, 0, 0, 0, 0, k, 0, neg⟩ ⟨by simp [i64], by simp [u64], by simp [u64], by simp [u64], by simp [u64], hk, by simp [i64]⟩) (by rw [List.append_nil]; exact hL) ?_
  clear hL
  rintro u m2 L2 w hL - ⟨rfl, rfl, hA3⟩
  rw [List.append_nil] at hL
  conv => whnf
  repeat ((first | refine zT ?_ | refine zF ?_ | refine zL hX hL ?_ | refine zB hX hL ?_ | (refine zS hX hL ?_; clear hL; intro w hL) | refine zI ?_ | refine zG hX ?_ | refine zO ?_); conv => whnf)
  exact RetReq.mk hL ⟨rfl, rfl, hA3⟩

instance (ns : List Nd) (z : Int) : Decidable (okId ns z) := inferInstanceAs (Decidable (0 ≤ z ∧ z < ns.length))
def notN (ns : List Nd) (x : Int) : List Nd × Int :=
  if okId ns x then if kindN ns x = 6 then (ns, (nodeN ns x).1.a) else pN ns (ndP 6 x 0) else (ns, -1)
def starN (ns : List Nd) (x : Int) : List Nd × Int :=
  if okId ns x then if kindN ns x = 0 ∨ kindN ns x = 1 then emptyN ns else if kindN ns x = 7 then (ns, x) else pN ns (ndP 7 x 0) else (ns, -1)
def catF : Nat → List Nd → Int → Int → List Nd × Int
  | 0, ns, _, _ => (ns, -1)
  | k + 1, ns, x, y => if okId ns x ∧ okId ns y then
      if kindN ns x = 0 ∨ kindN ns y = 0 then noneN ns
      else if kindN ns x = 1 then (ns, y) else if kindN ns y = 1 then (ns, x)
      else if kindN ns x = 3 then catF k (catF k ns (nodeN ns x).1.b y).1 (nodeN ns x).1.a (catF k ns (nodeN ns x).1.b y).2
      else pN ns (ndP 3 x y)
    else (ns, -1)
def catN (ns : List Nd) (x y : Int) : List Nd × Int := catF (x.toNat + 1) ns x y
theorem notN_ok {ns : List Nd} (h : OkA ns) {x : Int} (hx : i64 x) : OkA (notN ns x).1 := by
  unfold notN
  split
  · split
    · exact h
    · exact okA_p h (inN_P (by omega) hx (by simp [i64]))
  · exact h
theorem starN_ok {ns : List Nd} (h : OkA ns) {x : Int} (hx : i64 x) : OkA (starN ns x).1 := by
  unfold starN
  split
  · split
    · exact okA_empty h
    split
    · exact h
    · exact okA_p h (inN_P (by omega) hx (by simp [i64]))
  · exact h
theorem catF_i64 : ∀ (k : Nat) {ns : List Nd} (_ : OkA ns) {x y : Int} (_ : i64 x) (_ : i64 y), OkA (catF k ns x y).1 ∧ i64 (catF k ns x y).2
  | 0, ns, h, x, y, hx, hy => ⟨h, by simp [catF, i64]⟩
  | k + 1, ns, h, x, y, hx, hy => by
    rw [catF]
    split
    · split
      · exact ⟨okA_none h, pN_i64 h _⟩
      split
      · exact ⟨h, hy⟩
      split
      · exact ⟨h, hx⟩
      split
      · have hn := nodeN_in h x
        obtain ⟨h1, h2⟩ := catF_i64 k h hn.b hy
        exact catF_i64 k h1 hn.a h2
      · exact ⟨okA_p h (inN_P (by omega) hx hy), pN_i64 h _⟩
    · exact ⟨h, by simp [i64]⟩

/-- The numbers that come as a call's last ones. -/
theorem there_row {m0 m : Mem} {S0 : List Nat} {w0 w : World} {g : Nat} {l : List Int} {L : Own} (hL : Ev.Loc m0 S0 w0 m ((g, .cells (toArr (ints .i64 l)) 3 (0, 0)) :: L) w) (h : l.length ≤ 1000) :
    ∃ m1, Ev.Loc m0 S0 w0 m1 L w ∧ Mem.Le m m1 ∧ SlI m1 .i64 (.slice (some ⟨g, 0, none⟩) l.length l.length) l :=
  OwnS.freeze (te := 3) (k := .i64) (l := l) (OwnS.full (n := l.length) (by have : maxLen = 9223372036854775807 := rfl; omega) (by simp [ints])) (L2 := L) hL
theorem there1 (ns : List Nd) (x : Int) : thereN ns [x] = decide (okId ns x) := by
  unfold thereN; rw [Bool.eq_iff_iff, decide_eq_true_iff]; simp [okId]
theorem there2 (ns : List Nd) (x y : Int) : thereN ns [x, y] = decide (okId ns x ∧ okId ns y) := by
  unfold thereN; rw [Bool.eq_iff_iff, decide_eq_true_iff]; simp [okId]

theorem NotG_fn (m : Mem) (ab : Nat) (ns : List Nd) (L : Own) (hA : Ar ab ns L) (hO : OkA ns) (x : Int) :
    Ev.Fn Tryz.prog 57 [.pointer (some ⟨ab, 0, none⟩), .int .i64 x] m L (PutR ab (notN ns x)) := by
  have hnode := Node_fn m ab ns L hA x
  refine Fn.enter (N := 27) hX Tryz.func57 rfl rfl (by show _ ≤ _; simp) (fun w0 hL => ?_)
  conv => whnf
  generalize keys L = S0 at hL ⊢
  conv => whnf
  repeat ((first | refine zT ?_ | refine zF ?_ | refine zL hX hL ?_ | refine zB hX hL ?_ | (refine zS hX hL ?_; clear hL; intro w hL) | refine zI ?_ | refine zG hX ?_ | refine zO ?_); conv => whnf)
  refine NewReq.mk hL ?_
  clear hL
  intro g w hL
  conv => whnf
  obtain ⟨m1, hL1, hm1, hs⟩ := there_row (l := [x]) hL (by simp)
  clear hL
  have hL := hL1
  clear hL1
  conv => whnf
  repeat ((first | refine zT ?_ | refine zF ?_ | refine zL hX hL ?_ | refine zB hX hL ?_ | (refine zS hX hL ?_; clear hL; intro w hL) | refine zI ?_ | refine zG hX ?_ | refine zO ?_); conv => whnf)
  refine CallReq.lo (there2_fn m1 ab ns L hA _ [x] hs) hL ?_
  clear hL
  intro w hL
  rw [show ([x].all fun id => decide (0 ≤ id ∧ id < ns.length)) = decide (okId ns x) from there1 ns x]
  unfold notN
  by_cases hx : okId ns x
  rotate_left
  · rw [decide_eq_false hx, if_neg hx]
    conv => whnf
    repeat ((first | refine zT ?_ | refine zF ?_ | refine zL hX hL ?_ | refine zB hX hL ?_ | (refine zS hX hL ?_; clear hL; intro w hL) | refine zI ?_ | refine zG hX ?_ | refine zO ?_); conv => whnf)
    exact RetReq.mk hL ⟨rfl, hA⟩
  rw [decide_eq_true hx, if_pos hx]
  have hi := okId_i64 hO.len hx
  conv => whnf
  repeat ((first | refine zT ?_ | refine zF ?_ | refine zL hX hL ?_ | refine zB hX hL ?_ | (refine zS hX hL ?_; clear hL; intro w hL) | refine zI ?_ | refine zG hX ?_ | refine zO ?_); conv => whnf)
  have hnode := Node_fn m1 ab ns L hA x
  unfold kindN
  generalize (nodeN ns x).1 = n at hnode ⊢
  generalize (nodeN ns x).2 = ok at hnode
  refine CallReq.lo hnode hL ?_
  clear hL
  intro w hL
  conv => whnf
  repeat ((first | refine zT ?_ | refine zF ?_ | refine zL hX hL ?_ | refine zB hX hL ?_ | (refine zS hX hL ?_; clear hL; intro w hL) | refine zI ?_ | refine zG hX ?_ | refine zO ?_); conv => whnf)
  refine NewReq.mk hL ?_
  clear hL
  intro b w hL
  conv => whnf
  conv => whnf
  repeat ((first | refine zT ?_ | refine zF ?_ | refine zL hX hL ?_ | refine zB hX hL ?_ | (refine zS hX hL ?_; clear hL; intro w hL) | refine zI ?_ | refine zG hX ?_ | refine zO ?_); conv => whnf)
  by_cases hk : n.k = 6
  · rw [if_pos hk]
    refine BrReq.yes hk ?_
    conv => whnf
    repeat ((first | refine zT ?_ | refine zF ?_ | refine zL hX hL ?_ | refine zB hX hL ?_ | (refine zS hX hL ?_; clear hL; intro w hL) | refine zI ?_ | refine zG hX ?_ | refine zO ?_); conv => whnf)
    exact RetReq.mk hL.drop ⟨rfl, hA⟩
  · rw [if_neg hk]
    refine BrReq.no hk ?_
    replace hL := hL.drop
    conv => whnf
    repeat ((first | refine zT ?_ | refine zF ?_ | refine zL hX hL ?_ | refine zB hX hL ?_ | (refine zS hX hL ?_; clear hL; intro w hL) | refine zI ?_ | refine zG hX ?_ | refine zO ?_); conv => whnf)
    refine CallReq.mk (L1 := L) (L2 := []) (put_fn m1 ab ns L hA hO (ndP 6 x 0) (inN_P (by omega) hi (by simp [i64]))) (by rw [List.append_nil]; exact hL) ?_
    clear hL
    rintro u m2 L2 w hL - ⟨rfl, rfl, hA3⟩
    rw [List.append_nil] at hL
    conv => whnf
    repeat ((first | refine zT ?_ | refine zF ?_ | refine zL hX hL ?_ | refine zB hX hL ?_ | (refine zS hX hL ?_; clear hL; intro w hL) | refine zI ?_ | refine zG hX ?_ | refine zO ?_); conv => whnf)
    exact RetReq.mk hL ⟨rfl, hA3⟩
theorem StarG_fn (m : Mem) (ab : Nat) (ns : List Nd) (L : Own) (hA : Ar ab ns L) (hO : OkA ns) (x : Int) :
    Ev.Fn Tryz.prog 69 [.pointer (some ⟨ab, 0, none⟩), .int .i64 x] m L (PutR ab (starN ns x)) := by
  refine Fn.enter (N := 25) hX Tryz.func69 rfl rfl (by show _ ≤ _; simp) (fun w0 hL => ?_)
  conv => whnf
  generalize keys L = S0 at hL ⊢
  conv => whnf
  repeat ((first | refine zT ?_ | refine zF ?_ | refine zL hX hL ?_ | refine zB hX hL ?_ | (refine zS hX hL ?_; clear hL; intro w hL) | refine zI ?_ | refine zG hX ?_ | refine zO ?_); conv => whnf)
  refine NewReq.mk hL ?_
  clear hL
  intro g w hL
  conv => whnf
  obtain ⟨m1, hL1, hm1, hs⟩ := there_row (l := [x]) hL (by simp)
  clear hL
  have hL := hL1
  clear hL1
  conv => whnf
  repeat ((first | refine zT ?_ | refine zF ?_ | refine zL hX hL ?_ | refine zB hX hL ?_ | (refine zS hX hL ?_; clear hL; intro w hL) | refine zI ?_ | refine zG hX ?_ | refine zO ?_); conv => whnf)
  refine CallReq.lo (there2_fn m1 ab ns L hA _ [x] hs) hL ?_
  clear hL
  intro w hL
  rw [show ([x].all fun id => decide (0 ≤ id ∧ id < ns.length)) = decide (okId ns x) from there1 ns x]
  unfold starN
  by_cases hx : okId ns x
  rotate_left
  · rw [decide_eq_false hx, if_neg hx]
    conv => whnf
    repeat ((first | refine zT ?_ | refine zF ?_ | refine zL hX hL ?_ | refine zB hX hL ?_ | (refine zS hX hL ?_; clear hL; intro w hL) | refine zI ?_ | refine zG hX ?_ | refine zO ?_); conv => whnf)
    exact RetReq.mk hL ⟨rfl, hA⟩
  rw [decide_eq_true hx, if_pos hx]
  have hi := okId_i64 hO.len hx
  conv => whnf
  repeat ((first | refine zT ?_ | refine zF ?_ | refine zL hX hL ?_ | refine zB hX hL ?_ | (refine zS hX hL ?_; clear hL; intro w hL) | refine zI ?_ | refine zG hX ?_ | refine zO ?_); conv => whnf)
  refine CallReq.lo (kind_fn m1 ab ns L hA x) hL ?_
  clear hL
  intro w hL
  generalize kindN ns x = k
  by_cases k0 : k = 0
  · rw [if_pos (.inl k0)]
    conv => whnf
    repeat ((first | refine BrReq.yes k0 ?_ | refine zT ?_ | refine zF ?_ | refine zL hX hL ?_ | refine zB hX hL ?_ | (refine zS hX hL ?_; clear hL; intro w hL) | refine zI ?_ | refine zG hX ?_ | refine zO ?_); conv => whnf)
    refine CallReq.mk (L1 := L) (L2 := []) (Empty_fn m1 ab ns L hA hO) (by rw [List.append_nil]; exact hL) ?_
    clear hL
    rintro u m2 L2 w hL - ⟨rfl, rfl, hA3⟩
    rw [List.append_nil] at hL
    conv => whnf
    repeat ((first | refine zT ?_ | refine zF ?_ | refine zL hX hL ?_ | refine zB hX hL ?_ | (refine zS hX hL ?_; clear hL; intro w hL) | refine zI ?_ | refine zG hX ?_ | refine zO ?_); conv => whnf)
    exact RetReq.mk hL ⟨rfl, hA3⟩
  by_cases k1 : k = 1
  · rw [if_pos (.inr k1)]
    conv => whnf
    repeat ((first | refine BrReq.no k0 ?_ | refine BrReq.yes k1 ?_ | refine zT ?_ | refine zF ?_ | refine zL hX hL ?_ | refine zB hX hL ?_ | (refine zS hX hL ?_; clear hL; intro w hL) | refine zI ?_ | refine zG hX ?_ | refine zO ?_); conv => whnf)
    refine CallReq.mk (L1 := L) (L2 := []) (Empty_fn m1 ab ns L hA hO) (by rw [List.append_nil]; exact hL) ?_
    clear hL
    rintro u m2 L2 w hL - ⟨rfl, rfl, hA3⟩
    rw [List.append_nil] at hL
    conv => whnf
    repeat ((first | refine zT ?_ | refine zF ?_ | refine zL hX hL ?_ | refine zB hX hL ?_ | (refine zS hX hL ?_; clear hL; intro w hL) | refine zI ?_ | refine zG hX ?_ | refine zO ?_); conv => whnf)
    exact RetReq.mk hL ⟨rfl, hA3⟩
  rw [if_neg (by omega)]
  by_cases k7 : k = 7
  · rw [if_pos k7]
    conv => whnf
    repeat ((first | refine BrReq.no k0 ?_ | refine BrReq.no k1 ?_ | refine BrReq.yes k7 ?_ | refine zT ?_ | refine zF ?_ | refine zL hX hL ?_ | refine zB hX hL ?_ | (refine zS hX hL ?_; clear hL; intro w hL) | refine zI ?_ | refine zG hX ?_ | refine zO ?_); conv => whnf)
    exact RetReq.mk hL ⟨rfl, hA⟩
  · rw [if_neg k7]
    conv => whnf
    repeat ((first | refine BrReq.no k0 ?_ | refine BrReq.no k1 ?_ | refine BrReq.no k7 ?_ | refine zT ?_ | refine zF ?_ | refine zL hX hL ?_ | refine zB hX hL ?_ | (refine zS hX hL ?_; clear hL; intro w hL) | refine zI ?_ | refine zG hX ?_ | refine zO ?_); conv => whnf)
    refine CallReq.mk (L1 := L) (L2 := []) (put_fn m1 ab ns L hA hO (ndP 7 x 0) (inN_P (by omega) hi (by simp [i64]))) (by rw [List.append_nil]; exact hL) ?_
    clear hL
    rintro u m2 L2 w hL - ⟨rfl, rfl, hA3⟩
    rw [List.append_nil] at hL
    conv => whnf
    repeat ((first | refine zT ?_ | refine zF ?_ | refine zL hX hL ?_ | refine zB hX hL ?_ | (refine zS hX hL ?_; clear hL; intro w hL) | refine zI ?_ | refine zG hX ?_ | refine zO ?_); conv => whnf)
    exact RetReq.mk hL ⟨rfl, hA3⟩
theorem CatF_fn (ab : Nat) : ∀ (k : Nat) (m : Mem) (ns : List Nd) (L : Own) (_ : Ar ab ns L) (_ : OkA ns) (x y : Int) (_ : i64 x) (_ : i64 y) (_ : okId ns x → x.toNat < k) (_ : 0 < k),
    Ev.Fn Tryz.prog 54 [.pointer (some ⟨ab, 0, none⟩), .int .i64 x, .int .i64 y] m L (PutR ab (catF k ns x y)) := by
  intro k
  induction k with
  | zero => intro m ns L _ _ x y _ _ _ h; omega
  | succ k ih =>
  intro m ns L hA hO x y hxi hyi hxk _
  refine Fn.enter (N := 62) hX Tryz.func54 rfl rfl (by show _ ≤ _; simp) (fun w0 hL => ?_)
  conv => whnf
  generalize keys L = S0 at hL ⊢
  conv => whnf
  repeat ((first | refine zT ?_ | refine zF ?_ | refine zL hX hL ?_ | refine zB hX hL ?_ | (refine zS hX hL ?_; clear hL; intro w hL) | refine zI ?_ | refine zG hX ?_ | refine zO ?_); conv => whnf)
  refine NewReq.mk hL ?_
  clear hL
  intro g w hL
  conv => whnf
  obtain ⟨m1, hL1, hm1, hs⟩ := there_row (l := [x, y]) hL (by simp)
  clear hL
  have hL := hL1
  clear hL1
  conv => whnf
  repeat ((first | refine zT ?_ | refine zF ?_ | refine zL hX hL ?_ | refine zB hX hL ?_ | (refine zS hX hL ?_; clear hL; intro w hL) | refine zI ?_ | refine zG hX ?_ | refine zO ?_); conv => whnf)
  refine CallReq.lo (there2_fn m1 ab ns L hA _ [x, y] hs) hL ?_
  clear hL
  intro w hL
  rw [show ([x, y].all fun id => decide (0 ≤ id ∧ id < ns.length)) = decide (okId ns x ∧ okId ns y) from there2 ns x y]
  rw [catF]
  by_cases hx : okId ns x ∧ okId ns y
  rotate_left
  · rw [decide_eq_false hx, if_neg hx]
    conv => whnf
    repeat ((first | refine zT ?_ | refine zF ?_ | refine zL hX hL ?_ | refine zB hX hL ?_ | (refine zS hX hL ?_; clear hL; intro w hL) | refine zI ?_ | refine zG hX ?_ | refine zO ?_); conv => whnf)
    exact RetReq.mk hL ⟨rfl, hA⟩
  rw [decide_eq_true hx, if_pos hx]
  conv => whnf
  repeat ((first | refine zT ?_ | refine zF ?_ | refine zL hX hL ?_ | refine zB hX hL ?_ | (refine zS hX hL ?_; clear hL; intro w hL) | refine zI ?_ | refine zG hX ?_ | refine zO ?_); conv => whnf)
  have hnode := Node_fn m1 ab ns L hA x
  have hpt := fun h => okId_parts hO hx.1 (.inl h)
  have hlt : kindN ns x = 3 → (nodeN ns x).1.a < x ∧ (nodeN ns x).1.b < x := fun h => by
    obtain ⟨nx, e1, e2⟩ := nodeN_ok hx.1
    unfold kindN at h
    rw [e1] at h ⊢
    have := (right_lt (hO.right _ nx e2)).1 (.inl h)
    have := hx.1
    unfold okId at this
    simp only
    omega
  have hk1 : kindN ns x = (nodeN ns x).1.k := rfl
  have hnin := nodeN_in hO x
  rw [hk1] at hpt hlt ⊢
  clear hk1
  generalize (nodeN ns x).1 = n at hnode hpt hlt hnin ⊢
  generalize (nodeN ns x).2 = ok at hnode
  refine CallReq.lo hnode hL ?_
  clear hL
  intro w hL
  conv => whnf
  repeat ((first | refine zT ?_ | refine zF ?_ | refine zL hX hL ?_ | refine zB hX hL ?_ | (refine zS hX hL ?_; clear hL; intro w hL) | refine zI ?_ | refine zG hX ?_ | refine zO ?_); conv => whnf)
  refine NewReq.mk hL ?_
  clear hL
  intro b w hL
  conv => whnf
  replace hL : Ev.Loc m S0 w0 m1 ((b, .cells (toArr (ndC nd0)) 61 (0, 0)) :: L) w := hL
  have hky := kind_fn m1 ab ns L hA y
  generalize kindN ns y = ky at hky ⊢
  by_cases k0 : n.k = 0
  · rw [if_pos (.inl k0)]
    conv => whnf
    repeat ((first | refine BrReq.yes k0 ?_ | refine zT ?_ | refine zF ?_ | refine zL hX hL ?_ | refine zB hX hL ?_ | (refine zS hX hL ?_; clear hL; intro w hL) | refine zI ?_ | refine zG hX ?_ | refine zO ?_); conv => whnf)
    refine CallReq.mk (L1 := L) (L2 := [_]) (None_fn m1 ab ns L hA hO) (Loc.back (L1 := [_]) hL) ?_
    clear hL
    rintro u mx L2 w hL - ⟨hmx, rfl, hA3⟩
    rw [hmx] at hL
    clear hmx mx
    have hL := Loc.back (L1 := L2) (L2 := [_]) hL
    conv => whnf
    repeat ((first | refine zT ?_ | refine zF ?_ | refine zL hX hL ?_ | refine zB hX hL ?_ | (refine zS hX hL ?_; clear hL; intro w hL) | refine zI ?_ | refine zG hX ?_ | refine zO ?_); conv => whnf)
    exact RetReq.mk hL.drop ⟨rfl, hA3⟩
  by_cases y0 : ky = 0
  · rw [if_pos (.inr y0)]
    conv => whnf
    repeat ((first | refine BrReq.no k0 ?_ | refine BrReq.yes y0 ?_ | refine zT ?_ | refine zF ?_ | refine zL hX hL ?_ | refine zB hX hL ?_ | (refine zS hX hL ?_; clear hL; intro w hL) | refine zI ?_ | refine zG hX ?_ | refine zO ?_); conv => whnf)
    refine CallReq.li (L1 := L) hky (Loc.back (L1 := [_]) hL) ?_
    clear hL
    intro w hL
    have hL := Loc.back (L1 := L) (L2 := [_]) hL
    replace hL : Ev.Loc m S0 w0 m1 ((b, .cells (toArr (ndC n)) 61 (0, 0)) :: L) w := hL
    conv => whnf
    repeat ((first | refine BrReq.no k0 ?_ | refine BrReq.yes y0 ?_ | refine zT ?_ | refine zF ?_ | refine zL hX hL ?_ | refine zB hX hL ?_ | (refine zS hX hL ?_; clear hL; intro w hL) | refine zI ?_ | refine zG hX ?_ | refine zO ?_); conv => whnf)
    refine CallReq.mk (L1 := L) (L2 := [_]) (None_fn m1 ab ns L hA hO) (Loc.back (L1 := [_]) hL) ?_
    clear hL
    rintro u mx L2 w hL - ⟨hmx, rfl, hA3⟩
    rw [hmx] at hL
    clear hmx mx
    have hL := Loc.back (L1 := L2) (L2 := [_]) hL
    conv => whnf
    repeat ((first | refine zT ?_ | refine zF ?_ | refine zL hX hL ?_ | refine zB hX hL ?_ | (refine zS hX hL ?_; clear hL; intro w hL) | refine zI ?_ | refine zG hX ?_ | refine zO ?_); conv => whnf)
    exact RetReq.mk hL.drop ⟨rfl, hA3⟩
  rw [if_neg (by omega)]
  conv => whnf
  repeat ((first | refine BrReq.no k0 ?_ | refine BrReq.no y0 ?_ | refine zT ?_ | refine zF ?_ | refine zL hX hL ?_ | refine zB hX hL ?_ | (refine zS hX hL ?_; clear hL; intro w hL) | refine zI ?_ | refine zG hX ?_ | refine zO ?_); conv => whnf)
  refine CallReq.li (L1 := L) hky (Loc.back (L1 := [_]) hL) ?_
  clear hL
  intro w hL
  have hL := Loc.back (L1 := L) (L2 := [_]) hL
  replace hL : Ev.Loc m S0 w0 m1 ((b, .cells (toArr (ndC n)) 61 (0, 0)) :: L) w := hL
  by_cases k1 : n.k = 1
  · rw [if_pos k1]
    conv => whnf
    repeat ((first | refine BrReq.no k0 ?_ | refine BrReq.no y0 ?_ | refine BrReq.yes k1 ?_ | refine zT ?_ | refine zF ?_ | refine zL hX hL ?_ | refine zB hX hL ?_ | (refine zS hX hL ?_; clear hL; intro w hL) | refine zI ?_ | refine zG hX ?_ | refine zO ?_); conv => whnf)
    exact RetReq.mk hL.drop ⟨rfl, hA⟩
  rw [if_neg k1]
  conv => whnf
  repeat ((first | refine BrReq.no k0 ?_ | refine BrReq.no y0 ?_ | refine BrReq.no k1 ?_ | refine zT ?_ | refine zF ?_ | refine zL hX hL ?_ | refine zB hX hL ?_ | (refine zS hX hL ?_; clear hL; intro w hL) | refine zI ?_ | refine zG hX ?_ | refine zO ?_); conv => whnf)
  refine CallReq.li (L1 := L) hky (Loc.back (L1 := [_]) hL) ?_
  clear hL
  intro w hL
  have hL := Loc.back (L1 := L) (L2 := [_]) hL
  replace hL : Ev.Loc m S0 w0 m1 ((b, .cells (toArr (ndC n)) 61 (0, 0)) :: L) w := hL
  by_cases y1 : ky = 1
  · rw [if_pos y1]
    conv => whnf
    repeat ((first | refine BrReq.yes y1 ?_ | refine zT ?_ | refine zF ?_ | refine zL hX hL ?_ | refine zB hX hL ?_ | (refine zS hX hL ?_; clear hL; intro w hL) | refine zI ?_ | refine zG hX ?_ | refine zO ?_); conv => whnf)
    exact RetReq.mk hL.drop ⟨rfl, hA⟩
  rw [if_neg y1]
  by_cases k3 : n.k = 3
  · rw [if_pos k3]
    obtain ⟨hpa, hpb⟩ := hpt k3
    obtain ⟨hla, hlb⟩ := hlt k3
    have hxk := hxk hx.1
    have hx1 := hx.1
    unfold okId at hx1 hpa hpb
    have i1 := ih m1 ns L hA hO n.b y hnin.b hyi (fun _ => by omega) (by omega)
    have e1 := catF_i64 k hO hnin.b hyi
    have hpre2 : ∀ ns' : List Nd, okId ns' n.a → n.a.toNat < k := fun _ _ => by omega
    generalize catF k ns n.b y = r1 at i1 e1 ⊢
    conv => whnf
    repeat ((first | refine BrReq.no y1 ?_ | refine BrReq.yes k3 ?_ | refine zT ?_ | refine zF ?_ | refine zL hX hL ?_ | refine zB hX hL ?_ | (refine zS hX hL ?_; clear hL; intro w hL) | refine zI ?_ | refine zG hX ?_ | refine zO ?_); conv => whnf)
    refine DrawReq.plan hX (.fst 0 (.fst 1 (.fst 2 (.fst 3 (.fst 4 (.fst 5 (.fst 6 (.alt 7 (.alt 8 (.fst 9 (.done)) (.stop)) (.stop))))))))) [(b, .cells (toArr (ndC n)) 61 (0, 0))] (by kernel_rfl) (by kernel_rfl) hL (fun h => h.one 0 rfl) ?_
    clear hL
    intro w hL
    conv => whnf
    repeat ((first | refine zQ hX ?_ | refine zR hX ?_ | refine zA ?_ | refine zT ?_ | refine zF ?_ | refine zL hX hL ?_ | refine zB hX hL ?_ | (refine zS hX hL ?_; clear hL; intro w hL) | refine zI ?_ | refine zG hX ?_ | refine zO ?_); conv => whnf)
    refine CallReq.mk (L1 := L) (L2 := [_]) i1 (Loc.back (L1 := [_]) hL) ?_
    clear hL
    rintro u m2 L2 w hL hm2 ⟨rfl, hA3⟩
    have hL := Loc.back (L1 := L2) (L2 := [_]) hL
    refine SReq.mk ((hL.one 0 rfl).weaken hm2 hm1) ?_
    conv => whnf
    repeat ((first | refine zQ hX ?_ | refine zR hX ?_ | refine zA ?_ | refine zT ?_ | refine zF ?_ | refine zL hX hL ?_ | refine zB hX hL ?_ | (refine zS hX hL ?_; clear hL; intro w hL) | refine zI ?_ | refine zG hX ?_ | refine zO ?_); conv => whnf)
    have i2 := ih m2 r1.1 L2 hA3 e1.1 n.a r1.2 hnin.a e1.2 (hpre2 _) (by omega)
    refine CallReq.mk (L1 := L2) (L2 := [_]) i2 (Loc.back (L1 := [_]) hL) ?_
    clear hL
    rintro u m3 L3 w hL hm3 ⟨rfl, hA4⟩
    have hL := Loc.back (L1 := L3) (L2 := [_]) hL
    refine SReq.mk ((hL.one 0 rfl).weaken (hm2.trans hm3) hm1) ?_
    conv => whnf
    repeat ((first | refine zQ hX ?_ | refine zR hX ?_ | refine zA ?_ | refine zT ?_ | refine zF ?_ | refine zL hX hL ?_ | refine zB hX hL ?_ | (refine zS hX hL ?_; clear hL; intro w hL) | refine zI ?_ | refine zG hX ?_ | refine zO ?_); conv => whnf)
    exact RetReq.mk hL.drop ⟨rfl, hA4⟩
  · rw [if_neg k3]
    conv => whnf
    repeat ((first | refine BrReq.no y1 ?_ | refine BrReq.no k3 ?_ | refine zT ?_ | refine zF ?_ | refine zL hX hL ?_ | refine zB hX hL ?_ | (refine zS hX hL ?_; clear hL; intro w hL) | refine zI ?_ | refine zG hX ?_ | refine zO ?_); conv => whnf)
    refine CallReq.mk (L1 := L) (L2 := [_]) (put_fn m1 ab ns L hA hO (ndP 3 x y) (inN_P (by omega) hxi hyi)) (Loc.back (L1 := [_]) hL) ?_
    clear hL
    rintro u mx L2 w hL - ⟨hmx, rfl, hA3⟩
    rw [hmx] at hL
    clear hmx mx
    have hL := Loc.back (L1 := L2) (L2 := [_]) hL
    conv => whnf
    repeat ((first | refine zT ?_ | refine zF ?_ | refine zL hX hL ?_ | refine zB hX hL ?_ | (refine zS hX hL ?_; clear hL; intro w hL) | refine zI ?_ | refine zG hX ?_ | refine zO ?_); conv => whnf)
    exact RetReq.mk hL.drop ⟨rfl, hA3⟩
end Go.Proofs.YtpdiljdklllmjaaGreat.ar
