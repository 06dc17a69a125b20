/- norm: Build. Conditions: none. -/
import Derived.Test.YtpdiljdklllmjaaGreatNoPure
import Derived.Test.YtpdiljdklllmjaaGreatTreeFn

namespace Go.Proofs.YtpdiljdklllmjaaGreat.ar
open Go Go.Ev Go.Proofs Go.Proofs.YtpdiljdklllmjaaGreat.tree

/-! ### Build, in plain Lean -/
/-- The cats of some nodes (the last one first), ahead of one. -/
def catsN : List Nd → List Int → Int → List Nd × Int
  | ns, [], out => (ns, out)
  | ns, z :: l, out => catsN (catN ns z out).1 l (catN ns z out).2
def optN (x : Int) : Nat → List Nd → Int → List Nd × Int
  | 0, ns, out => (ns, out)
  | n + 1, ns, out => optN x n (orN (catN (emptyN ns).1 x out).1 [(emptyN ns).2, (catN (emptyN ns).1 x out).2]).1 (orN (catN (emptyN ns).1 x out).1 [(emptyN ns).2, (catN (emptyN ns).1 x out).2]).2
def repN (x : Int) : Nat → List Nd → Int → List Nd × Int
  | 0, ns, out => (ns, out)
  | n + 1, ns, out => repN x n (catN ns x out).1 (catN ns x out).2
/-- So many times: of a node. -/
def timesN (lo hi : Int) (ns : List Nd) (x : Int) : List Nd × Int :=
  let e := emptyN ns
  let s := if hi < 0 then starN e.1 x else e
  let o := optN x (hi - lo).toNat s.1 s.2
  repN x lo.toNat o.1 o.2
abbrev Bs := (List Nd × Int) × Int
def lookedN (ns : List Nd) (e : Int) (k : Int) (neg : Bool) : Bs := if k < 0 ∨ 4 ≤ k then (((noneN ns).1, 10), (noneN ns).2) else (((lookN ns k neg).1, e), (lookN ns k neg).2)
mutual
def bR (lk : Re → Int) : Re → List Nd → Int → Bs
  | .mk k s0 s1 s2 s3 rs lo hi neg, ns, e =>
    if k = 0 then (((noneN ns).1, e), (noneN ns).2)
    else if k = 1 then (((emptyN ns).1, e), (emptyN ns).2)
    else if k = 2 then (((bytesN ns ⟨s0, s1, s2, s3⟩).1, e), (bytesN ns ⟨s0, s1, s2, s3⟩).2)
    else if k = 3 then
      let p := bL lk rs (emptyN ns).1 e
      let c := catsN p.1.1 p.2.reverse (emptyN ns).2
      ((c.1, p.1.2), c.2)
    else if k = 4 then
      let p := bL lk rs ns e
      (((orN p.1.1 p.2).1, p.1.2), (orN p.1.1 p.2).2)
    else if k = 5 then
      let p := bL lk rs ns e
      (((andN p.1.1 p.2).1, p.1.2), (andN p.1.1 p.2).2)
    else if k = 6 then
      let p := bL lk rs ns e
      (((notN p.1.1 (p.2.headD 0)).1, p.1.2), (notN p.1.1 (p.2.headD 0)).2)
    else if k = 7 then
      let p := bL lk rs ns e
      (((timesN lo hi p.1.1 (p.2.headD 0)).1, p.1.2), (timesN lo hi p.1.1 (p.2.headD 0)).2)
    else lookedN ns e (lk (.mk k s0 s1 s2 s3 rs lo hi false)) neg
def bL (lk : Re → Int) : List Re → List Nd → Int → (List Nd × Int) × List Int
  | [], ns, e => ((ns, e), [])
  | r :: l, ns, e =>
    let p := bR lk r ns e
    let q := bL lk l p.1.1 p.1.2
    (q.1, p.2 :: q.2)
end
theorem bL_take (lk : Re → Int) : ∀ (rs : List Re) (ns : List Nd) (e : Int) (j : Nat) (h : j < rs.length), bL lk (rs.take (j + 1)) ns e =
    ((bR lk rs[j] (bL lk (rs.take j) ns e).1.1 (bL lk (rs.take j) ns e).1.2).1, (bL lk (rs.take j) ns e).2 ++ [(bR lk rs[j] (bL lk (rs.take j) ns e).1.1 (bL lk (rs.take j) ns e).1.2).2])
  | r :: l, ns, e, 0, h => by simp [bL]
  | r :: l, ns, e, j + 1, h => by
    simp only [List.take_succ_cons, bL, List.getElem_cons_succ]
    rw [bL_take lk l _ _ j (by simpa using h)]
    rfl
theorem bL_len (lk : Re → Int) : ∀ (rs : List Re) (ns : List Nd) (e : Int), (bL lk rs ns e).2.length = rs.length
  | [], ns, e => rfl
  | r :: l, ns, e => by simp only [bL, List.length_cons, bL_len lk l]
/-- All sets' numbers are numbers of 64 bits. -/
inductive InRe : Re → Prop
  | mk {k s0 s1 s2 s3 lo hi : Int} {neg : Bool} {rs : List Re} : InS ⟨s0, s1, s2, s3⟩ → (∀ p ∈ rs, InRe p) → InRe (.mk k s0 s1 s2 s3 rs lo hi neg)
theorem rep_in (r : Re) : ∀ {m : Mem} {cs : List Value}, RepRe m cs r → InRe r := by
  induction r using Re.ind with
  | h kd s0 s1 s2 s3 rs lo hi neg ih =>
    intro m cs h
    obtain ⟨A, n, c, rfl, hs, -, h0, h1, h2, h3, -⟩ := h.open
    refine .mk ⟨h0, h1, h2, h3⟩ fun p hp => ?_
    obtain ⟨i, hi, rfl⟩ := List.getElem_of_mem hp
    obtain ⟨a, cs', -, -, -, hr⟩ := hs.elem i _ (List.getElem?_eq_getElem hi)
    exact ih _ hp hr
/-- A result that may be. -/
def OkB (r : List Nd × Int) : Prop := OkA r.1 ∧ i64 r.2
theorem chain_i64 {kd : Int} : ∀ (l : List Int) (ns : List Nd) (out : Int), OkA ns → 0 ≤ kd ∧ kd ≤ 8 → (∀ z ∈ l, i64 z) → i64 out → i64 (chainN kd ns l out).2
  | [], _, _, _, _, _, h => h
  | z :: l, ns, out, hO, hk, hl, ho => chain_i64 l _ _ (okA_p hO (inN_P hk (hl z (by simp)) ho)) hk (fun y hy => hl y (by simp [hy])) (pN_i64 hO _)
theorem gput_i64 {ns : List Nd} (hO : OkA ns) (g : Bool) (l : List Int) : i64 (gputN g ns l).2 := by
  unfold gputN
  split
  · simp [i64]
  · rename_i ht
    have ht := there_ok ht
    have h2 := okA_wins (okA_nothing hO g) g
    have hpre := (nothing_pre g ns).trans (wins_pre g (nothingN g ns).1)
    have hw := wins_i64 (okA_nothing hO g) g
    have hno := nothing_i64 hO g
    generalize (winsN g (nothingN g ns).1).1 = ns2 at h2 hpre
    have hm := memN_ok h2 (kdG_or g) fun z hz => okId_pre hpre (ht z hz)
    have h3 := okA_gbytes h2 g (memN ns2 (kdG g) l)
    have hi := gbytes_i64 h2 g hm
    unfold restN
    split
    · exact hw
    · have hx : ∀ z ∈ (Lib.compact (sortI (dropI (nothingN g ns).2 (gbytesN g ns2 (memN ns2 (kdG g) l)).2))).reverse, i64 z := fun z hz => hi z (csd_mem (List.mem_reverse.1 hz))
      generalize (Lib.compact (sortI (dropI (nothingN g ns).2 (gbytesN g ns2 (memN ns2 (kdG g) l)).2))).reverse = xs at hx
      cases xs with
      | nil => exact hno
      | cons z xs => exact chain_i64 xs _ z h3 (kdG_le g) (fun y hy => hx y (by simp [hy])) (hx z (by simp))
theorem okB_or {ns : List Nd} (h : OkA ns) (g : Bool) (l : List Int) : OkB (gputN g ns l) := ⟨okA_gput h g l, gput_i64 h g l⟩
theorem okB_cat {ns : List Nd} (h : OkA ns) {x y : Int} (hx : i64 x) (hy : i64 y) : OkB (catN ns x y) := catF_i64 _ h hx hy
theorem okB_empty {ns : List Nd} (h : OkA ns) : OkB (emptyN ns) := ⟨okA_empty h, pN_i64 h _⟩
theorem okB_none {ns : List Nd} (h : OkA ns) : OkB (noneN ns) := ⟨okA_none h, pN_i64 h _⟩
theorem okB_not {ns : List Nd} (h : OkA ns) {x : Int} (hx : i64 x) : OkB (notN ns x) := by
  refine ⟨notN_ok h hx, ?_⟩
  unfold notN
  split
  · split
    · exact (nodeN_in h x).a
    · exact pN_i64 h _
  · simp [i64]
theorem okB_star {ns : List Nd} (h : OkA ns) {x : Int} (hx : i64 x) : OkB (starN ns x) := by
  refine ⟨starN_ok h hx, ?_⟩
  unfold starN
  split
  · split
    · exact pN_i64 h _
    split
    · exact hx
    · exact pN_i64 h _
  · simp [i64]
theorem okB_cats : ∀ (l : List Int) {ns : List Nd} {out : Int}, OkA ns → (∀ z ∈ l, i64 z) → i64 out → OkB (catsN ns l out)
  | [], _, _, h, _, ho => ⟨h, ho⟩
  | z :: l, ns, out, h, hl, ho => by
    have := okB_cat h (hl z (by simp)) ho
    exact okB_cats l this.1 (fun y hy => hl y (by simp [hy])) this.2
theorem okB_opt {x : Int} (hx : i64 x) : ∀ (n : Nat) {ns : List Nd} {out : Int}, OkA ns → i64 out → OkB (optN x n ns out)
  | 0, _, _, h, ho => ⟨h, ho⟩
  | n + 1, ns, out, h, ho => by
    have h1 := okB_cat (okA_empty h) hx ho
    have h2 := okB_or h1.1 false [(emptyN ns).2, (catN (emptyN ns).1 x out).2]
    exact okB_opt hx n h2.1 h2.2
theorem okB_rep {x : Int} (hx : i64 x) : ∀ (n : Nat) {ns : List Nd} {out : Int}, OkA ns → i64 out → OkB (repN x n ns out)
  | 0, _, _, h, ho => ⟨h, ho⟩
  | n + 1, ns, out, h, ho => by
    have h1 := okB_cat h hx ho
    exact okB_rep hx n h1.1 h1.2
theorem okB_times {ns : List Nd} (h : OkA ns) (lo hi : Int) {x : Int} (hx : i64 x) : OkB (timesN lo hi ns x) := by
  unfold timesN
  have h1 := okB_empty h
  have h2 : OkB (if hi < 0 then starN (emptyN ns).1 x else emptyN ns) := by
    split
    · exact okB_star h1.1 hx
    · exact h1
  have h3 := okB_opt hx (hi - lo).toNat h2.1 h2.2
  exact okB_rep hx lo.toNat h3.1 h3.2
theorem okB_looked {ns : List Nd} (h : OkA ns) (e k : Int) (neg : Bool) : OkB ((lookedN ns e k neg).1.1, (lookedN ns e k neg).2) := by
  unfold lookedN
  split
  · exact okB_none h
  · rename_i hk
    exact ⟨okA_p h ⟨by simp [i64], by simp [u64], by simp [u64], by simp [u64], by simp [u64], by unfold i64; simp only; omega, by simp [i64]⟩, pN_i64 h _⟩
mutual
theorem okB_R (lk : Re → Int) : ∀ (r : Re), InRe r → ∀ (ns : List Nd) (e : Int), OkA ns → OkB ((bR lk r ns e).1.1, (bR lk r ns e).2)
  | .mk k s0 s1 s2 s3 rs lo hi neg, hr, ns, e, h => by
    have hs : InS ⟨s0, s1, s2, s3⟩ := by cases hr; assumption
    have hp : ∀ p ∈ rs, InRe p := by cases hr; assumption
    have hL := okB_L lk rs hp
    rw [bR]
    split
    · exact okB_none h
    split
    · exact okB_empty h
    split
    · exact ⟨okA_bytes h hs, bytesN_i64 h _⟩
    split
    · have h1 := hL (emptyN ns).1 e (okA_empty h)
      exact okB_cats _ h1.1 (fun z hz => h1.2 z (List.mem_reverse.1 hz)) (pN_i64 h _)
    split
    · have h1 := hL ns e h
      exact okB_or h1.1 false _
    split
    · have h1 := hL ns e h
      exact okB_or h1.1 true _
    have hh : ∀ (l : List Int), (∀ z ∈ l, i64 z) → i64 (l.headD 0) := fun l hl => by
      cases l with
      | nil => simp [i64]
      | cons z l => exact hl z (by simp)
    split
    · have h1 := hL ns e h
      exact okB_not h1.1 (hh _ h1.2)
    split
    · have h1 := hL ns e h
      exact okB_times h1.1 lo hi (hh _ h1.2)
    · exact okB_looked h e _ neg
theorem okB_L (lk : Re → Int) : ∀ (l : List Re), (∀ p ∈ l, InRe p) → ∀ (ns : List Nd) (e : Int), OkA ns → OkA (bL lk l ns e).1.1 ∧ ∀ z ∈ (bL lk l ns e).2, i64 z
  | [], _, ns, e, h => ⟨h, by simp [bL]⟩
  | r :: l, hl, ns, e, h => by
    have h1 := okB_R lk r (hl r (by simp)) ns e h
    have h2 := okB_L lk l (fun p hp => hl p (by simp [hp])) (bR lk r ns e).1.1 (bR lk r ns e).1.2 h1.1
    rw [bL]
    refine ⟨h2.1, fun z hz => ?_⟩
    rcases List.mem_cons.1 hz with rfl | hz
    · exact h1.2
    · exact h2.2 z hz
end
end Go.Proofs.YtpdiljdklllmjaaGreat.ar
