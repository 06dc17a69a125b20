/- Tables of truths in memory: read, one's own, handed over; blank ones. Conditions: none. -/
import Derived.Test.YtpdiljdklllmjaaGreatEv
import Derived.Test.YtpdiljdklllmjaaGreatTab

namespace Go.Proofs.YtpdiljdklllmjaaGreat.tabs
open Go Go.Ev Go.Proofs

/-- A table of n places reads as f. -/
def RepTab (m : Mem) (v : Value) (n : Nat) (f : Nat → Nat → Bool) : Prop :=
  ∃ A c, v = .slice A n c ∧ n ≤ c ∧ c ≤ maxLen ∧ ∀ i, i < n → ∃ a, A = some a ∧ ∃ A' c', mcell m (a.add (scale i 1)) = some (.slice A' n c') ∧
    ∀ j, j < n → ∃ a', A' = some a' ∧ mcell m (a'.add (scale j 1)) = some (.bool (f i j))

theorem mcell_le {m m' : Mem} (h : Mem.Le m m') {a : Addr} {v : Value} (hv : mcell m a = some v) : mcell m' a = some v := by
  unfold mcell at *
  cases hs : a.spot with
  | some s => rw [hs] at hv; cases hv
  | none =>
    rw [hs] at hv
    simp only at hv ⊢
    cases hb : m a.block with
    | none => rw [hb] at hv; cases hv
    | some o => rw [h _ _ hb]; rw [hb] at hv; exact hv

theorem RepTab.le {m m' : Mem} {v : Value} {n : Nat} {f : Nat → Nat → Bool} (hm : Mem.Le m m') (h : RepTab m v n f) : RepTab m' v n f := by
  obtain ⟨A, c, rfl, h1, h2, h3⟩ := h
  refine ⟨A, c, rfl, h1, h2, fun i hi => ?_⟩
  obtain ⟨a, rfl, A', c', h4, h5⟩ := h3 i hi
  refine ⟨a, rfl, A', c', mcell_le hm h4, fun j hj => ?_⟩
  obtain ⟨a', rfl, h6⟩ := h5 j hj
  exact ⟨a', rfl, mcell_le hm h6⟩
theorem RepTab.congr {m : Mem} {v : Value} {n : Nat} {f g : Nat → Nat → Bool} (h : RepTab m v n f) (hfg : ∀ i j, i < n → j < n → f i j = g i j) : RepTab m v n g := by
  obtain ⟨A, c, rfl, h1, h2, h3⟩ := h
  refine ⟨A, c, rfl, h1, h2, fun i hi => ?_⟩
  obtain ⟨a, rfl, A', c', h4, h5⟩ := h3 i hi
  refine ⟨a, rfl, A', c', h4, fun j hj => ?_⟩
  obtain ⟨a', rfl, h6⟩ := h5 j hj
  exact ⟨a', rfl, by rw [← hfg i j hi hj]; exact h6⟩
theorem RepTab.form {m : Mem} {v : Value} {n : Nat} {f : Nat → Nat → Bool} (h : RepTab m v n f) : ∃ A c, v = .slice A n c := by
  obtain ⟨A, c, rfl, -⟩ := h; exact ⟨A, c, rfl⟩

def upd (F : Nat → Nat → Bool) (i j : Nat) (v : Bool) : Nat → Nat → Bool := fun a b => if a = i ∧ b = j then v else F a b
theorem upd_same {F : Nat → Nat → Bool} {i j : Nat} {v : Bool} : upd F i j v i j = v := by unfold upd; rw [if_pos ⟨rfl, rfl⟩]
theorem upd_other {F : Nat → Nat → Bool} {i j a b : Nat} {v : Bool} (h : ¬(a = i ∧ b = j)) : upd F i j v a b = F a b := by unfold upd; rw [if_neg h]

def rowC (n : Nat) (F : Nat → Nat → Bool) (i : Nat) : List Value := (List.range n).map fun j => Value.bool (F i j)
/-- The first k rows, each in a block of one's own. -/
def rowsL (bs : Nat → Nat) (n : Nat) (F : Nat → Nat → Bool) (k : Nat) : Ev.Own := (List.range k).map fun i => (bs i, Obj.cells (toArr (rowC n F i)) 4 (0, 0))

theorem rowC_get {n : Nat} {F : Nat → Nat → Bool} {i j : Nat} (hj : j < n) : (rowC n F i)[j]? = some (.bool (F i j)) := by
  unfold rowC; rw [List.getElem?_map, List.getElem?_range hj]; rfl
theorem rowC_len {n : Nat} {F : Nat → Nat → Bool} {i : Nat} : (rowC n F i).length = n := by unfold rowC; simp
theorem rowC_set {n : Nat} {F : Nat → Nat → Bool} {i j : Nat} {v : Bool} : (rowC n F i).set j (.bool v) = rowC n (upd F i j v) i := by
  refine List.ext_getElem? fun q => ?_
  by_cases hq : q < n
  · rw [rowC_get hq, List.getElem?_set]
    by_cases e : j = q
    · subst e; rw [if_pos rfl, if_pos (by rw [rowC_len]; exact hq), upd_same]
    · rw [if_neg e, rowC_get hq, upd_other (by omega)]
  · rw [List.getElem?_eq_none (by rw [List.length_set, rowC_len]; omega), List.getElem?_eq_none (by rw [rowC_len]; omega)]
theorem rowsL_get {bs : Nat → Nat} {n : Nat} {F : Nat → Nat → Bool} {k i : Nat} (hi : i < k) : (rowsL bs n F k)[i]? = some (bs i, Obj.cells (toArr (rowC n F i)) 4 (0, 0)) := by
  unfold rowsL; rw [List.getElem?_map, List.getElem?_range hi]; rfl
theorem rowsL_len {bs : Nat → Nat} {n : Nat} {F : Nat → Nat → Bool} {k : Nat} : (rowsL bs n F k).length = k := by unfold rowsL; simp
theorem rowsL_set {bs : Nat → Nat} {n : Nat} {F : Nat → Nat → Bool} {k i j : Nat} {v : Bool} :
    (rowsL bs n F k).set i (bs i, Obj.cells (toArr (rowC n (upd F i j v) i)) 4 (0, 0)) = rowsL bs n (upd F i j v) k := by
  refine List.ext_getElem? fun q => ?_
  by_cases hq : q < k
  · rw [rowsL_get hq, List.getElem?_set]
    by_cases e : i = q
    · subst e; rw [if_pos rfl, if_pos (by rw [rowsL_len]; exact hq)]
    · rw [if_neg e, rowsL_get hq]
      have : rowC n F q = rowC n (upd F i j v) q := by
        unfold rowC; refine List.map_congr_left fun x _ => ?_
        rw [upd_other (by omega)]
      rw [this]
  · rw [List.getElem?_eq_none (by rw [List.length_set, rowsL_len]; omega), List.getElem?_eq_none (by rw [rowsL_len]; omega)]

section
variable {m0 m : Mem} {S : List Nat} {w0 w : World}

theorem LdReq.tabc {t : Nat} {ti : TI} {L : Ev.Own} {K : Value → Prop} (ht : Ev.look X.T t = some (some ti)) (hd : ti.d.isAgg = false) (q : Nat) {b n i j te : Nat} {fz : Nat × Nat} {F : Nat → Nat → Bool}
    (hL : Ev.Loc m0 S w0 m L w) (hi : L[q]? = some (b, .cells (toArr (rowC n F i)) te fz)) (hj : j < n) (h : K (.bool (F i j))) : LdReq Tryz.prog t w ((⟨b, 0, none⟩ : Addr).add (scale j 1)) K :=
  LdReq.ownAt hX ht hd q hL (by rw [look_eq]; exact hi) (by rw [scale_eq, Nat.zero_add, Nat.mul_one]; exact rowC_get hj) h

theorem StReq.tabc {t : Nat} {ti : TI} {L : Ev.Own} {K : World → Prop} (ht : Ev.look X.T t = some (some ti)) (hsz : ti.size = 1) (q : Nat) {b n i j te : Nat} {F : Nat → Nat → Bool} {v : Bool}
    (hL : Ev.Loc m0 S w0 m L w) (hi : L[q]? = some (b, .cells (toArr (rowC n F i)) te (0, 0))) (hj : j < n)
    (h : ∀ w', Ev.Loc m0 S w0 m (L.set q (b, .cells (toArr (rowC n (upd F i j v) i)) te (0, 0))) w' → K w') : StReq Tryz.prog t w ((⟨b, 0, none⟩ : Addr).add (scale j 1)) (.bool v) K := by
  refine StReq.ownAt hX ht q hL (by rw [look_eq]; exact hi) (by rw [hsz]; rfl) ?_ rfl fun w' hw' => h w' ?_
  · rw [rowC_len, scale_eq]; show 0 + j * 1 + 1 ≤ n; omega
  · have e : spliceL (rowC n F i) (0 + scale j 1) (Value.bool v).cells.toList = rowC n (upd F i j v) i := by
      show (rowC n F i).set (0 + scale j 1) (.bool v) = _
      rw [scale_eq, Nat.zero_add, Nat.mul_one, rowC_set]
    rw [e] at hw'; exact hw'

/-- Handed over, all of a list of blocks. -/
theorem freezeAll : ∀ (L : Ev.Own) {L2 : Ev.Own} {m : Mem}, Ev.Loc m0 S w0 m (L ++ L2) w → ∃ m', Ev.Loc m0 S w0 m' L2 w ∧ Mem.Le m m' ∧ ∀ x ∈ L, m' x.1 = some x.2 := by
  intro L
  induction L with
  | nil => intro L2 m h; exact ⟨m, h, Mem.Le.refl m, fun x hx => by simp at hx⟩
  | cons y L ih =>
    intro L2 m h
    have hle := h.le_add
    obtain ⟨m', h1, h2, h3⟩ := ih h.freeze
    refine ⟨m', h1, hle.trans h2, fun x hx => ?_⟩
    rcases List.mem_cons.1 hx with rfl | hx
    · exact h2 _ _ (Mem.add_same _ _ _)
    · exact h3 x hx

/-- A table of one's own: the outer slice is handed over, the rows are one's own. -/
def OwnTab (m : Mem) (u : Value) (n : Nat) (F : Nat → Nat → Bool) (L : Ev.Own) : Prop :=
  ∃ g bs, u = .slice (some ⟨g, 0, none⟩) n n ∧ n ≤ maxLen ∧ (∀ i, i < n → mcell m ((⟨g, 0, none⟩ : Addr).add (scale i 1)) = some (.slice (some ⟨bs i, 0, none⟩) n n)) ∧ L = rowsL bs n F n

theorem OwnTab.freeze {u : Value} {n : Nat} {F : Nat → Nat → Bool} {L L2 : Ev.Own} (h : OwnTab m u n F L) (hL : Ev.Loc m0 S w0 m (L ++ L2) w) : ∃ m', Ev.Loc m0 S w0 m' L2 w ∧ Mem.Le m m' ∧ RepTab m' u n F := by
  obtain ⟨g, bs, rfl, h1, h2, rfl⟩ := h
  obtain ⟨m', h3, h4, h5⟩ := freezeAll _ hL
  refine ⟨m', h3, h4, _, n, rfl, Nat.le_refl n, h1, fun i hi => ⟨_, rfl, _, n, mcell_le h4 (h2 i hi), fun j hj => ⟨_, rfl, ?_⟩⟩⟩
  have := h5 _ (List.mem_of_getElem? (rowsL_get (bs := bs) (n := n) (F := F) hi))
  rw [addr_add, scale_eq, Nat.zero_add, Nat.mul_one]
  simp only [mcell, this, ocell, toArr, List.getElem?_toArray]
  exact rowC_get hj
end

def outC (n : Nat) (bs : Nat → Nat) (k : Nat) : List Value := (List.range n).map fun i => if i < k then Value.slice (some ⟨bs i, 0, none⟩) n n else .slice none 0 0
theorem outC_get {n k i : Nat} {bs : Nat → Nat} (hi : i < n) : (outC n bs k)[i]? = some (if i < k then Value.slice (some ⟨bs i, 0, none⟩) n n else .slice none 0 0) := by
  unfold outC; rw [List.getElem?_map, List.getElem?_range hi]; rfl
theorem outC_len {n k : Nat} {bs : Nat → Nat} : (outC n bs k).length = n := by unfold outC; simp

theorem Blank_fn (m : Mem) (n : Nat) (hn : n ≤ 1000) : Ev.Fn Tryz.prog 25 [.int .i64 n] m [] fun m' L' u => OwnTab m' u n (fun _ _ => false) L' := by
  have hmx : maxLen = 9223372036854775807 := rfl
  refine Fn.enter (N := 19) hX Tryz.func25 rfl rfl (by show _ ≤ _; simp) (fun w0 hL => ?_)
  conv => whnf
  conv => whnf
  repeat ((first | refine zT ?_ | refine zF ?_ | refine zL hX hL ?_ | refine zB hX hL ?_ | (refine zS hX hL ?_; clear hL; intro w hL) | refine zI ?_ | refine zG hX ?_ | refine zO ?_); conv => whnf)
  refine RunReq.make hX rfl rfl rfl rfl n n rfl rfl (Nat.le_refl _) (by omega) rfl hL ?_
  clear hL
  intro g w hL
  have hz : zerosL n [Value.slice none 0 0] = outC n (fun _ => 0) 0 := by
    rw [zeros_rows]
    refine List.ext_getElem? fun q => ?_
    by_cases hq : q < n
    · rw [outC_get hq, if_neg (by omega)]
      have := flat_get (size := 1) (List.replicate n [Value.slice none 0 0]) q 0 [Value.slice none 0 0] (by intro r hr; rw [(List.mem_replicate.1 hr).2]; rfl) (by rw [List.getElem?_replicate, if_pos hq]) (by omega)
      rw [Nat.mul_one, Nat.add_zero] at this
      rw [this]; rfl
    · rw [List.getElem?_eq_none (by simp; omega), List.getElem?_eq_none (by rw [outC_len]; omega)]
  replace hL : Ev.Loc m [] w0 m [(g, .cells (toArr (zerosL n [Value.slice none 0 0])) 51 (0, 0))] w := hL
  rw [hz] at hL
  conv => whnf
  repeat ((first | refine zT ?_ | refine zF ?_ | refine zL hX hL ?_ | refine zB hX hL ?_ | (refine zS hX hL ?_; clear hL; intro w hL) | refine zI ?_ | refine zG hX ?_ | refine zO ?_); conv => whnf)
  refine LoopReq.inv hX (fun j : Nat => [(9, .int .i64 j)]) [0, 3, 8]
    (fun j w => j ≤ n ∧ ∃ bs, Ev.Loc m [] w0 m ((g, .cells (toArr (outC n bs j)) 51 (0, 0)) :: rowsL bs n (fun _ _ => false) j) w) (fun j => n - j) 0
    ⟨by omega, fun _ => 0, hL⟩ ⟨rfl, trivial⟩ ?_
  clear hL
  rintro j w f ⟨hj, bs, hL⟩
  conv => whnf
  repeat ((first | refine zT ?_ | refine zF ?_ | refine zL hX hL ?_ | refine zB hX hL ?_ | (refine zS hX hL ?_; clear hL; intro w hL) | refine zI ?_ | refine zG hX ?_ | refine zO ?_); conv => whnf)
  refine BrReq.dec (fun hlt => ?_) (fun hlt => ?_)
  · conv => whnf
    repeat ((first | refine zT ?_ | refine zF ?_ | refine zL hX hL ?_ | refine zB hX hL ?_ | (refine zS hX hL ?_; clear hL; intro w hL) | refine zI ?_ | refine zG hX ?_ | refine zO ?_); conv => whnf)
    refine RunReq.make hX rfl rfl rfl rfl n n rfl rfl (Nat.le_refl _) (by omega) rfl hL ?_
    clear hL
    intro b w hL
    conv => whnf
    repeat ((first | refine Idx2Req.mk j _ rfl (by omega) rfl ?_ | refine zT ?_ | refine zF ?_ | refine zL hX hL ?_ | refine zB hX hL ?_ | (refine zS hX hL ?_; clear hL; intro w hL) | refine zI ?_ | refine zG hX ?_ | refine zO ?_); conv => whnf)
    refine StReq.ownAt hX rfl 1 hL rfl rfl (by rw [outC_len]; show 0 + scale j 1 + 1 ≤ n; rw [scale_eq]; omega) rfl ?_
    clear hL
    intro w hL
    have e1 : spliceL (outC n bs j) (0 + scale j 1) (Value.slice (some ⟨b, 0, none⟩) n n).cells.toList = outC n (fun i => if i = j then b else bs i) (j + 1) := by
      show (outC n bs j).set (0 + scale j 1) (.slice (some ⟨b, 0, none⟩) n n) = _
      rw [scale_eq, Nat.zero_add, Nat.mul_one]
      refine List.ext_getElem? fun q => ?_
      by_cases hq : q < n
      · rw [outC_get hq, List.getElem?_set]
        by_cases e : j = q
        · subst e; rw [if_pos rfl, if_pos (by rw [outC_len]; exact hq), if_pos (by omega), if_pos rfl]
        · rw [if_neg e, outC_get hq]
          by_cases e2 : q < j
          · rw [if_pos e2, if_pos (by omega), if_neg (by omega)]
          · rw [if_neg e2, if_neg (by omega)]
      · rw [List.getElem?_eq_none (by rw [List.length_set, outC_len]; omega), List.getElem?_eq_none (by rw [outC_len]; omega)]
    have e2 : zerosL n [Value.bool false] = rowC n (fun _ _ => false) j := by
      rw [zeros_rows]
      refine List.ext_getElem? fun q => ?_
      by_cases hq : q < n
      · rw [rowC_get hq]
        have := flat_get (size := 1) (List.replicate n [Value.bool false]) q 0 [Value.bool false] (by intro r hr; rw [(List.mem_replicate.1 hr).2]; rfl) (by rw [List.getElem?_replicate, if_pos hq]) (by omega)
        rw [Nat.mul_one, Nat.add_zero] at this
        rw [this]; rfl
      · rw [List.getElem?_eq_none (by simp; omega), List.getElem?_eq_none (by rw [rowC_len]; omega)]
    have e3 : rowsL bs n (fun _ _ => false) j ++ [(b, Obj.cells (toArr (rowC n (fun _ _ => false) j)) 4 (0, 0))] = rowsL (fun i => if i = j then b else bs i) n (fun _ _ => false) (j + 1) := by
      unfold rowsL
      rw [List.range_succ, List.map_append, List.map_cons, List.map_nil]
      simp only [if_pos]
      refine congrArg (· ++ _) ?_
      refine List.map_congr_left fun x hx => ?_
      rw [if_neg (by have := List.mem_range.1 hx; omega)]
    replace hL : Ev.Loc m [] w0 m ([(b, .cells (toArr (zerosL n [Value.bool false])) 4 (0, 0))] ++ ((g, .cells (toArr (spliceL (outC n bs j) (0 + scale j 1) (Value.slice (some ⟨b, 0, none⟩) n n).cells.toList)) 51 (0, 0)) :: rowsL bs n (fun _ _ => false) j)) w := hL
    rw [e1, e2] at hL
    replace hL := hL.back
    replace hL : Ev.Loc m [] w0 m ((g, .cells (toArr (outC n (fun i => if i = j then b else bs i) (j + 1))) 51 (0, 0)) :: (rowsL bs n (fun _ _ => false) j ++ [(b, .cells (toArr (rowC n (fun _ _ => false) j)) 4 (0, 0))])) w := hL
    rw [e3] at hL
    conv => whnf
    repeat ((first | refine zT ?_ | refine zF ?_ | refine zL hX hL ?_ | refine zB hX hL ?_ | (refine zS hX hL ?_; clear hL; intro w hL) | refine zI ?_ | refine zG hX ?_ | refine zO ?_); conv => whnf)
    refine ⟨j + 1, ⟨by omega, _, hL⟩, by first | omega | (simp only; omega), ?_, ?_⟩
    · repeat (first | exact trivial | (refine And.intro (by (conv => lhs; whnf) <;> (conv => rhs; whnf) <;> (first | rfl)) ?_))
    · repeat (first | exact trivial | (refine And.intro (by (conv => lhs; whnf) <;> (conv => rhs; whnf) <;> (first | rfl)) ?_))
  · conv => whnf
    repeat ((first | refine zT ?_ | refine zF ?_ | refine zL hX hL ?_ | refine zB hX hL ?_ | (refine zS hX hL ?_; clear hL; intro w hL) | refine zI ?_ | refine zG hX ?_ | refine zO ?_); conv => whnf)
    have hjn : j = n := by omega
    subst hjn
    refine RetReq.mk hL.freeze ⟨g, bs, rfl, by omega, fun i hi => ?_, rfl⟩
    rw [addr_add, scale_eq, Nat.zero_add, Nat.mul_one]
    simp only [mcell, ocell, Mem.add_same, toArr, List.getElem?_toArray]
    rw [outC_get hi, if_pos hi]
end Go.Proofs.YtpdiljdklllmjaaGreat.tabs
