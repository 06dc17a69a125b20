/- Rows of cells in a block of one's own; what came in, with how deep it was read. Conditions: none; over any program. -/
import Derived.Test.YtphgaomacnkfoaaDoorEvK
namespace Go.Ev
open Go

theorem splice_append (p X : List Value) : ∀ (vs : List Value) (j : Nat), spliceL (p ++ X) (p.length + j) vs = p ++ spliceL X j vs := by
  intro vs
  induction vs generalizing X with
  | nil => intro j; rfl
  | cons v vs ih =>
    intro j
    simp only [spliceL]
    rw [List.set_append_right _ _ (by omega), show p.length + j - p.length = j by omega, Nat.add_assoc]
    exact ih _ _

theorem splice_zero : ∀ (vs r X : List Value), vs.length = r.length → spliceL (r ++ X) 0 vs = vs ++ X := by
  intro vs
  induction vs with
  | nil => intro r X h; have : r = [] := List.eq_nil_of_length_eq_zero (by simpa using h.symm); subst this; rfl
  | cons v vs ih =>
    intro r X h
    cases r with
    | nil => simp at h
    | cons y r =>
      simp only [spliceL, List.cons_append, List.set_cons_zero]
      have := splice_append [v] (r ++ X) vs 0
      simp only [List.length_singleton, List.singleton_append, Nat.add_zero] at this
      rw [Nat.zero_add, this, ih r X (by simpa using h)]

/-- A row is stored to. -/
theorem splice_rows {size : Nat} : ∀ (blk : List (List Value)) (i : Nat) (vs : List Value), (∀ r ∈ blk, r.length = size) → i < blk.length → vs.length = size → spliceL blk.flatten (i * size) vs = (blk.set i vs).flatten := by
  intro blk
  induction blk with
  | nil => intro i vs _ h; simp at h
  | cons r blk ih =>
    intro i vs hs hi hv
    have hr := hs r (by simp)
    cases i with
    | zero =>
      simp only [List.flatten_cons, Nat.zero_mul, List.set_cons_zero]
      exact splice_zero vs r _ (by omega)
    | succ i =>
      have := splice_append r blk.flatten vs (i * size)
      simp only [List.flatten_cons, List.set_cons_succ]
      rw [show (i + 1) * size = r.length + i * size by rw [hr, Nat.add_mul, Nat.one_mul, Nat.add_comm], this]
      rw [ih i vs (fun x hx => hs x (by simp [hx])) (by simpa using hi) hv]

theorem flat_len {size : Nat} : ∀ (blk : List (List Value)), (∀ r ∈ blk, r.length = size) → blk.flatten.length = blk.length * size := by
  intro blk
  induction blk with
  | nil => intro _; simp
  | cons r blk ih => intro h; simp only [List.flatten_cons, List.length_append, List.length_cons]; rw [ih (fun x hx => h x (by simp [hx])), h r (by simp), Nat.add_mul, Nat.one_mul, Nat.add_comm]

theorem flat_get {size : Nat} : ∀ (blk : List (List Value)) (i j : Nat) (r : List Value), (∀ r ∈ blk, r.length = size) → blk[i]? = some r → j < size → blk.flatten[i * size + j]? = r[j]? := by
  intro blk
  induction blk with
  | nil => intro i j r _ h; simp at h
  | cons x blk ih =>
    intro i j r hs h hj
    have hx := hs x (by simp)
    cases i with
    | zero =>
      simp only [List.getElem?_cons_zero, Option.some.injEq] at h
      subst h
      rw [List.flatten_cons, Nat.zero_mul, Nat.zero_add, List.getElem?_append_left (by omega)]
    | succ i =>
      simp only [List.getElem?_cons_succ] at h
      rw [List.flatten_cons, List.getElem?_append_right (by rw [hx, Nat.add_mul]; omega), show (i + 1) * size + j - x.length = i * size + j by rw [hx, Nat.add_mul]; omega]
      exact ih i j r (fun y hy => hs y (by simp [hy])) h hj

theorem zeros_rows (n : Nat) (z : List Value) : zerosL n z = (List.replicate n z).flatten := by
  induction n with
  | zero => rfl
  | succ n ih => rw [List.replicate_succ, List.flatten_cons, ← ih]; rfl

section
variable {P : Program} {X : Tab} {m0 m : Mem} {S : List Nat} {w0 w : World}

/-- Rows of one's own are handed over. -/
theorem rows_freeze {α : Type} {te size g n cap : Nat} {blk : List (List Value)} {l : List α} {R : List Value → α → Prop} {L : Own} (hL : Loc m0 S w0 m ((g, .cells (toArr blk.flatten) te (0, 0)) :: L) w)
    (hn : n = l.length) (hle : n ≤ cap) (hmax : cap ≤ maxLen) (hs : ∀ r ∈ blk, r.length = size) (h : ∀ (i : Nat) (x : α), l[i]? = some x → ∃ cs, blk[i]? = some cs ∧ R cs x) :
    ∃ m', Loc m0 S w0 m' L w ∧ Mem.Le m m' ∧ Sl m' size R (.slice (some ⟨g, 0, none⟩) n cap) l := by
  have hap : m g = none := by
    cases hm : m g with
    | none => rfl
    | some o => exact absurd (by simp [keys]) (hL.apart g o hm)
  refine ⟨m.add g (.cells (toArr blk.flatten) te (0, 0)), hL.freeze, fun b o hb => ?_, some ⟨g, 0, none⟩, n, cap, rfl, hn, hle, hmax, fun i x hx => ?_⟩
  · by_cases e : b = g
    · subst e; rw [hap] at hb; cases hb
    · rw [Mem.add_other _ _ e]; exact hb
  · obtain ⟨cs, h1, h2⟩ := h i x hx
    have hlen := hs cs (List.mem_of_getElem? h1)
    refine ⟨_, cs, rfl, hlen, fun j v hj => ?_, h2⟩
    rw [addr_add, addr_add, scale_eq, Nat.zero_add]
    have hj' : j < size := by rw [← hlen]; exact (List.getElem?_eq_some_iff.1 hj).1
    have := flat_get blk i j cs hs h1 hj'
    simp only [mcell, ocell, Mem.add_same, toArr, List.getElem?_toArray]
    rw [this]; exact hj

theorem rows_load (hX : TabsOk P X) {t : Nat} {ti : TI} {L : Own} (ht : look X.T t = some (some ti)) (hd : ti.d.isAgg = true) (q : Nat) {g i te : Nat} {fz : Nat × Nat} {blk : List (List Value)} {r : List Value} {K : Value → Prop}
    (hL : Loc m0 S w0 m L w) (hi : look L q = some (g, .cells (toArr blk.flatten) te fz)) (hs : ∀ r ∈ blk, r.length = ti.size) (hr : blk[i]? = some r) (h : K (.agg (toArr r))) :
    LdReq P t w ((⟨g, 0, none⟩ : Addr).add (scale i ti.size)) K := by
  rw [look_eq] at hi
  have hlen := hs r (List.mem_of_getElem? hr)
  refine ⟨⟨_, run_loadVar_agg (hX.t _ _ ht) hd hlen (fun j v hj => ?_), h⟩⟩
  rw [addr_add, addr_add, scale_eq, Nat.zero_add]
  have hj' : j < ti.size := by rw [← hlen]; exact (List.getElem?_eq_some_iff.1 hj).1
  have := flat_get blk i j r hs hr hj'
  exact (hL.ownCell (List.mem_of_getElem? hi)).trans (by simp only [toArr, List.getElem?_toArray]; rw [this]; exact hj)

/-- A row is stored to, whole. -/
theorem rows_store (hX : TabsOk P X) {t : Nat} {ti : TI} {L : Own} (ht : look X.T t = some (some ti)) (q : Nat) {g i te : Nat} {blk : List (List Value)} {v : Value} {K : World → Prop}
    (hL : Loc m0 S w0 m L w) (hi : look L q = some (g, .cells (toArr blk.flatten) te (0, 0))) (hs : ∀ r ∈ blk, r.length = ti.size) (hr : i < blk.length) (hv : v.cells.toList.length = ti.size)
    (h1 : v.cells.toList.all Value.oneCell' = true) (h : ∀ w', Loc m0 S w0 m (L.set q (g, .cells (toArr (blk.set i v.cells.toList).flatten) te (0, 0))) w' → K w') :
    StReq P t w ((⟨g, 0, none⟩ : Addr).add (scale i ti.size)) v K := by
  refine StReq.ownAt hX ht q hL hi (by rw [hv]; exact Nat.beq_refl _) ?_ h1 fun w' hw' => h w' ?_
  · rw [flat_len blk hs, scale_eq, hv, Nat.zero_add]
    have : (i + 1) * ti.size ≤ blk.length * ti.size := Nat.mul_le_mul_right _ hr
    rw [Nat.add_mul, Nat.one_mul] at this
    exact this
  · rw [scale_eq, Nat.zero_add, splice_rows blk i _ hs hr hv] at hw'
    exact hw'
end

/-! What came in. -/
theorem rdf_structL {X : Tab} {m : Mem} {n t : Nat} {cs : List Value} {ti : TI} {fs : List (Nat × Nat)} (ht : tyO X t = some ti) (hd : ti.d = .struct fs) (h : Rdf X m n t cs) :
    cs.length = ti.size ∧ ∃ n', n' < n ∧ ∀ (i : Nat) (f : Nat × Nat) (tf : TI), fs[i]? = some f → tyO X f.2 = some tf → Rdf X m n' f.2 ((cs.drop f.1).take tf.size) := by
  cases n with
  | zero => exact h.elim
  | succ n =>
    unfold Rdf at h
    rw [ht] at h
    simp only [hd] at h
    refine ⟨h.1, n, Nat.lt_succ_self n, fun i f tf hf htf => ?_⟩
    have := h.2 f (List.mem_of_getElem? hf)
    rw [htf] at this
    exact this

theorem rdf_arrayL {X : Tab} {m : Mem} {n t : Nat} {cs : List Value} {ti : TI} {k e : Nat} {te : TI} (ht : tyO X t = some ti) (hd : ti.d = .array k e) (hte : tyO X e = some te) (h : Rdf X m n t cs) :
    cs.length = ti.size ∧ ∃ n', n' < n ∧ ∀ i, i < k → Rdf X m n' e ((cs.drop (i * te.size)).take te.size) := by
  cases n with
  | zero => exact h.elim
  | succ n =>
    unfold Rdf at h
    rw [ht] at h
    simp only [hd, hte] at h
    exact ⟨h.1, n, Nat.lt_succ_self n, h.2⟩

theorem rdf_sliceL {α : Type} {X : Tab} {m : Mem} {n t e : Nat} {cs : List Value} {ti te : TI} {R : List Value → α → Prop} (ht : tyO X t = some ti) (hd : ti.d = .slice e) (hte : tyO X e = some te)
    (hR : ∀ n' cs, n' < n → cs.length = te.size → Rdf X m n' e cs → ∃ x, R cs x) (h : Rdf X m n t cs) :
    ∃ A k c l, cs = [.slice A k c] ∧ Sl m te.size R (.slice A k c) l ∧ l.length * te.bytes ≤ reachBytes := by
  cases n with
  | zero => exact h.elim
  | succ n =>
    obtain ⟨A, len, cap, h1⟩ : ∃ A len cap, cs = [Value.slice A len cap] := by
      have h' := h
      unfold Rdf at h'
      rw [ht] at h'
      simp only [hd, hte] at h'
      obtain ⟨A, len, cap, h1, _⟩ := h'
      exact ⟨A, len, cap, h1⟩
    subst h1
    obtain ⟨l, h2, h3⟩ := rdf_slice ht hd hte (fun cs hc hr => hR n cs (Nat.lt_succ_self n) hc hr) h
    exact ⟨_, _, _, l, rfl, h2, h3⟩
section
variable {m0 m : Mem} {S : List Nat} {w0 w : World}
/-- A function that tells a value, at its end. -/
theorem RetReq.bool {b c : Bool} (hL : Loc m0 S w0 m [] w) (h : b = c) : RetReq m0 S w0 (fun m' L' v => L' = [] ∧ (fun (_ : Mem) u => u = Value.bool c) m' v) (.bool b) w := by
  subst h; exact RetReq.mk hL ⟨rfl, rfl⟩
theorem RetReq.int {k : IntKind} {b c : Int} (hL : Loc m0 S w0 m [] w) (h : b = c) : RetReq m0 S w0 (fun m' L' v => L' = [] ∧ (fun (_ : Mem) u => u = Value.int k c) m' v) (.int k b) w := by
  subst h; exact RetReq.mk hL ⟨rfl, rfl⟩
end
end Go.Ev
