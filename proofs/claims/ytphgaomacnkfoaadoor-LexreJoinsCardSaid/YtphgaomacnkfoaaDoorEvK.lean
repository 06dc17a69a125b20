/- More of slices and of own blocks. Conditions: none; over any program. -/
import Derived.Test.YtphgaomacnkfoaaDoorEvJ
namespace Go.Ev
open Go

theorem ble_of {a b : Nat} (h : a ≤ b) : Nat.ble a b = true := Nat.ble_eq_true_of_le h

theorem Sl.nil {α : Type} (m : Mem) (size : Nat) (R : List Value → α → Prop) : Sl m size R (.slice none 0 0) [] :=
  ⟨none, 0, 0, rfl, rfl, Nat.le_refl _, Nat.zero_le _, by simp⟩

/-- A slice of no address is empty. -/
theorem Sl.none_nil {α : Type} {m : Mem} {size : Nat} {R : List Value → α → Prop} {n c : Nat} {l : List α} (h : Sl m size R (.slice none n c) l) : l = [] := by
  obtain ⟨A, n', c', h1, h2, _, _, h5⟩ := h
  cases h1
  cases l with
  | nil => rfl
  | cons x l => obtain ⟨a, _, h, _⟩ := h5 0 x rfl; cases h

theorem Sl.lens {α : Type} {m : Mem} {size : Nat} {R : List Value → α → Prop} {A : Option Addr} {n c : Nat} {l : List α} (h : Sl m size R (.slice A n c) l) : n = l.length ∧ n ≤ c ∧ c ≤ maxLen := by
  obtain ⟨A', n', c', h1, h2, h3, h4, _⟩ := h
  cases h1
  exact ⟨h2, h3, h4⟩

theorem Sl.elem {α : Type} {m : Mem} {size : Nat} {R : List Value → α → Prop} {A : Option Addr} {n c : Nat} {l : List α} (h : Sl m size R (.slice A n c) l) :
    ∀ (i : Nat) (x : α), l[i]? = some x → ∃ a cs, A = some a ∧ cs.length = size ∧ Cells m (a.add (scale i size)) cs ∧ R cs x := by
  obtain ⟨A', n', c', h1, _, _, _, h5⟩ := h
  cases h1
  exact h5

/-- A part of a slice that is read. -/
theorem Sl.sub {α : Type} {m : Mem} {size : Nat} {R : List Value → α → Prop} {A : Option Addr} {n c : Nat} {l : List α} (h : Sl m size R (.slice A n c) l) {lo hi : Nat} (h1 : lo ≤ hi) (h2 : hi ≤ n) :
    Sl m size R (.slice (if c = lo then A else A.map (·.add (scale lo size))) (hi - lo) (c - lo)) ((l.take hi).drop lo) := by
  obtain ⟨A', n', c', h3, h4, h5, h6, h7⟩ := h
  cases h3
  refine ⟨_, _, _, rfl, by simp; omega, by omega, by omega, fun i x hx => ?_⟩
  rw [List.getElem?_drop, List.getElem?_take] at hx
  split at hx
  · rename_i hlt
    obtain ⟨a, cs, g1, g2, g3, g4⟩ := h7 _ _ hx
    have hne : c ≠ lo := by omega
    refine ⟨a.add (scale lo size), cs, by rw [if_neg hne, g1]; rfl, g2, ?_, g4⟩
    have e : (a.add (scale lo size)).add (scale i size) = a.add (scale (lo + i) size) := by
      rw [scale_eq, scale_eq, scale_eq, Nat.add_mul]
      by_cases e1 : lo * size = 0 <;> by_cases e2 : i * size = 0 <;> simp [Addr.add, e1, e2, Nat.add_assoc]
    rw [e]
    exact g3
  · cases hx

/-- A cell is stored to in a slice of the call's own. -/
theorem OwnS.set {te : Nat} {k : IntKind} {g n cap : Nat} {cur : List Value} {l : List Int} (h1 : n ≤ cap) (h2 : cap ≤ maxLen) (h3 : cur.length = cap * 1) (h4 : cur.take (n * 1) = ints k l) (hn : (ints k l).length = n * 1) (i : Nat) (z : Int) :
    OwnS te 1 (.slice (some ⟨g, 0, none⟩) n cap) (ints k (l.set i z)) [(g, .cells (toArr (cur.set i (.int k z))) te (0, 0))] := by
  refine ⟨n, by simpa [ints] using hn, .inr ⟨g, cap, _, rfl, rfl, h1, h2, by simpa using h3, ?_⟩⟩
  rw [List.take_set, h4]
  simp [ints, List.map_set]

section
variable {P : Program} {X : Tab} {m0 m : Mem} {S : List Nat} {w0 w : World}
theorem StReq.ownAt (hX : TabsOk P X) {t : Nat} {ti : TI} {L : Own} (ht : look X.T t = some (some ti)) (i : Nat) {b o j : Nat} {cs : List Value} {te : TypeId} {v : Value} {K : World → Prop}
    (hL : Loc m0 S w0 m L w) (hi : look L i = some (b, .cells (toArr cs) te (0, 0))) (hs : Nat.beq v.cells.toList.length ti.size = true) (hle : o + j + v.cells.toList.length ≤ cs.length)
    (h1 : v.cells.toList.all Value.oneCell' = true)
    (h : ∀ w', Loc m0 S w0 m (L.set i (b, .cells (toArr (spliceL cs (o + j) v.cells.toList)) te (0, 0))) w' → K w') : StReq P t w ((⟨b, o, none⟩ : Addr).add j) v K := by
  rw [addr_add]
  exact StReq.own hX ht i hL hi hs (ble_of hle) h1 h
theorem LdReq.ownAt (hX : TabsOk P X) {t : Nat} {ti : TI} {L : Own} (ht : look X.T t = some (some ti)) (hd : ti.d.isAgg = false) (i : Nat) {b o j : Nat} {cs : List Value} {te : TypeId} {fz : Nat × Nat} {v : Value} {K : Value → Prop}
    (hL : Loc m0 S w0 m L w) (hi : look L i = some (b, .cells (toArr cs) te fz)) (hv : cs[o + j]? = some v) (h : K v) : LdReq P t w ((⟨b, o, none⟩ : Addr).add j) K := by
  rw [addr_add]
  exact LdReq.own1 hX ht hd i hL hi (by rw [look_eq]; exact hv) h
/-- A few of the blocks. -/
theorem Loc.sublist {L L' : Own} (h : Loc m0 S w0 m L w) (hs : L'.Sublist L) : Loc m0 S w0 m L' w := by
  have e : ∀ l : Own, keys l = l.map (·.1) := fun l => by
    induction l with
    | nil => rfl
    | cons x l ih => simp [keys, ih]
  have hk : (keys L').Sublist (keys L) := by
    rw [e, e]
    exact hs.map _
  exact ⟨h.os, h.tape, h.output, h.size, h.fr, h.sub, fun b o hb hc => h.apart b o hb (hk.subset hc), fun x hx => h.own x (hs.subset hx), hk.nodup h.nodup,
    fun c hc => h.new c (hk.subset hc), h.le, h.mnew⟩
theorem Loc.one {L : Own} {x : Nat × Obj} (h : Loc m0 S w0 m L w) (i : Nat) (hi : look L i = some x) : Loc m0 S w0 m [x] w := by
  rw [look_eq] at hi
  exact h.sublist (List.singleton_sublist.2 (List.mem_of_getElem? hi))
theorem Loc.src {L : Own} (h : Loc m0 S w0 m L w) (i : Nat) {b : Nat} {cs : List Value} {te : TypeId} {fz : Nat × Nat} (hi : look L i = some (b, .cells (toArr cs) te fz)) :
    ∀ (j : Nat) (u : Value), cs[j]? = some u → ∃ a, some (⟨b, 0, none⟩ : Addr) = some a ∧ w.cell? (a.add j) = some u := by
  intro j u hu
  rw [look_eq] at hi
  refine ⟨_, rfl, ?_⟩
  rw [addr_add, Nat.zero_add]
  exact (h.ownCell (i := j) (List.mem_of_getElem? hi)).trans (by simpa [toArr] using hu)
theorem Loc.back {L1 L2 : Own} (h : Loc m0 S w0 m (L1 ++ L2) w) : Loc m0 S w0 m (L2 ++ L1) w := h.perm List.perm_append_comm
theorem Loc.mid {L1 L2 : Own} {x : Nat × Obj} (h : Loc m0 S w0 m (x :: (L1 ++ L2)) w) : Loc m0 S w0 m (L1 ++ x :: L2) w := h.perm List.perm_middle.symm
end

/-! What came in. -/
theorem rdf_struct {X : Tab} {m : Mem} {n t : Nat} {cs : List Value} {ti : TI} {fs : List (Nat × Nat)} (ht : tyO X t = some ti) (hd : ti.d = .struct fs) (h : Rdf X m n t cs) :
    cs.length = ti.size ∧ ∃ n', ∀ (i : Nat) (f : Nat × Nat) (tf : TI), fs[i]? = some f → tyO X f.2 = some tf → Rdf X m n' f.2 ((cs.drop f.1).take tf.size) := by
  cases n with
  | zero => exact h.elim
  | succ n =>
    unfold Rdf at h
    rw [ht] at h
    simp only [hd] at h
    refine ⟨h.1, n, fun i f tf hf htf => ?_⟩
    have := h.2 f (List.mem_of_getElem? hf)
    rw [htf] at this
    exact this

theorem rdf_slice' {α : Type} {X : Tab} {m : Mem} {n t e : Nat} {cs : List Value} {ti te : TI} {R : List Value → α → Prop} (ht : tyO X t = some ti) (hd : ti.d = .slice e) (hte : tyO X e = some te)
    (hR : ∀ n cs, cs.length = te.size → Rdf X m n e cs → ∃ x, R cs x) (h : Rdf X m n t cs) :
    ∃ v l, cs = [v] ∧ Sl m te.size R v l ∧ l.length * te.bytes ≤ reachBytes := by
  cases n with
  | zero => exact h.elim
  | succ n =>
    obtain ⟨A, len, cap, h1, _⟩ : ∃ A len cap, cs = [Value.slice A len cap] ∧ True := by
      have h' := h
      unfold Rdf at h'
      rw [ht] at h'
      simp only [hd, hte] at h'
      obtain ⟨A, len, cap, h1, _⟩ := h'
      exact ⟨A, len, cap, h1, trivial⟩
    subst h1
    obtain ⟨l, h2, h3⟩ := rdf_slice ht hd hte (hR n) h
    exact ⟨_, l, rfl, h2, h3⟩

/-- A slice of whatever that came in. -/
theorem Given.slice {α : Type} {X : Tab} {m : Mem} {t e : Nat} {v : Value} {ti te : TI} {R : List Value → α → Prop} (ht : tyO X t = some ti) (hd : ti.d = .slice e) (hte : tyO X e = some te)
    (hR : ∀ n cs, cs.length = te.size → Rdf X m n e cs → ∃ x, R cs x) (h : Given X m t v) : ∃ l, Sl m te.size R v l ∧ l.length * te.bytes ≤ reachBytes := by
  obtain ⟨hs, n, hr⟩ := h
  unfold Shp at hs
  rw [ht] at hs
  simp only [hd, TD.isAgg] at hs
  rw [hs] at hr
  obtain ⟨v', l, h1, h2, h3⟩ := rdf_slice' ht hd hte hR hr
  cases h1
  exact ⟨l, h2, h3⟩

theorem Given.agg {X : Tab} {m : Mem} {t : Nat} {v : Value} {ti : TI} (ht : tyO X t = some ti) (hd : ti.d.isAgg = true) (h : Given X m t v) : ∃ cs n, v = .agg (toArr cs) ∧ Rdf X m n t cs := by
  obtain ⟨hs, n, hr⟩ := h
  unfold Shp at hs
  rw [ht] at hs
  simp only [hd] at hs
  obtain ⟨cs, rfl⟩ := hs
  exact ⟨cs, n, rfl, by simpa [Value.cells, toArr] using hr⟩
end Go.Ev
