/- Single cells of rows in a block of one's own; own blocks in any order. Conditions: none; over any program. -/
import Derived.Test.YtphgaomacnkfoaaDoorEvL
namespace Go.Ev
open Go

theorem set_rows {size : Nat} : ∀ (blk : List (List Value)) (i j : Nat) (r : List Value) (v : Value), (∀ r ∈ blk, r.length = size) → blk[i]? = some r → j < size → blk.flatten.set (i * size + j) v = (blk.set i (r.set j v)).flatten := by
  intro blk
  induction blk with
  | nil => intro i j r v _ h; simp at h
  | cons x blk ih =>
    intro i j r v hs h hj
    have hx := hs x (by simp)
    cases i with
    | zero =>
      simp only [List.getElem?_cons_zero, Option.some.injEq] at h
      subst h
      rw [List.flatten_cons, Nat.zero_mul, Nat.zero_add, List.set_append_left _ _ (by omega), List.set_cons_zero, List.flatten_cons]
    | succ i =>
      simp only [List.getElem?_cons_succ] at h
      rw [List.flatten_cons, List.set_append_right _ _ (by rw [hx, Nat.add_mul]; omega), show (i + 1) * size + j - x.length = i * size + j by rw [hx, Nat.add_mul]; omega, List.set_cons_succ, List.flatten_cons]
      rw [ih i j r v (fun y hy => hs y (by simp [hy])) h hj]

section
variable {P : Program} {X : Tab} {m0 m : Mem} {S : List Nat} {w0 w : World}

theorem row_get {size i j : Nat} {blk : List (List Value)} {r : List Value} {v : Value} (hs : ∀ r ∈ blk, r.length = size) (hr : blk[i]? = some r) (hv : r[j]? = some v) : look blk.flatten (0 + scale i size + j) = some v := by
  have hj : j < size := by rw [← hs r (List.mem_of_getElem? hr)]; exact (List.getElem?_eq_some_iff.1 hv).1
  rw [look_eq, Nat.zero_add, scale_eq, flat_get blk i j r hs hr hj]; exact hv

theorem LdReq.row (hX : TabsOk P X) {t : Nat} {ti : TI} {L : Own} (ht : look X.T t = some (some ti)) (hd : ti.d.isAgg = false) (q : Nat) {g i j size te : Nat} {fz : Nat × Nat} {blk : List (List Value)} {r : List Value} {v : Value} {K : Value → Prop}
    (hL : Loc m0 S w0 m L w) (hi : look L q = some (g, .cells (toArr blk.flatten) te fz)) (hs : ∀ r ∈ blk, r.length = size) (hr : blk[i]? = some r) (hv : r[j]? = some v) (h : K v) :
    LdReq P t w (((⟨g, 0, none⟩ : Addr).add (scale i size)).add j) K := by
  rw [addr_add, addr_add]
  exact LdReq.own1 hX ht hd q hL hi (row_get hs hr hv) h

theorem QLdReq.row (hX : TabsOk P X) {t : Nat} {ti : TI} {L : Own} (ht : look X.T t = some (some ti)) (hd : ti.d.isAgg = false) (q : Nat) {g i j size te : Nat} {fz : Nat × Nat} {blk : List (List Value)} {r : List Value} {v : Value} {K : Value → Prop}
    (hi : look L q = some (g, .cells (toArr blk.flatten) te fz)) (hs : ∀ r ∈ blk, r.length = size) (hr : blk[i]? = some r) (hv : r[j]? = some v) (h : K v) :
    QLdReq P t (fun w => Loc m0 S w0 m L w) (((⟨g, 0, none⟩ : Addr).add (scale i size)).add j) K := by
  rw [addr_add, addr_add]
  exact QLdReq.own1 hX ht hd q hi (row_get hs hr hv) h

/-- One cell of a row is stored to. -/
theorem StReq.row (hX : TabsOk P X) {t : Nat} {ti : TI} {L : Own} (ht : look X.T t = some (some ti)) (q : Nat) {g i j size te : Nat} {blk : List (List Value)} {r : List Value} {v : Value} {K : World → Prop}
    (hL : Loc m0 S w0 m L w) (hi : look L q = some (g, .cells (toArr blk.flatten) te (0, 0))) (hs : ∀ r ∈ blk, r.length = size) (hr : blk[i]? = some r) (hj : j < size)
    (hc : v.cells.toList = [v]) (h1 : v.oneCell' = true) (hti : ti.size = 1) (h : ∀ w', Loc m0 S w0 m (L.set q (g, .cells (toArr (blk.set i (r.set j v)).flatten) te (0, 0))) w' → K w') :
    StReq P t w (((⟨g, 0, none⟩ : Addr).add (scale i size)).add j) v K := by
  rw [addr_add]
  have hlt : i < blk.length := (List.getElem?_eq_some_iff.1 hr).1
  refine StReq.ownAt hX ht q hL hi (by rw [hc, hti]; rfl) ?_ (by rw [hc]; simp [h1]) fun w' hw' => h w' ?_
  · rw [flat_len blk hs, scale_eq, hc, Nat.zero_add]
    have : (i + 1) * size ≤ blk.length * size := Nat.mul_le_mul_right _ hlt
    rw [Nat.add_mul, Nat.one_mul] at this
    simp only [List.length_singleton]
    omega
  · rw [hc, scale_eq, Nat.zero_add] at hw'
    simp only [spliceL] at hw'
    rw [set_rows blk i j r v hs hr hj] at hw'
    exact hw'
theorem QLdReq.rows (hX : TabsOk P X) {t : Nat} {ti : TI} {L : Own} (ht : look X.T t = some (some ti)) (hd : ti.d.isAgg = true) (q : Nat) {g i te : Nat} {fz : Nat × Nat} {blk : List (List Value)} {r : List Value} {K : Value → Prop}
    (hi : look L q = some (g, .cells (toArr blk.flatten) te fz)) (hs : ∀ r ∈ blk, r.length = ti.size) (hr : blk[i]? = some r) (h : K (.agg (toArr r))) :
    QLdReq P t (fun w => Loc m0 S w0 m L w) ((⟨g, 0, none⟩ : Addr).add (scale i ti.size)) K := by
  rw [look_eq] at hi
  have hlen := hs r (List.mem_of_getElem? hr)
  refine ⟨_, fun w hL => run_loadVar_agg (hX.t _ _ ht) hd hlen (fun j v hj => ?_), h⟩
  rw [addr_add, addr_add, scale_eq, Nat.zero_add]
  have hj' : j < ti.size := by rw [← hlen]; exact (List.getElem?_eq_some_iff.1 hj).1
  have := flat_get blk i j r hs hr hj'
  exact (hL.ownCell (List.mem_of_getElem? hi)).trans (by simp only [toArr, List.getElem?_toArray]; rw [this]; exact hj)
/-- Rows in a slice of one's own are handed over. -/
theorem OwnS.freezeRows {α : Type} {te size : Nat} {v : Value} {rows : List (List Value)} {l : List α} {R : List Value → α → Prop} {L1 L2 : Own} (hz : 0 < size) (h : OwnS te size v rows.flatten L1) (hL : Loc m0 S w0 m (L1 ++ L2) w)
    (hs : ∀ r ∈ rows, r.length = size) (hl : l.length = rows.length) (hR : ∀ (i : Nat) (x : α), l[i]? = some x → ∃ cs, rows[i]? = some cs ∧ R cs x) :
    ∃ m' A c, v = .slice A rows.length c ∧ Loc m0 S w0 m' L2 w ∧ Mem.Le m m' ∧ Sl m' size R v l ∧ ∀ (j : Nat) (u : Value), rows.flatten[j]? = some u → ∃ a, A = some a ∧ mcell m' (a.add j) = some u := by
  obtain ⟨n, hn, h⟩ := h
  have hnr : n = rows.length := by
    rw [flat_len rows hs] at hn
    exact (Nat.eq_of_mul_eq_mul_right hz hn).symm
  subst hnr
  rcases h with ⟨rfl, h0, rfl⟩ | ⟨g, cap, cur, rfl, rfl, h1, h2, h3, h4⟩
  · refine ⟨m, none, 0, by rw [h0], hL, Mem.Le.refl m, ⟨none, 0, 0, rfl, by omega, Nat.le_refl _, Nat.zero_le _, fun i x hx => ?_⟩, fun j u hu => ?_⟩
    · have := (List.getElem?_eq_some_iff.1 hx).1; omega
    · have := (List.getElem?_eq_some_iff.1 hu).1
      rw [flat_len rows hs, h0] at this; omega
  · have hap : m g = none := by
      cases hm : m g with
      | none => rfl
      | some o => exact absurd (by simp [keys]) (hL.apart g o hm)
    have hcell : ∀ (j : Nat) (u : Value), rows.flatten[j]? = some u → mcell (m.add g (.cells (toArr cur) te (0, 0))) ((⟨g, 0, none⟩ : Addr).add j) = some u := by
      intro j u hu
      rw [addr_add, Nat.zero_add]
      simp only [mcell, ocell, Mem.add_same, toArr, List.getElem?_toArray]
      rw [← h4] at hu
      have := (List.getElem?_eq_some_iff.1 hu).1
      rw [List.length_take] at this
      rw [List.getElem?_take_of_lt (by omega)] at hu
      exact hu
    refine ⟨m.add g (.cells (toArr cur) te (0, 0)), _, cap, rfl, hL.freeze, fun b o hb => ?_, ⟨some ⟨g, 0, none⟩, _, cap, rfl, hl.symm, h1, h2, fun i x hx => ?_⟩, fun j u hu => ⟨_, rfl, hcell j u hu⟩⟩
    · by_cases e : b = g
      · subst e; rw [hap] at hb; cases hb
      · rw [Mem.add_other _ _ e]; exact hb
    · obtain ⟨cs, e1, e2⟩ := hR i x hx
      have hlen := hs cs (List.mem_of_getElem? e1)
      refine ⟨_, cs, rfl, hlen, fun j u hj => ?_, e2⟩
      have hj' : j < size := by rw [← hlen]; exact (List.getElem?_eq_some_iff.1 hj).1
      have := hcell (i * size + j) u (by rw [flat_get rows i j cs hs e1 hj']; exact hj)
      rw [addr_add, Nat.zero_add] at this
      rw [addr_add, addr_add, scale_eq, Nat.zero_add]
      exact this
end
end Go.Ev
