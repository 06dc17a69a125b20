/- Sort and Compact of a list of one's own. Conditions: none. -/
import Derived.Test.YtpdiljdklllmjaaGreatNoList

namespace Go.Proofs.YtpdiljdklllmjaaGreat.ar
open Go Go.Ev Go.Proofs Go.Sort

theorem putRow_get {w : World} {g q n : Nat} {cur : List Value} {te : TypeId} {os : Array Obj} {zs : List Int} (hg : w.heap[g]? = some (.cells (toArr cur) te (0, 0))) (hn : zs.length = n) (hc : n ≤ cur.length) :
    (grow (putRow (Value.int .i64) (Sort.ahead w q) g 0 zs.toArray) os).heap[g]? = some (.cells (toArr (ints .i64 zs ++ cur.drop n)) te (0, 0)) ∧
    ∀ k, k < w.heap.size → k ≠ g → (grow (putRow (Value.int .i64) (Sort.ahead w q) g 0 zs.toArray) os).heap[k]? = w.heap[k]? := by
  have hgl : g < w.heap.size := heap_lt hg
  have e : ∀ k, k < w.heap.size → (grow (putRow (Value.int .i64) (Sort.ahead w q) g 0 zs.toArray) os).heap[k]? = if g = k then (w.heap[k]?).map (onCells (putCells (Value.int .i64) 0 zs.toArray)) else w.heap[k]? := by
    intro k hk
    show ((w.heap.modify g (onCells (putCells (Value.int .i64) 0 zs.toArray))) ++ os)[k]? = _
    rw [Array.getElem?_append_left (by simpa using hk), Array.getElem?_modify]
  refine ⟨?_, fun k hk hne => by rw [e k hk, if_neg (fun h => hne h.symm)]⟩
  rw [e g hgl, if_pos rfl, hg]
  simp only [Option.map_some, onCells]
  congr 2
  apply Array.ext_getElem?
  intro k
  simp only [putCells, toArr, Array.getElem?_mapIdx, List.getElem?_toArray, List.size_toArray]
  by_cases hk : k < n
  · rw [List.getElem?_append_left (by simp [ints]; omega)]
    rw [List.getElem?_eq_getElem (by omega : k < cur.length)]
    simp only [Option.map_some]
    rw [if_pos ⟨by omega, by omega⟩]
    simp only [ints, List.getElem?_map, Nat.sub_zero]
    rw [List.getElem?_eq_getElem (by omega : k < zs.length)]
    simp [getElem!_pos, show k < zs.length by omega]
  · rw [List.getElem?_append_right (by simp [ints]; omega)]
    simp only [ints, List.length_map, List.getElem?_drop]
    rw [show n + (k - zs.length) = k by omega]
    cases cur[k]? with
    | none => rfl
    | some v => simp only [Option.map_some]; rw [if_neg (by omega)]
theorem loc_row {m : Mem} {w : World} {g q n : Nat} {cur : List Value} {te : TypeId} {os : Array Obj} {zs : List Int} (h : Pre m [(g, .cells (toArr cur) te (0, 0))] w) (hn : zs.length = n) (hc : n ≤ cur.length) :
    Ev.Loc m [g] w m [(g, .cells (toArr (ints .i64 zs ++ cur.drop n)) te (0, 0))] (grow (putRow (Value.int .i64) (Sort.ahead w q) g 0 zs.toArray) os) := by
  have hg := h.own _ List.mem_cons_self
  obtain ⟨h1, h2⟩ := putRow_get (q := q) (os := os) hg hn hc
  have hsz : w.heap.size ≤ (grow (putRow (Value.int .i64) (Sort.ahead w q) g 0 zs.toArray) os).heap.size := by simp
  refine ⟨rfl, rfl, rfl, hsz, fun k hk hs => h2 k hk (fun e => hs (by simp [e])), fun b o hb => ?_, fun b o hb => h.apart b o hb, fun x hx => ?_, h.nodup, fun b hb => .inr hb, Mem.Le.refl m, fun b o hb => .inl hb⟩
  · have h3 := h.sub b o hb
    have hne : b ≠ g := fun e => h.apart b o hb (by simp [keys, e])
    rw [h2 b (heap_lt h3) hne]; exact h3
  · rw [List.mem_singleton.1 hx]; exact h1
theorem holds_own {w : World} {g n : Nat} {cur : List Value} {te : TypeId} {zs : List Int} (hg : w.heap[g]? = some (.cells (toArr cur) te (0, 0))) (hn : zs.length = n) (ht : cur.take n = ints .i64 zs) : Holds (Value.int .i64) w g 0 zs.toArray := by
  intro j hj
  simp only [List.size_toArray] at hj
  have h1 : cur[j]? = some (.int .i64 zs[j]) := by
    have : (cur.take n)[j]? = (ints .i64 zs)[j]? := by rw [ht]
    rw [List.getElem?_take_of_lt (by omega)] at this
    rw [this]; simp [ints, List.getElem?_eq_getElem hj]
  refine ⟨?_, ?_⟩
  · unfold World.cell?
    simp only [hg, Nat.zero_add]
    show (toArr cur)[j]? = _
    rw [toArr, List.getElem?_toArray, h1]
    simp [getElem!_pos, hj]
  · unfold World.frozen?
    simp only [hg]
    simp

def sortI (zs : List Int) : List Int := zs.mergeSort fun x y => decide (x ≤ y)
theorem sortG_fn (m : Mem) (A : Option Addr) (n c : Nat) (zs : List Int) (L1 : Own) (ho : OwnS 3 1 (.slice A n c) (ints .i64 zs) L1) (hb : zs.length ≤ 1000000) :
    Ev.Fn Tryz.prog 77 [.slice A n c] m L1 fun m' L' u => m' = m ∧ u = .tuple (toArr []) ∧ OwnS 3 1 (.slice A n c) (ints .i64 (sortI zs)) L' := by
  obtain ⟨k, hk, ⟨e, h0, rfl⟩ | ⟨g, cap, cur, e, rfl, h1, h2, h3, h4⟩⟩ := ho
  · cases e
    have hz : zs = [] := List.eq_nil_of_length_eq_zero (by simp [ints] at hk; omega)
    subst hz
    intro w hw
    refine (Tryz.slices_Sort_int_none none 0 w).mono ?_
    rintro e w' ⟨rfl, rfl⟩
    exact ⟨_, m, [], rfl, hw.loc, rfl, rfl, by rw [show sortI [] = [] from by unfold sortI; simp]; exact OwnS.nil _ _⟩
  · cases e
    have hzl : zs.length = n := by simpa [ints] using hk
    intro w hw
    have hg := hw.own _ List.mem_cons_self
    rw [Nat.mul_one] at h4
    have hH := holds_own hg hzl h4
    have hcall := Tryz.slices_Sort_int g 0 c zs w hH (heap_lt hg) (by omega)
    rw [hzl] at hcall
    refine hcall.mono ?_
    rintro e w' ⟨rfl, q, os, rfl⟩
    have hsl : (sortI zs).length = n := by unfold sortI; rw [List.length_mergeSort]; exact hzl
    have hcl : n ≤ cur.length := by omega
    refine ⟨_, m, _, rfl, loc_row (zs := sortI zs) hw hsl hcl, rfl, rfl, n, by simp [ints, hsl], .inr ⟨g, c, _, rfl, rfl, h1, h2, ?_, ?_⟩⟩
    · simp [ints, hsl]; omega
    · rw [Nat.mul_one, List.take_left' (by simp [ints, hsl])]
theorem compactG_fn (m : Mem) (A : Option Addr) (n c : Nat) (zs : List Int) (L1 : Own) (ho : OwnS 3 1 (.slice A n c) (ints .i64 zs) L1) (hb : zs.length ≤ 1000000) :
    Ev.Fn Tryz.prog 78 [.slice A n c] m L1 fun m' L' u => m' = m ∧ OwnS 3 1 u (ints .i64 (Lib.compact zs)) L' := by
  obtain ⟨k, hk, ⟨e, h0, rfl⟩ | ⟨g, cap, cur, e, rfl, h1, h2, h3, h4⟩⟩ := ho
  · cases e
    have hz : zs = [] := List.eq_nil_of_length_eq_zero (by simp [ints] at hk; omega)
    subst hz
    intro w hw
    refine (Tryz.slices_Compact_int_empty none 0 w).mono ?_
    rintro e w' ⟨rfl, rfl⟩
    exact ⟨_, m, [], rfl, hw.loc, rfl, OwnS.nil _ _⟩
  · cases e
    have hzl : zs.length = n := by simpa [ints] using hk
    have hcl : (Lib.compact zs).length ≤ zs.length := by
      unfold Lib.compact Lib.compactUpTo
      rw [List.length_map]
      have := List.length_filter_le (Lib.keeps zs.toArray) (List.range zs.length)
      rwa [List.length_range] at this
    intro w hw
    have hg := hw.own _ List.mem_cons_self
    rw [Nat.mul_one] at h4
    have hH := holds_own hg hzl h4
    have hcall := Tryz.slices_Compact_int g 0 c zs w hH (by omega) (by omega)
    generalize Lib.compact zs = ys at hcl hcall ⊢
    rw [hzl] at hcall
    refine hcall.mono ?_
    rintro e w' ⟨rfl, q, rfl⟩
    have hsl : (ys ++ List.replicate (n - ys.length) 0).length = n := by simp; omega
    have hl := loc_row (q := q) (os := #[]) (zs := ys ++ List.replicate (n - ys.length) 0) hw hsl (by omega)
    rw [grow_empty] at hl
    refine ⟨_, m, _, rfl, hl, rfl, ys.length, by simp [ints], .inr ⟨g, c, _, rfl, rfl, by omega, h2, ?_, ?_⟩⟩
    · simp [ints]; omega
    · rw [Nat.mul_one, ints_append, List.append_assoc, List.take_left' (by simp [ints])]
end Go.Proofs.YtpdiljdklllmjaaGreat.ar
