/- Formulas: slices.Sort, slices.Compact, slices.SortFunc; parts joined. Conditions: none. -/
import Derived.Test.YtnpgllgmcdhmcaaFoShelf
import Derived.Test.YtnpgllgmcdhmcaaFoConcat
import Derived.Test.YtnpgllgmcdhmcaaFoJoin

namespace Go.Proofs.Ytnpgllgmcdhmcaa.fo
open Go Go.Ev Go.Proofs Go.Sort

section
variable {α : Type} [Inhabited α] {enc : α → Value}
theorem putRow_get {w : World} {g q n : Nat} {cur : List Value} {te : TypeId} {os : Array Obj} {zs : List α} (hg : w.heap[g]? = some (.cells (toArr cur) te (0, 0))) (hn : zs.length = n) (hc : n ≤ cur.length) :
    (grow (putRow enc (Sort.ahead w q) g 0 zs.toArray) os).heap[g]? = some (.cells (toArr (zs.map enc ++ cur.drop n)) te (0, 0)) ∧
    ∀ k, k < w.heap.size → k ≠ g → (grow (putRow enc (Sort.ahead w q) g 0 zs.toArray) os).heap[k]? = w.heap[k]? := by
  have hgl : g < w.heap.size := heap_lt hg
  have e : ∀ k, k < w.heap.size → (grow (putRow enc (Sort.ahead w q) g 0 zs.toArray) os).heap[k]? = if g = k then (w.heap[k]?).map (onCells (putCells enc 0 zs.toArray)) else w.heap[k]? := by
    intro k hk
    show ((w.heap.modify g (onCells (putCells enc 0 zs.toArray))) ++ os)[k]? = _
    rw [Array.getElem?_append_left (by simpa using hk), Array.getElem?_modify]
  refine ⟨?_, fun k hk hne => by rw [e k hk, if_neg (fun h => hne h.symm)]⟩
  rw [e g hgl, if_pos rfl, hg]
  simp only [Option.map_some, onCells]
  congr 2
  apply Array.ext_getElem?
  intro k
  simp only [putCells, toArr, Array.getElem?_mapIdx, List.getElem?_toArray, List.size_toArray]
  by_cases hk : k < n
  · rw [List.getElem?_append_left (by simp; omega)]
    rw [List.getElem?_eq_getElem (by omega : k < cur.length)]
    simp only [Option.map_some]
    rw [if_pos ⟨by omega, by omega⟩]
    simp only [List.getElem?_map, Nat.sub_zero]
    rw [List.getElem?_eq_getElem (by omega : k < zs.length)]
    simp [getElem!_pos, show k < zs.length by omega]
  · rw [List.getElem?_append_right (by simp; omega)]
    simp only [List.length_map, List.getElem?_drop]
    rw [show n + (k - zs.length) = k by omega]
    cases cur[k]? with
    | none => rfl
    | some v => simp only [Option.map_some]; rw [if_neg (by omega)]
theorem loc_row {m : Mem} {w : World} {g q n : Nat} {cur : List Value} {te : TypeId} {os : Array Obj} {zs : List α} (h : Pre m [(g, .cells (toArr cur) te (0, 0))] w) (hn : zs.length = n) (hc : n ≤ cur.length) :
    Ev.Loc m [g] w m [(g, .cells (toArr (zs.map enc ++ cur.drop n)) te (0, 0))] (grow (putRow enc (Sort.ahead w q) g 0 zs.toArray) os) := by
  have hg := h.own _ List.mem_cons_self
  obtain ⟨h1, h2⟩ := putRow_get (enc := enc) (q := q) (os := os) hg hn hc
  have hsz : w.heap.size ≤ (grow (putRow enc (Sort.ahead w q) g 0 zs.toArray) os).heap.size := by simp
  refine ⟨rfl, rfl, rfl, hsz, fun k hk hs => h2 k hk (fun e => hs (by simp [e])), fun b o hb => ?_, fun b o hb => h.apart b o hb, fun x hx => ?_, h.nodup, fun b hb => .inr hb, Mem.Le.refl m, fun b o hb => .inl hb⟩
  · have h3 := h.sub b o hb
    have hne : b ≠ g := fun e => h.apart b o hb (by simp [keys, e])
    rw [h2 b (heap_lt h3) hne]; exact h3
  · rw [List.mem_singleton.1 hx]; exact h1
theorem holds_own {w : World} {g n : Nat} {cur : List Value} {te : TypeId} {zs : List α} (hg : w.heap[g]? = some (.cells (toArr cur) te (0, 0))) (hn : zs.length = n) (ht : cur.take n = zs.map enc) : Holds enc w g 0 zs.toArray := by
  intro j hj
  simp only [List.size_toArray] at hj
  have h1 : cur[j]? = some (enc zs[j]) := by
    have : (cur.take n)[j]? = (zs.map enc)[j]? := by rw [ht]
    rw [List.getElem?_take_of_lt (by omega)] at this
    rw [this]; simp [List.getElem?_eq_getElem hj]
  refine ⟨?_, ?_⟩
  · unfold World.cell?
    simp only [hg, Nat.zero_add]
    show (toArr cur)[j]? = _
    rw [toArr, List.getElem?_toArray, h1]
    simp [getElem!_pos, hj]
  · unfold World.frozen?
    simp only [hg]
    simp
end
theorem sortG_fn (m : Mem) (A : Option Addr) (n c : Nat) (zs : List Int) (L1 : Own) (ho : OwnS 3 1 (.slice A n c) (ints .i64 zs) L1) (hb : zs.length ≤ 1000000) :
    Ev.Fn Try.prog 55 [.slice A n c] m L1 fun m' L' u => m' = m ∧ u = .tuple (toArr []) ∧ OwnS 3 1 (.slice A n c) (ints .i64 (sortI zs)) L' := by
  obtain ⟨k, hk, ⟨e, h0, rfl⟩ | ⟨g, cap, cur, e, rfl, h1, h2, h3, h4⟩⟩ := ho
  · cases e
    have hz : zs = [] := List.eq_nil_of_length_eq_zero (by simp [ints] at hk; omega)
    subst hz
    intro w hw
    refine (Try.slices_Sort_int_none none 0 w).mono ?_
    rintro e w' ⟨rfl, rfl⟩
    exact ⟨_, m, [], rfl, hw.loc, rfl, rfl, by rw [show sortI [] = [] from by unfold sortI; simp]; exact OwnS.nil _ _⟩
  · cases e
    have hzl : zs.length = n := by simpa [ints] using hk
    intro w hw
    have hg := hw.own _ List.mem_cons_self
    rw [Nat.mul_one] at h4
    have hH := holds_own (enc := Value.int .i64) hg hzl h4
    have hcall := Try.slices_Sort_int g 0 c zs w hH (heap_lt hg) (by omega)
    rw [hzl] at hcall
    refine hcall.mono ?_
    rintro e w' ⟨rfl, q, os, rfl⟩
    have hsl : (sortI zs).length = n := by unfold sortI; rw [List.length_mergeSort]; exact hzl
    have hcl : n ≤ cur.length := by omega
    refine ⟨_, m, _, rfl, loc_row (enc := Value.int .i64) (zs := sortI zs) hw hsl hcl, rfl, rfl, n, by simp [ints, hsl], .inr ⟨g, c, _, rfl, rfl, h1, h2, ?_, ?_⟩⟩
    · simp [hsl]; omega
    · rw [Nat.mul_one, List.take_left' (by simp [hsl])]; rfl
theorem compactG_fn (m : Mem) (A : Option Addr) (n c : Nat) (zs : List Int) (L1 : Own) (ho : OwnS 3 1 (.slice A n c) (ints .i64 zs) L1) (hb : zs.length ≤ 1000000) :
    Ev.Fn Try.prog 56 [.slice A n c] m L1 fun m' L' u => m' = m ∧ OwnS 3 1 u (ints .i64 (Lib.compact zs)) L' := by
  obtain ⟨k, hk, ⟨e, h0, rfl⟩ | ⟨g, cap, cur, e, rfl, h1, h2, h3, h4⟩⟩ := ho
  · cases e
    have hz : zs = [] := List.eq_nil_of_length_eq_zero (by simp [ints] at hk; omega)
    subst hz
    intro w hw
    refine (Try.slices_Compact_int_empty none 0 w).mono ?_
    rintro e w' ⟨rfl, rfl⟩
    exact ⟨_, m, [], rfl, hw.loc, rfl, OwnS.nil _ _⟩
  · cases e
    have hzl : zs.length = n := by simpa [ints] using hk
    have hcl := compact_len zs
    intro w hw
    have hg := hw.own _ List.mem_cons_self
    rw [Nat.mul_one] at h4
    have hH := holds_own (enc := Value.int .i64) hg hzl h4
    have hcall := Try.slices_Compact_int g 0 c zs w hH (by omega) (by omega)
    generalize Lib.compact zs = ys at hcl hcall ⊢
    rw [hzl] at hcall
    refine hcall.mono ?_
    rintro e w' ⟨rfl, q, rfl⟩
    have hsl : (ys ++ List.replicate (n - ys.length) 0).length = n := by simp; omega
    have hl := loc_row (enc := Value.int .i64) (q := q) (os := #[]) (zs := ys ++ List.replicate (n - ys.length) 0) hw hsl (by omega)
    rw [grow_empty] at hl
    refine ⟨_, m, _, rfl, hl, rfl, ys.length, by simp [ints], .inr ⟨g, c, _, rfl, rfl, by omega, h2, ?_, ?_⟩⟩
    · simp; omega
    · rw [Nat.mul_one, List.map_append, List.append_assoc, List.take_left' (by simp)]; rfl

set_option maxHeartbeats 1000000 in
theorem joined_fn (m : Mem) (v1 v2 : Value) (p q : Prt) (h1 : SlI m .i64 v1 p) (h2 : SlI m .i64 v2 q) (hb : p.length + q.length ≤ 100000) : Ev.Fn Try.prog 48 [v1, v2] m [] fun _ L' u => OwnS 3 1 u (ints .i64 (joinP p q)) L' := by
  obtain ⟨A1, n1, c1, rfl, -⟩ := id h1
  obtain ⟨A2, n2, c2, rfl, -⟩ := id h2
  refine Fn.enter (N := 14) hX Try.func48 rfl rfl (by show _ ≤ _; simp) (fun w0 hL => ?_)
  conv => whnf
  conv => whnf
  repeat ((first | refine zT ?_ | refine zF ?_ | refine zL hX hL ?_ | refine zB hX hL ?_ | (refine zS hX hL ?_; clear hL; intro w hL) | refine zI ?_ | refine zG hX ?_ | refine zO ?_); conv => whnf)
  refine NewReq.mk hL ?_
  clear hL
  intro b8 w hL
  conv => whnf
  replace hL : Ev.Loc m [] w0 m ([(b8, .cells (toArr [.slice A1 n1 c1, .slice A2 n2 c2]) 34 (0, 0))] ++ []) w := hL
  obtain ⟨m1, hL1, hm1, hfs⟩ := freeze1 (l := [p, q]) (R := fun u x => SlI m .i64 u x) (OwnS.full (n := 2) (by decide) rfl) hL rfl (by
    intro i x hx
    match i, hx with
    | 0, hx => cases hx; exact ⟨_, rfl, h1⟩
    | 1, hx => cases hx; exact ⟨_, rfl, h2⟩
    | i + 2, hx => cases hx)
  have hfs' : IsV m1 _ [p, q] := Sl.le hfs (Mem.Le.refl _) fun _ _ _ ⟨u, e, h⟩ => ⟨u, e, h.le' hm1⟩
  clear hL
  have hL := hL1
  clear hL1
  have hfl : ([p, q] : List Prt).flatten = p ++ q := by simp
  conv => whnf
  repeat ((first | refine zT ?_ | refine zF ?_ | refine zL hX hL ?_ | refine zB hX hL ?_ | (refine zS hX hL ?_; clear hL; intro w hL) | refine zI ?_ | refine zG hX ?_ | refine zO ?_); conv => whnf)
  refine CallReq.mk (L1 := []) (concatI_fn m1 _ [p, q] hfs' (by rw [hfl, List.length_append]; omega) (by simp)) hL ?_
  clear hL
  rintro u mx L1 w hL - ⟨hmx, us, ho, hH⟩
  rw [hmx] at hL
  clear hmx mx
  unfold HdI at hH
  rw [hfl] at hH
  subst hH
  obtain ⟨A, n, c, rfl, -⟩ := ho.slice
  conv => whnf
  repeat ((first | refine zT ?_ | refine zF ?_ | refine zL hX hL ?_ | refine zB hX hL ?_ | (refine zS hX hL ?_; clear hL; intro w hL) | refine zI ?_ | refine zG hX ?_ | refine zO ?_); conv => whnf)
  refine CallReq.mk (L1 := L1) (sortG_fn m1 A n c (p ++ q) L1 ho (by rw [List.length_append]; omega)) hL ?_
  clear hL ho
  rintro u mx L2 w hL - ⟨hmx, rfl, ho⟩
  rw [hmx] at hL
  clear hmx mx
  conv => whnf
  repeat ((first | refine zT ?_ | refine zF ?_ | refine zL hX hL ?_ | refine zB hX hL ?_ | (refine zS hX hL ?_; clear hL; intro w hL) | refine zI ?_ | refine zG hX ?_ | refine zO ?_); conv => whnf)
  refine CallReq.mk (L1 := L2) (compactG_fn m1 A n c _ L2 ho (by rw [sortI_len, List.length_append]; omega)) hL ?_
  clear hL ho
  rintro u mx L3 w hL - ⟨hmx, ho⟩
  rw [hmx] at hL
  clear hmx mx
  obtain ⟨A', n', c', rfl, -⟩ := ho.slice
  rw [List.append_nil] at hL
  conv => whnf
  repeat ((first | refine zT ?_ | refine zF ?_ | refine zL hX hL ?_ | refine zB hX hL ?_ | (refine zS hX hL ?_; clear hL; intro w hL) | refine zI ?_ | refine zG hX ?_ | refine zO ?_); conv => whnf)
  exact RetReq.mk hL ho
theorem and_fn (m : Mem) (v1 v2 : Value) (p : Prt) (g : Fml) (h1 : SlI m .i64 v1 p) (h2 : FmV m v2 g) (hb : ∀ q ∈ g, p.length + q.length ≤ 100000) (hg : g.length ≤ 100000) : Ev.Fn Try.prog 30 [v1, v2] m [] fun m' L' u => ∃ us, OwnS 34 1 u us L' ∧ HdF m' us (g.map (joinP p)) := by
  have hmx : maxLen = 9223372036854775807 := rfl
  obtain ⟨A1, n1, c1, rfl, -⟩ := id h1
  obtain ⟨A2, n2, c2, rfl, hn2, hc2, hm2, -⟩ := id h2
  subst hn2
  refine Fn.enter (N := 22) hX Try.func30 rfl rfl (by show _ ≤ _; simp) (fun w0 hL => ?_)
  conv => whnf
  conv => whnf
  repeat ((first | refine zT ?_ | refine zF ?_ | refine zL hX hL ?_ | refine zB hX hL ?_ | (refine zS hX hL ?_; clear hL; intro w hL) | refine zI ?_ | refine zG hX ?_ | refine zO ?_); conv => whnf)
  refine LoopReq.inv hX (fun s : Nat × Option Addr × Nat × Nat => [(5, .slice s.2.1 s.2.2.1 s.2.2.2), (10, .int .i64 s.1)]) [0, 8, 9]
    (fun s w => s.1 ≤ g.length ∧ ∃ m1 us L1, Mem.Le m m1 ∧ OwnS 34 1 (.slice s.2.1 s.2.2.1 s.2.2.2) us L1 ∧ HdF m1 us ((g.take s.1).map (joinP p)) ∧ Ev.Loc m [] w0 m1 L1 w) (fun s => g.length - s.1) (0, none, 0, 0)
    ⟨Nat.zero_le _, m, [], [], Mem.Le.refl m, OwnS.nil _ _, HdF.nil m, hL⟩ ⟨rfl, rfl, trivial⟩ ?_
  clear hL
  rintro ⟨j, A, n, c⟩ w f ⟨hj, m1, us, L1, hm1, ho, hH, hL⟩
  simp only at hj ho hH
  conv => whnf
  repeat ((first | refine zT ?_ | refine zF ?_ | refine zL hX hL ?_ | refine zB hX hL ?_ | (refine zS hX hL ?_; clear hL; intro w hL) | refine zI ?_ | refine zG hX ?_ | refine zO ?_); conv => whnf)
  refine BrReq.dec (fun hlt => ?_) (fun hlt => ?_)
  · have hj1 : j < g.length := by simp only at hlt; omega
    obtain ⟨a, A', n', c', ea, hcell, hq⟩ := (h2.le hm1).at_ hj1
    have hlen := lenF hH
    rw [List.length_map, List.length_take] at hlen
    conv => whnf
    repeat ((first | (refine Idx2Req.mk j a rfl (by simp only at hlt; omega) ea ?_) | refine LdReq.one hX rfl rfl hL hcell ?_ | refine zT ?_ | refine zF ?_ | refine zL hX hL ?_ | refine zB hX hL ?_ | (refine zS hX hL ?_; clear hL; intro w hL) | refine zI ?_ | refine zG hX ?_ | refine zO ?_); conv => whnf)
    refine CallReq.mk (L1 := []) (joined_fn m1 _ _ p g[j] (h1.le' hm1) hq (hb _ (List.getElem_mem hj1))) hL ?_
    clear hL
    rintro u m2 Lx w hL hm12 hox
    obtain ⟨m3, hL3, hm23, hs3⟩ := OwnS.freeze hox hL
    clear hL
    have hL := hL3
    clear hL3
    obtain ⟨B, bn, bc, rfl, -⟩ := id hs3
    conv => whnf
    repeat ((first | refine zT ?_ | refine zF ?_ | refine zL hX hL ?_ | refine zB hX hL ?_ | (refine zS hX hL ?_; clear hL; intro w hL) | refine zI ?_ | refine zG hX ?_ | refine zO ?_); conv => whnf)
    refine NewReq.mk hL ?_
    clear hL
    intro b18 w hL
    conv => whnf
    replace hL : Ev.Loc m [] w0 m3 ((b18, .cells (toArr [.slice B bn bc]) 34 (0, 0)) :: (L1 ++ [])) w := by rw [List.append_nil]; exact hL
    conv => whnf
    repeat ((first | refine zT ?_ | refine zF ?_ | refine zL hX hL ?_ | refine zB hX hL ?_ | (refine zS hX hL ?_; clear hL; intro w hL) | refine zI ?_ | refine zG hX ?_ | refine zO ?_); conv => whnf)
    refine RunReq.push hX 23 34 rfl rfl rfl rfl rfl ho (L2 := []) hL rfl rfl (by show _ + 1 ≤ _; omega) rfl ?_
    clear hL
    intro A4 n4 c4 L4 w hn4 ho4 hL
    rw [List.append_nil] at hL
    have hH2 := (hH.le (hm12.trans hm23)).app (⟨rfl, fun i x hx => by
      cases i with
      | zero => cases hx; exact ⟨_, rfl, hs3⟩
      | succ i => cases hx⟩ : HdF m3 [.slice B bn bc] [joinP p g[j]])
    rw [show (g.take j).map (joinP p) ++ [joinP p g[j]] = (g.take (j + 1)).map (joinP p) by rw [take_succ' hj1, List.map_append]; rfl] at hH2
    conv => whnf
    repeat ((first | refine zT ?_ | refine zF ?_ | refine zL hX hL ?_ | refine zB hX hL ?_ | (refine zS hX hL ?_; clear hL; intro w hL) | refine zI ?_ | refine zG hX ?_ | refine zO ?_); conv => whnf)
    refine ⟨(j + 1, A4, n4, c4), ⟨by simp only; omega, m3, _, L4, hm1.trans (hm12.trans hm23), ho4, hH2, hL⟩, by first | omega | (simp only; omega) | (simp only [List.length_cons, List.length_append]; omega), ?_, ?_⟩
    · repeat (first | exact trivial | (refine And.intro (by (conv => lhs; whnf) <;> (conv => rhs; whnf) <;> (first | rfl)) ?_))
    · repeat (first | exact trivial | (refine And.intro (by (conv => lhs; whnf) <;> (conv => rhs; whnf) <;> (first | rfl)) ?_))
  · have ej : j = g.length := by simp only at hlt; omega
    subst ej
    rw [List.take_length] at hH
    conv => whnf
    repeat ((first | refine zT ?_ | refine zF ?_ | refine zL hX hL ?_ | refine zB hX hL ?_ | (refine zS hX hL ?_; clear hL; intro w hL) | refine zI ?_ | refine zG hX ?_ | refine zO ?_); conv => whnf)
    exact RetReq.mk hL ⟨us, ho, hH⟩

/-! ### SortFunc -/
abbrev El (m : Mem) := {x : Value × Prt // SlI m .i64 x.1 x.2}
instance (m : Mem) : Inhabited (El m) := ⟨⟨(.slice none 0 0, []), Sl.nil _ _ _⟩⟩
def encE {m : Mem} (x : El m) : Value := x.1.1
def cfE {m : Mem} (x y : El m) : Int := ordI x.1.2 y.1.2
theorem ltE {m : Mem} {x y : El m} : ltOf cfE x y = true ↔ lessP x.1.2 y.1.2 := by
  unfold ltOf cfE; rw [decide_eq_true_iff]; exact ord_neg
theorem ltE_f {m : Mem} {x y : El m} : ltOf cfE x y = false ↔ ¬ lessP x.1.2 y.1.2 := by
  rw [← ltE]; simp
theorem swoE (m : Mem) : SWO (ltOf (cfE (m := m))) where
  irrefl x := ltE_f.2 (less_irrefl _)
  trans x y z h1 h2 := ltE.2 (less_trans (ltE.1 h1) (ltE.1 h2))
  ntrans x y z h1 h2 := ltE_f.2 fun h => by
    rcases less_total x.1.2 y.1.2 with k | k | k
    · exact ltE_f.1 h1 k
    · rw [k] at h; exact ltE_f.1 h2 h
    · exact ltE_f.1 h2 (less_trans k h)
theorem oneE {m : Mem} (x : El m) : (encE x).oneCell' = true := by
  obtain ⟨⟨v, p⟩, h⟩ := x
  obtain ⟨A, n, c, e, -⟩ := id h
  simp only at e
  unfold encE
  simp only [e]; rfl
theorem els {m : Mem} {us : List Value} {f : Fml} (h : HdF m us f) : ∃ xs : List (El m), xs.map encE = us ∧ xs.map (fun x => x.1.2) = f := by
  obtain ⟨xs, h1, h2⟩ := list_of (Q := fun i (x : El m) => us[i]? = some (encE x) ∧ f[i]? = some x.1.2) f.length fun i hi => by
    obtain ⟨u, hu, hs⟩ := h.2 i _ (List.getElem?_eq_getElem hi)
    exact ⟨⟨(u, f[i]), hs⟩, hu, List.getElem?_eq_getElem hi⟩
  refine ⟨xs, List.ext_getElem? fun i => ?_, List.ext_getElem? fun i => ?_⟩
  · rw [List.getElem?_map]
    cases hx : xs[i]? with
    | none =>
      have : us.length ≤ i := by rw [h.1]; have := List.getElem?_eq_none_iff.1 hx; omega
      rw [List.getElem?_eq_none this]; rfl
    | some x => rw [(h2 i x hx).1]; rfl
  · rw [List.getElem?_map]
    cases hx : xs[i]? with
    | none =>
      have : f.length ≤ i := by have := List.getElem?_eq_none_iff.1 hx; omega
      rw [List.getElem?_eq_none this]; rfl
    | some x => rw [(h2 i x hx).2]; rfl
theorem hdf_of {m : Mem} (xs : List (El m)) : HdF m (xs.map encE) (xs.map fun x => x.1.2) := by
  refine ⟨by simp, fun i p hp => ?_⟩
  rw [List.getElem?_map] at hp
  cases hx : xs[i]? with
  | none => rw [hx] at hp; cases hp
  | some x => rw [hx] at hp; cases hp; exact ⟨encE x, by rw [List.getElem?_map, hx]; rfl, x.2⟩
theorem fn_same {P : Program} {f : Nat} {args : List Value} {m : Mem} {v : Value} (h : ∀ w, Calls P f (toArr args) w fun e w' => e = .returned v ∧ w' = w) : FnV P f args m v := by
  intro w hw
  refine (h w).mono ?_
  rintro e w' ⟨rfl, rfl⟩
  exact ⟨v, m, [], rfl, ⟨rfl, rfl, rfl, Nat.le_refl _, fun k hk _ => rfl, hw.sub, fun _ _ _ => by simp [keys], fun x hx => by simp at hx, by simp [keys], fun b hb => by simp [keys] at hb, Mem.Le.refl m, fun b o hb => .inl hb⟩, rfl, rfl⟩
theorem bitsLen_fn (m : Mem) (n : Nat) (h : n ≤ 1000000) : FnV Try.prog 53 [.int .u64 n] m (.int .i64 (Lib.bitLen n : Nat)) :=
  fn_same fun w => by
    have := Try.bits_Len n w (by omega) (by omega)
    rwa [Int.toNat_natCast] at this
theorem pdqF_fn (m : Mem) (A : Option Addr) (n c : Nat) (us : List Value) (f : Fml) (L1 : Own) (ho : OwnS 34 1 (.slice A n c) us L1) (hH : HdF m us f) (hb : f.length ≤ 1000000) :
    Ev.Fn Try.prog 52 [.slice A n c, .int .i64 0, .int .i64 n, .int .i64 (Lib.bitLen n : Nat), .func (.func 23) #[] #[]] m L1 fun m' L' u => m' = m ∧ u = .tuple (toArr []) ∧ ∃ us' d, OwnS 34 1 (.slice A n c) us' L' ∧ HdF m us' d ∧ d.Perm f ∧ d.Pairwise fun a b => ¬ lessP b a := by
  obtain ⟨k, hk, ⟨e, h0, rfl⟩ | ⟨g, cap, cur, e, rfl, h1, h2, h3, h4⟩⟩ := ho
  · cases e
    have hz : us = [] := List.eq_nil_of_length_eq_zero (by omega)
    subst hz
    have hf : f = [] := List.eq_nil_of_length_eq_zero hH.1.symm
    subst hf
    intro w hw
    refine (Try.pdqsortCmpFunc_none (α := Nat) none 0 (Lib.bitLen 0 : Nat) (.func (.func 23) #[] #[]) w).mono ?_
    rintro e w' ⟨rfl, rfl⟩
    exact ⟨_, m, [], rfl, hw.loc, rfl, rfl, [], [], OwnS.nil _ _, HdF.nil m, List.Perm.refl _, .nil⟩
  · cases e
    obtain ⟨xs, hx1, hx2⟩ := els hH
    have hxl : xs.length = n := by rw [← hx1, List.length_map, Nat.mul_one] at hk; exact hk
    have hfl : f.length = n := by rw [← hx2, List.length_map]; exact hxl
    intro w hw
    have hg := hw.own _ List.mem_cons_self
    rw [Nat.mul_one, ← hx1] at h4
    have hHd := holds_own (enc := encE) hg hxl h4
    have eg : ∀ args w, (callFunc 23 args).run Try.prog w = .ok (.enter 23 args) w := enters_of Try.func23 (by kernel_rfl) rfl
    have hcmp : CmpLays1 Try.prog 23 #[] (encE (m := m)) cfE g 0 xs.toArray.size w := by
      intro q os dk hdk x y
      have hdl : dk.toList.length = n := by simp at hdk; simp; omega
      have hpr : Pre m [] (sortWorld encE w g 0 q dk os) := by
        have hl := loc_row (enc := encE) (q := q) (os := os) (zs := dk.toList) hw hdl (by omega)
        simp only [Array.toArray_toList] at hl
        exact hl.drop.pre
      have := order_w m _ hpr (encE x) (encE y) x.1.2 y.1.2 x.2 y.2
      refine Calls.mono this fun e w' ⟨h1, h2⟩ => ⟨h1, 0, #[.cells (toArr [.int .i64 (cmpI x.1.2.length y.1.2.length), .int .i64 (cmpL x.1.2 y.1.2)]) 3 (0, 0)], ?_⟩
      rw [h2]
      unfold ordW
      rw [alloc_eq_grow]
      rfl
    have hxs : xs.toArray.size = n := by simp [hxl]
    have hbl : Lib.bitLen n ≤ 62 := Lib.bitLen_le n 62 (by omega) (by omega)
    have hcall := Try.pdqsortCmpFunc_all encE cfE 23 #[] (swoE m) g 0 c xs.toArray w eg hcmp ⟨oneE, hHd, heap_lt hg⟩ (n + 1) 0 n (Lib.bitLen n) xs.toArray w (by omega) rfl (SW.start hHd) (Nat.zero_le _) (by omega) (by omega) (by omega) (Or.inl rfl)
    rw [hxs] at hcall
    have hps := pdq_sorts (ltOf (cfE (m := m))) (swoE m) xs.toArray 0 n (Lib.bitLen n) true true (Nat.zero_le _) (by omega) (Or.inl rfl)
    generalize pdq (ltOf cfE) xs.toArray 0 n (Lib.bitLen n) true true = d' at hcall hps
    refine hcall.mono ?_
    rintro e w' ⟨rfl, q, os, rfl⟩
    obtain ⟨⟨hps, -, hpp⟩, hs⟩ := hps
    have hsz : d'.size = n := by rw [hps]; simp [hxl]
    have hdl : d'.toList.length = n := by simp [hsz]
    have hperm : d'.toList.Perm xs := by
      rw [show d'.extract 0 n = d' by rw [← hsz]; simp, show xs.toArray.extract 0 n = xs.toArray by rw [← hxl]; simp] at hpp
      simpa using hpp
    have hl := loc_row (enc := encE) (q := q) (os := os) (zs := d'.toList) hw hdl (by omega)
    simp only [Array.toArray_toList] at hl
    refine ⟨_, m, _, rfl, hl, rfl, rfl, d'.toList.map encE, d'.toList.map (fun x => x.1.2), ⟨n, by simp [hsz], .inr ⟨g, c, _, rfl, rfl, h1, h2, ?_, ?_⟩⟩, hdf_of _, ?_, ?_⟩
    · simp [hsz]; omega
    · rw [Nat.mul_one, List.take_left' (by simp [hsz])]
    · rw [← hx2]; exact hperm.map _
    · rw [List.pairwise_map, List.pairwise_iff_getElem]
      intro i j hi hj hij
      have := hs i j (Nat.zero_le _) hij (by simp at hj; omega)
      have h3 := ltE_f.1 this
      rw [getElem!_pos d' j (by simpa using hj), getElem!_pos d' i (by simpa using hi)] at h3
      simpa using h3
theorem sortF_fn (m : Mem) (A : Option Addr) (n c : Nat) (us : List Value) (f : Fml) (L1 : Own) (ho : OwnS 34 1 (.slice A n c) us L1) (hH : HdF m us f) (hb : f.length ≤ 1000000) :
    Ev.Fn Try.prog 44 [.slice A n c, .func (.func 23) #[] #[]] m L1 fun m' L' u => m' = m ∧ u = .tuple (toArr []) ∧ ∃ us' d, OwnS 34 1 (.slice A n c) us' L' ∧ HdF m us' d ∧ d.Perm f ∧ d.Pairwise fun a b => ¬ lessP b a := by
  have hn : n = f.length := by
    obtain ⟨_, _, _, e, hn⟩ := ho.slice
    cases e
    rw [← hH.1]; omega
  subst hn
  refine Fn.enter (N := 14) hX Try.func44 rfl rfl (by show _ ≤ _; simp) (fun w0 hL => ?_)
  conv => whnf
  generalize keys L1 = S0 at hL ⊢
  rw [← List.append_nil L1] at hL
  conv => whnf
  repeat ((first | (refine ArReq.keep (k := .u64) (by show (0 : Int) ≤ _; omega) (by show _ ≤ (18446744073709551615 : Int); omega) ?_) | refine zT ?_ | refine zF ?_ | refine zL hX hL ?_ | refine zB hX hL ?_ | (refine zS hX hL ?_; clear hL; intro w hL) | refine zI ?_ | refine zG hX ?_ | refine zO ?_); conv => whnf)
  refine CallReq.val (bitsLen_fn m f.length hb) hL ?_
  clear hL
  intro w hL
  conv => whnf
  repeat ((first | refine zT ?_ | refine zF ?_ | refine zL hX hL ?_ | refine zB hX hL ?_ | (refine zS hX hL ?_; clear hL; intro w hL) | refine zI ?_ | refine zG hX ?_ | refine zO ?_); conv => whnf)
  refine CallReq.mk (L1 := L1) (L2 := []) (pdqF_fn m A f.length c us f L1 ho hH hb) hL ?_
  clear hL
  rintro u mx L2 w hL - ⟨hmx2, rfl, us2, d, ho2, hH2, hperm, hsort⟩
  rw [hmx2] at hL
  clear hmx2 mx
  rw [List.append_nil] at hL
  conv => whnf
  repeat ((first | refine zT ?_ | refine zF ?_ | refine zL hX hL ?_ | refine zB hX hL ?_ | (refine zS hX hL ?_; clear hL; intro w hL) | refine zI ?_ | refine zG hX ?_ | refine zO ?_); conv => whnf)
  exact RetReq.mk hL ⟨rfl, rfl, us2, d, ho2, hH2, hperm, hsort⟩
end Go.Proofs.Ytnpgllgmcdhmcaa.fo
