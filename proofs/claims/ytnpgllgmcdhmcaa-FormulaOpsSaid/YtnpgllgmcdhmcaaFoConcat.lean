/- Formulas: slices.Grow, slices.Concat, walked. Conditions: none. -/
import Derived.Test.YtnpgllgmcdhmcaaFoParts
import Derived.Lib.AppendZerosOnto

namespace Go.Ev
open Go
section
variable {P : Program} {X : Tab} {m0 m : Mem} {S : List Nat} {w0 w : World}
/-- append of so many zeros onto nil. -/
theorem RunReq.zeros (hX : TabsOk P X) (t tn te : Nat) {ti tei tni : TI} {ty : TypeId} (ht : look X.T t = some (some ti)) (hd : ti.d = .slice te) (hte : look X.T te = some (some tei)) (htn : look X.T tn = some (some tni)) (hdn : tni.d = .int .i64)
    (h1s : Nat.beq tei.size 1 = true) (hzs : Nat.beq tei.zero.length tei.size = true) (hby : Nat.ble tei.bytes 64 = true) {k : Nat} {zk : Int} {L : Own} {K : Value → World → Prop} (hzk : zk = (k : Int)) (h0 : 0 < k) (hk : k ≤ 1000000000) (hL : Loc m0 S w0 m L w)
    (h : ∀ g gc cur w', k ≤ gc → gc ≤ maxLen → cur.length = gc → Loc m0 S w0 m ((g, .cells (toArr cur) te (0, 0)) :: L) w' → K (.slice (some ⟨g, 0, none⟩) k gc) w') :
    RunReq P (Builtin.append_ #[t, tn] ty (toArr [.slice none 0 0, .int .i64 zk])) w K := by
  subst hzk
  have h1s := Nat.eq_of_beq_eq_true h1s
  have hzs := Nat.eq_of_beq_eq_true hzs
  have hby := Nat.le_of_ble_eq_true hby
  have hT := hX.t _ _ ht
  have hTe := hX.t _ _ hte
  obtain ⟨i, d, z, hi, _, hz, htei⟩ := tiOf_info hTe
  have e1 : i.size = 1 := by rw [← h1s, htei]
  have e2 : i.bytes ≤ 64 := by have : i.bytes = tei.bytes := by rw [htei]
                               omega
  have e3 : z.cells.size = 1 := by rw [← h1s, ← hzs, htei]; simp
  have hkb : k * i.bytes ≤ 64000000000 := Nat.le_trans (Nat.mul_le_mul_left _ e2) (by omega)
  have hrun := Lib.run_append_grow_zeros (P := P) w t tn ty te i z .i64 .i64 (td_slice hT hd) (td_int (hX.t _ _ htn) hdn) hi hz none 0 0 [] (run_firstCells_none w.drew i.size 0 0 0) k h0 (by omega) (by omega) (by omega) (by omega) (growslice_fits (by omega) (by rw [Nat.zero_add]; omega))
  rw [Nat.zero_add] at hrun
  have hge := grownCap_ge w k 0 te
  have hle := grownCap_le_maxLen w k 0 te (by simp only [maxLen]; omega)
  refine ⟨_, _, hrun, ?_⟩
  generalize grownCap w k 0 te = gc at *
  have hcells : (([] : List Value).toArray ++ Builtin.zeroCells z.cells k ++ Builtin.zeroCells z.cells (gc - k)) = toArr ((Builtin.zeroCells z.cells k).toList ++ (Builtin.zeroCells z.cells (gc - k)).toList) := by
    apply Array.ext'; simp [toArr]
  rw [hcells]
  refine h w.heap.size gc _ _ hge hle ?_ (hL.drew.alloc _)
  rw [List.length_append, Array.length_toList, Array.length_toList, size_zeroCells, size_zeroCells, e3]
  omega
theorem GenReq.cap (hX : TabsOk P X) {w : World} {o : Oper} {ρ : Operand → Value} {c : Call} {t te : Nat} {ti : TI} {a : Option Addr} {n cap : Nat} {K : Value → World → Prop} (ho : o.op = .call c) (hc : c.callee = .builtin .cap) (ht : c.argTypes = #[t]) (ha : c.args.toList.map ρ = [.slice a n cap])
    (hl : look X.T t = some (some ti)) (hd : ti.d = .slice te) (h : K (.int .i64 cap) w) : GenReq P o ρ w K := by
  constructor
  unfold OpOk
  have hargs : c.args.map ρ = #[.slice a n cap] := by apply Array.ext'; rw [Array.toList_map, ha]
  have hex : execOp ρ o = (do pure (.value (← Builtin.cap_ #[t] o.type #[.slice a n cap]))) := by rw [← hargs, ← ht]; simp [execOp, ho, resolve, hc, Go.invoke, Go.builtin]
  have hrun : (Builtin.cap_ #[t] o.type #[.slice a n cap]).run P w = .ok (.int .i64 cap) w := by
    simp [Builtin.cap_, run_underlying (td_slice (hX.t _ _ hl) hd)]; rfl
  rw [hex]
  simp only [Sem.run_bind, hrun, Result.andThen_ok, Sem.run_pure, upon]
  exact h
end
end Go.Ev

namespace Go.Proofs.Ytnpgllgmcdhmcaa.fo
open Go Go.Ev Go.Proofs

/-- The heads of parts, as cells. -/
def HdF (m : Mem) (us : List Value) (f : Fml) : Prop := us.length = f.length ∧ ∀ (i : Nat) (p : Prt), f[i]? = some p → ∃ u, us[i]? = some u ∧ SlI m .i64 u p
def HdI (_ : Mem) (us : List Value) (p : Prt) : Prop := us = ints .i64 p
theorem HdF.app {m : Mem} {us ws : List Value} {f g : Fml} (h : HdF m us f) (k : HdF m ws g) : HdF m (us ++ ws) (f ++ g) := by
  refine ⟨by rw [List.length_append, List.length_append, h.1, k.1], fun i p hp => ?_⟩
  by_cases hi : i < f.length
  · rw [List.getElem?_append_left hi] at hp
    rw [List.getElem?_append_left (by rw [h.1]; exact hi)]
    exact h.2 i p hp
  · rw [List.getElem?_append_right (by omega)] at hp
    rw [List.getElem?_append_right (by rw [h.1]; omega), h.1]
    exact k.2 _ p hp
theorem HdI.app {m : Mem} {us ws : List Value} {f g : Prt} (h : HdI m us f) (k : HdI m ws g) : HdI m (us ++ ws) (f ++ g) := by
  unfold HdI at *; rw [h, k, ints_append]
theorem HdF.nil (m : Mem) : HdF m [] [] := ⟨rfl, fun i p h => by simp at h⟩
theorem HdI.nil (m : Mem) : HdI m [] [] := rfl
theorem HdF.le {m m' : Mem} (h : Mem.Le m m') {us : List Value} {f : Fml} (k : HdF m us f) : HdF m' us f := ⟨k.1, fun i p hp => by obtain ⟨u, a, b⟩ := k.2 i p hp; exact ⟨u, a, b.le' h⟩⟩
theorem srcF {m : Mem} {A : Option Addr} {n c : Nat} {f : Fml} (h : FmV m (.slice A n c) f) : ∃ us, HdF m us f ∧ us.length = n ∧ (∀ (j : Nat) (u : Value), us[j]? = some u → ∃ a, A = some a ∧ mcell m (a.add j) = some u) ∧ ∀ u ∈ us, u.oneCell' = true := by
  obtain ⟨us, h1, h2⟩ := list_of (Q := fun i (u : Value) => ∃ a, A = some a ∧ mcell m (a.add i) = some u ∧ u.oneCell' = true ∧ ∀ p, f[i]? = some p → SlI m .i64 u p) f.length fun i hi => by
    obtain ⟨a, A', n', c', ea, hc, hp⟩ := h.at_ hi
    rw [scale_eq, Nat.mul_one] at hc
    exact ⟨_, a, ea, hc, rfl, fun p hq => by rw [List.getElem?_eq_getElem hi] at hq; cases hq; exact hp⟩
  obtain ⟨A', n', c', e, hn, -⟩ := id h
  cases e
  refine ⟨us, ⟨h1, fun i p hp => ?_⟩, by omega, fun j u hu => ?_, fun u hu => ?_⟩
  · have hi : i < us.length := by rw [h1]; exact (List.getElem?_eq_some_iff.1 hp).1
    obtain ⟨a, -, -, -, h3⟩ := h2 i _ (List.getElem?_eq_getElem hi)
    exact ⟨_, List.getElem?_eq_getElem hi, h3 p hp⟩
  · obtain ⟨a, ea, hc, -⟩ := h2 j u hu; exact ⟨a, ea, hc⟩
  · obtain ⟨j, hj⟩ := List.getElem?_of_mem hu
    obtain ⟨a, -, -, h3, -⟩ := h2 j u hj; exact h3
theorem srcI {m : Mem} {A : Option Addr} {n c : Nat} {p : Prt} (h : SlI m .i64 (.slice A n c) p) : ∃ us, HdI m us p ∧ us.length = n ∧ (∀ (j : Nat) (u : Value), us[j]? = some u → ∃ a, A = some a ∧ mcell m (a.add j) = some u) ∧ ∀ u ∈ us, u.oneCell' = true := by
  obtain ⟨hn, hc⟩ := h.cell
  refine ⟨ints .i64 p, rfl, by simp [ints, hn], fun j u hu => ?_, ints_one _ _⟩
  simp only [ints, List.getElem?_map, Option.map_eq_some_iff] at hu
  obtain ⟨z, hz, rfl⟩ := hu
  exact hc j z hz
theorem lenF {m : Mem} {us : List Value} {f : Fml} (h : HdF m us f) : us.length = f.length := h.1
theorem lenI {m : Mem} {us : List Value} {f : Prt} (h : HdI m us f) : us.length = f.length := by unfold HdI at h; rw [h]; simp [ints]
theorem growF_fn (m : Mem) (k : Nat) (hk : k ≤ 1000000) : Ev.Fn Try.prog 47 [.slice none 0 0, .int .i64 k] m [] fun m' L' u => m' = m ∧ OwnS 34 1 u [] L' := by
  have hmx : maxLen = 9223372036854775807 := rfl
  refine Fn.enter (N := 27) hX Try.func47 rfl rfl (by show _ ≤ _; simp) (fun w0 hL => ?_)
  conv => whnf
  by_cases h0 : k = 0
  · subst h0
    conv => whnf
    repeat ((first | refine BrReq.no (by omega) ?_ | refine GenReq.cap hX rfl rfl rfl rfl rfl rfl ?_ | refine zT ?_ | refine zF ?_ | refine zL hX hL ?_ | refine zB hX hL ?_ | (refine zS hX hL ?_; clear hL; intro w hL) | refine zI ?_ | refine zG hX ?_ | refine zO ?_); conv => whnf)
    exact RetReq.mk hL ⟨rfl, OwnS.nil _ _⟩
  · conv => whnf
    repeat ((first | refine BrReq.no (by omega) ?_ | refine BrReq.yes (by omega) ?_ | refine GenReq.cap hX rfl rfl rfl rfl rfl rfl ?_ | refine SlReq.mk 0 0 rfl rfl (by omega) (by omega) ?_ | refine zT ?_ | refine zF ?_ | refine zL hX hL ?_ | refine zB hX hL ?_ | (refine zS hX hL ?_; clear hL; intro w hL) | refine zI ?_ | refine zG hX ?_ | refine zO ?_); conv => whnf)
    refine RunReq.zeros hX 23 3 34 rfl rfl rfl rfl rfl rfl rfl rfl (k := k) (by show (k : Int) - (((0 : Nat) : Int) - ((0 : Nat) : Int)) = k; omega) (by omega) (by omega) hL ?_
    clear hL
    intro g gc cur w hge hle hcl hL
    conv => whnf
    repeat ((first | refine SlReq.mk 0 0 rfl rfl (by omega) (by omega) ?_ | refine zT ?_ | refine zF ?_ | refine zL hX hL ?_ | refine zB hX hL ?_ | (refine zS hX hL ?_; clear hL; intro w hL) | refine zI ?_ | refine zG hX ?_ | refine zO ?_); conv => whnf)
    refine RetReq.mk hL ⟨rfl, ?_⟩
    have ho := OwnS.block (te := 34) (size := 1) (g := g) (n := 0) (cap := gc) (cur := cur) (by omega) hle (by omega)
    simp only [Nat.zero_mul, List.take_zero] at ho
    have ev : (if gc = 0 then some (⟨g, 0, none⟩ : Addr) else Option.map (fun x => Addr.add x (scale 0 1)) (some (⟨g, 0, none⟩ : Addr))) = some ⟨g, 0, none⟩ := by split <;> rfl
    show OwnS 34 1 (.slice (if gc = 0 then some (⟨g, 0, none⟩ : Addr) else Option.map (fun x => Addr.add x (scale 0 1)) (some (⟨g, 0, none⟩ : Addr))) 0 gc) [] _
    rw [ev]
    exact ho
/-- A list of them. -/
def FsV (m : Mem) (v : Value) (xs : List (List Prt)) : Prop := Sl m 1 (fun cs x => ∃ u, cs = [u] ∧ FmV m u x) v xs
theorem fsAt {m : Mem} {A : Option Addr} {n c : Nat} {xs : List (List Prt)} (h : FsV m (.slice A n c) xs) {i : Nat} (hi : i < xs.length) : ∃ a A' n' c', A = some a ∧ mcell m (a.add (scale i 1)) = some (.slice A' n' c') ∧ FmV m (.slice A' n' c') xs[i] := by
  obtain ⟨a, cs, e1, e2, e3, u, rfl, hs⟩ := Sl.elem h i _ (List.getElem?_eq_getElem hi)
  obtain ⟨A', n', c', rfl, -⟩ := id hs
  have := e3 0 _ rfl
  have add0 : ∀ x : Addr, x.add 0 = x := fun x => by cases x; rfl
  rw [add0] at this
  exact ⟨a, A', n', c', e1, this, hs⟩
set_option maxHeartbeats 1000000 in
theorem concatF_fn (m : Mem) (v : Value) (xs : List (List Prt)) (h : FsV m v xs) (hb : xs.flatten.length ≤ 1000000) (hl : xs.length ≤ 1000) :
    Ev.Fn Try.prog 29 [v] m [] fun m' L' u => m' = m ∧ ∃ us, OwnS 34 1 u us L' ∧ HdF m us xs.flatten := by
  have hmx : maxLen = 9223372036854775807 := rfl
  obtain ⟨A, n, c, rfl, hn, hc, hm, -⟩ := id h
  subst hn
  have htk : ∀ j, j ≤ xs.length → (xs.take j).flatten.length ≤ 1000000 := fun j hj => by
    have := congrArg (fun y => (List.flatten y).length) (List.take_append_drop j xs)
    simp only [List.flatten_append, List.length_append] at this
    omega
  refine Fn.enter (N := 36) hX Try.func29 rfl rfl (by show _ ≤ _; simp) (fun w0 hL => ?_)
  conv => whnf
  conv => whnf
  repeat ((first | refine zT ?_ | refine zF ?_ | refine zL hX hL ?_ | refine zB hX hL ?_ | (refine zS hX hL ?_; clear hL; intro w hL) | refine zI ?_ | refine zG hX ?_ | refine zO ?_); conv => whnf)
  refine LoopReq.inv hX (fun j : Nat => [(3, .int .i64 (xs.take j).flatten.length), (11, .int .i64 j)]) [0, 9, 10]
    (fun j w => j ≤ xs.length ∧ Ev.Loc m [] w0 m [] w) (fun j => xs.length - j) 0 ⟨Nat.zero_le _, hL⟩ ⟨by rw [List.take_zero]; rfl, rfl, trivial⟩ ?_
  clear hL
  rintro j w f ⟨hj, hL⟩
  conv => whnf
  repeat ((first | refine zT ?_ | refine zF ?_ | refine zL hX hL ?_ | refine zB hX hL ?_ | (refine zS hX hL ?_; clear hL; intro w hL) | refine zI ?_ | refine zG hX ?_ | refine zO ?_); conv => whnf)
  refine BrReq.dec (fun hlt => ?_) (fun hlt => ?_)
  · have hj1 : j < xs.length := by omega
    obtain ⟨a, A', n', c', ea, hcell, hp⟩ := fsAt h hj1
    obtain ⟨A2, n2, c2, e2, hn2, -⟩ := id hp
    injection e2 with e3 e4 e5
    subst e3 e4 e5
    have hs1 : (xs.take (j + 1)).flatten.length = (xs.take j).flatten.length + n' := by rw [take_succ' hj1, List.flatten_append, List.length_append, hn2]; simp
    have hb1 := htk (j + 1) (by omega)
    conv => whnf
    repeat ((first | refine Idx2Req.mk j a rfl (by omega) ea ?_ | refine LdReq.one hX rfl rfl hL hcell ?_ | refine BrReq.no (by omega) ?_ | refine zT ?_ | refine zF ?_ | refine zL hX hL ?_ | refine zB hX hL ?_ | (refine zS hX hL ?_; clear hL; intro w hL) | refine zI ?_ | refine zG hX ?_ | refine zO ?_); conv => whnf)
    refine ⟨j + 1, ⟨by omega, hL⟩, by first | omega | (simp only; omega) | (simp only [List.length_cons, List.length_append]; omega), ?_, ?_⟩
    · repeat (first | exact trivial | (refine And.intro (by (conv => lhs; whnf) <;> (conv => rhs; whnf) <;> (first | rfl | ((rw [hs1]; rfl)))) ?_))
    · repeat (first | exact trivial | (refine And.intro (by (conv => lhs; whnf) <;> (conv => rhs; whnf) <;> (first | rfl | ((rw [hs1]; rfl)))) ?_))
  have ej : j = xs.length := by omega
  subst ej
  rw [List.take_length]
  conv => whnf
  repeat ((first | refine zT ?_ | refine zF ?_ | refine zL hX hL ?_ | refine zB hX hL ?_ | (refine zS hX hL ?_; clear hL; intro w hL) | refine zI ?_ | refine zG hX ?_ | refine zO ?_); conv => whnf)
  refine CallReq.mk (L1 := []) (growF_fn m xs.flatten.length hb) hL ?_
  clear hL
  rintro u mx L1 w hL - ⟨hmx2, ho⟩
  rw [hmx2] at hL
  clear hmx2 mx
  obtain ⟨A0, n0, c0, rfl, -⟩ := ho.slice
  rw [List.append_nil] at hL
  conv => whnf
  repeat ((first | refine zT ?_ | refine zF ?_ | refine zL hX hL ?_ | refine zB hX hL ?_ | (refine zS hX hL ?_; clear hL; intro w hL) | refine zI ?_ | refine zG hX ?_ | refine zO ?_); conv => whnf)
  refine LoopReq.inv hX (fun s : Nat × Option Addr × Nat × Nat => [(6, .slice s.2.1 s.2.2.1 s.2.2.2), (27, .int .i64 s.1)]) [25, 26]
    (fun s w => s.1 ≤ xs.length ∧ ∃ us L2, OwnS 34 1 (.slice s.2.1 s.2.2.1 s.2.2.2) us L2 ∧ HdF m us (xs.take s.1).flatten ∧ Ev.Loc m [] w0 m L2 w) (fun s => xs.length - s.1) (0, A0, n0, c0)
    ⟨Nat.zero_le _, [], L1, ho, by rw [List.take_zero]; exact HdF.nil m, hL⟩ ⟨rfl, rfl, trivial⟩ ?_
  clear hL ho
  rintro ⟨j, A3, n3, c3⟩ w f2 ⟨hj, us, L2, ho, hH, hL⟩
  simp only at hj ho hH
  conv => whnf
  repeat ((first | refine zT ?_ | refine zF ?_ | refine zL hX hL ?_ | refine zB hX hL ?_ | (refine zS hX hL ?_; clear hL; intro w hL) | refine zI ?_ | refine zG hX ?_ | refine zO ?_); conv => whnf)
  refine BrReq.dec (fun hlt => ?_) (fun hlt => ?_)
  · have hj1 : j < xs.length := by simp only at hlt; omega
    obtain ⟨a, A', n', c', ea, hcell, hp⟩ := fsAt h hj1
    obtain ⟨ws, hw1, hw2, hw3, hw4⟩ := srcF hp
    have hH2 := hH.app hw1
    rw [show (xs.take j).flatten ++ xs[j] = (xs.take (j + 1)).flatten by rw [take_succ' hj1, List.flatten_append, List.flatten_cons, List.flatten_nil, List.append_nil]] at hH2
    have hb1 := htk (j + 1) (by omega)
    have hlen := lenF hH2
    rw [List.length_append] at hlen
    rw [← List.append_nil L2] at hL
    conv => whnf
    repeat ((first | (refine Idx2Req.mk j a rfl (by simp only at hlt; omega) ea ?_) | refine LdReq.one hX rfl rfl hL hcell ?_ | refine zT ?_ | refine zF ?_ | refine zL hX hL ?_ | refine zB hX hL ?_ | (refine zS hX hL ?_; clear hL; intro w hL) | refine zI ?_ | refine zG hX ?_ | refine zO ?_); conv => whnf)
    refine RunReq.append hX 23 34 rfl rfl rfl rfl rfl ho hL (by rw [hw2]; exact (Nat.mul_one _).symm) (fun q u hq => by obtain ⟨x, e, hx⟩ := hw3 q u hq; exact ⟨x, e, hL.cell hx⟩) hw4 (by omega) rfl ?_
    clear hL
    intro A4 n4 c4 L4 w hn4 ho4 hL
    rw [List.append_nil] at hL
    conv => whnf
    repeat ((first | refine zT ?_ | refine zF ?_ | refine zL hX hL ?_ | refine zB hX hL ?_ | (refine zS hX hL ?_; clear hL; intro w hL) | refine zI ?_ | refine zG hX ?_ | refine zO ?_); conv => whnf)
    refine ⟨(j + 1, A4, n4, c4), ⟨by simp only; omega, _, L4, ho4, hH2, hL⟩, by first | omega | (simp only; omega) | (simp only [List.length_cons, List.length_append]; omega), ?_, ?_⟩
    · repeat (first | exact trivial | (refine And.intro (by (conv => lhs; whnf) <;> (conv => rhs; whnf) <;> (first | rfl)) ?_))
    · repeat (first | exact trivial | (refine And.intro (by (conv => lhs; whnf) <;> (conv => rhs; whnf) <;> (first | rfl)) ?_))
  have ej : j = xs.length := by simp only at hlt; omega
  subst ej
  rw [List.take_length] at hH
  conv => whnf
  repeat ((first | refine zT ?_ | refine zF ?_ | refine zL hX hL ?_ | refine zB hX hL ?_ | (refine zS hX hL ?_; clear hL; intro w hL) | refine zI ?_ | refine zG hX ?_ | refine zO ?_); conv => whnf)
  exact RetReq.mk hL ⟨rfl, us, ho, hH⟩
theorem growI_fn (m : Mem) (k : Nat) (hk : k ≤ 1000000) : Ev.Fn Try.prog 67 [.slice none 0 0, .int .i64 k] m [] fun m' L' u => m' = m ∧ OwnS 3 1 u [] L' := by
  have hmx : maxLen = 9223372036854775807 := rfl
  refine Fn.enter (N := 27) hX Try.func67 rfl rfl (by show _ ≤ _; simp) (fun w0 hL => ?_)
  conv => whnf
  by_cases h0 : k = 0
  · subst h0
    conv => whnf
    repeat ((first | refine BrReq.no (by omega) ?_ | refine GenReq.cap hX rfl rfl rfl rfl rfl rfl ?_ | refine zT ?_ | refine zF ?_ | refine zL hX hL ?_ | refine zB hX hL ?_ | (refine zS hX hL ?_; clear hL; intro w hL) | refine zI ?_ | refine zG hX ?_ | refine zO ?_); conv => whnf)
    exact RetReq.mk hL ⟨rfl, OwnS.nil _ _⟩
  · conv => whnf
    repeat ((first | refine BrReq.no (by omega) ?_ | refine BrReq.yes (by omega) ?_ | refine GenReq.cap hX rfl rfl rfl rfl rfl rfl ?_ | refine SlReq.mk 0 0 rfl rfl (by omega) (by omega) ?_ | refine zT ?_ | refine zF ?_ | refine zL hX hL ?_ | refine zB hX hL ?_ | (refine zS hX hL ?_; clear hL; intro w hL) | refine zI ?_ | refine zG hX ?_ | refine zO ?_); conv => whnf)
    refine RunReq.zeros hX 34 3 3 rfl rfl rfl rfl rfl rfl rfl rfl (k := k) (by show (k : Int) - (((0 : Nat) : Int) - ((0 : Nat) : Int)) = k; omega) (by omega) (by omega) hL ?_
    clear hL
    intro g gc cur w hge hle hcl hL
    conv => whnf
    repeat ((first | refine SlReq.mk 0 0 rfl rfl (by omega) (by omega) ?_ | refine zT ?_ | refine zF ?_ | refine zL hX hL ?_ | refine zB hX hL ?_ | (refine zS hX hL ?_; clear hL; intro w hL) | refine zI ?_ | refine zG hX ?_ | refine zO ?_); conv => whnf)
    refine RetReq.mk hL ⟨rfl, ?_⟩
    have ho := OwnS.block (te := 3) (size := 1) (g := g) (n := 0) (cap := gc) (cur := cur) (by omega) hle (by omega)
    simp only [Nat.zero_mul, List.take_zero] at ho
    have ev : (if gc = 0 then some (⟨g, 0, none⟩ : Addr) else Option.map (fun x => Addr.add x (scale 0 1)) (some (⟨g, 0, none⟩ : Addr))) = some ⟨g, 0, none⟩ := by split <;> rfl
    show OwnS 3 1 (.slice (if gc = 0 then some (⟨g, 0, none⟩ : Addr) else Option.map (fun x => Addr.add x (scale 0 1)) (some (⟨g, 0, none⟩ : Addr))) 0 gc) [] _
    rw [ev]
    exact ho
/-- A list of them. -/
def IsV (m : Mem) (v : Value) (xs : List (List Int)) : Prop := Sl m 1 (fun cs x => ∃ u, cs = [u] ∧ SlI m .i64 u x) v xs
theorem isAt {m : Mem} {A : Option Addr} {n c : Nat} {xs : List (List Int)} (h : IsV m (.slice A n c) xs) {i : Nat} (hi : i < xs.length) : ∃ a A' n' c', A = some a ∧ mcell m (a.add (scale i 1)) = some (.slice A' n' c') ∧ SlI m .i64 (.slice A' n' c') xs[i] := by
  obtain ⟨a, cs, e1, e2, e3, u, rfl, hs⟩ := Sl.elem h i _ (List.getElem?_eq_getElem hi)
  obtain ⟨A', n', c', rfl, -⟩ := id hs
  have := e3 0 _ rfl
  have add0 : ∀ x : Addr, x.add 0 = x := fun x => by cases x; rfl
  rw [add0] at this
  exact ⟨a, A', n', c', e1, this, hs⟩
set_option maxHeartbeats 1000000 in
theorem concatI_fn (m : Mem) (v : Value) (xs : List (List Int)) (h : IsV m v xs) (hb : xs.flatten.length ≤ 1000000) (hl : xs.length ≤ 1000) :
    Ev.Fn Try.prog 54 [v] m [] fun m' L' u => m' = m ∧ ∃ us, OwnS 3 1 u us L' ∧ HdI m us xs.flatten := by
  have hmx : maxLen = 9223372036854775807 := rfl
  obtain ⟨A, n, c, rfl, hn, hc, hm, -⟩ := id h
  subst hn
  have htk : ∀ j, j ≤ xs.length → (xs.take j).flatten.length ≤ 1000000 := fun j hj => by
    have := congrArg (fun y => (List.flatten y).length) (List.take_append_drop j xs)
    simp only [List.flatten_append, List.length_append] at this
    omega
  refine Fn.enter (N := 36) hX Try.func54 rfl rfl (by show _ ≤ _; simp) (fun w0 hL => ?_)
  conv => whnf
  conv => whnf
  repeat ((first | refine zT ?_ | refine zF ?_ | refine zL hX hL ?_ | refine zB hX hL ?_ | (refine zS hX hL ?_; clear hL; intro w hL) | refine zI ?_ | refine zG hX ?_ | refine zO ?_); conv => whnf)
  refine LoopReq.inv hX (fun j : Nat => [(3, .int .i64 (xs.take j).flatten.length), (11, .int .i64 j)]) [0, 9, 10]
    (fun j w => j ≤ xs.length ∧ Ev.Loc m [] w0 m [] w) (fun j => xs.length - j) 0 ⟨Nat.zero_le _, hL⟩ ⟨by rw [List.take_zero]; rfl, rfl, trivial⟩ ?_
  clear hL
  rintro j w f ⟨hj, hL⟩
  conv => whnf
  repeat ((first | refine zT ?_ | refine zF ?_ | refine zL hX hL ?_ | refine zB hX hL ?_ | (refine zS hX hL ?_; clear hL; intro w hL) | refine zI ?_ | refine zG hX ?_ | refine zO ?_); conv => whnf)
  refine BrReq.dec (fun hlt => ?_) (fun hlt => ?_)
  · have hj1 : j < xs.length := by omega
    obtain ⟨a, A', n', c', ea, hcell, hp⟩ := isAt h hj1
    obtain ⟨A2, n2, c2, e2, hn2, -⟩ := id hp
    injection e2 with e3 e4 e5
    subst e3 e4 e5
    have hs1 : (xs.take (j + 1)).flatten.length = (xs.take j).flatten.length + n' := by rw [take_succ' hj1, List.flatten_append, List.length_append, hn2]; simp
    have hb1 := htk (j + 1) (by omega)
    conv => whnf
    repeat ((first | refine Idx2Req.mk j a rfl (by omega) ea ?_ | refine LdReq.one hX rfl rfl hL hcell ?_ | refine BrReq.no (by omega) ?_ | refine zT ?_ | refine zF ?_ | refine zL hX hL ?_ | refine zB hX hL ?_ | (refine zS hX hL ?_; clear hL; intro w hL) | refine zI ?_ | refine zG hX ?_ | refine zO ?_); conv => whnf)
    refine ⟨j + 1, ⟨by omega, hL⟩, by first | omega | (simp only; omega) | (simp only [List.length_cons, List.length_append]; omega), ?_, ?_⟩
    · repeat (first | exact trivial | (refine And.intro (by (conv => lhs; whnf) <;> (conv => rhs; whnf) <;> (first | rfl | ((rw [hs1]; rfl)))) ?_))
    · repeat (first | exact trivial | (refine And.intro (by (conv => lhs; whnf) <;> (conv => rhs; whnf) <;> (first | rfl | ((rw [hs1]; rfl)))) ?_))
  have ej : j = xs.length := by omega
  subst ej
  rw [List.take_length]
  conv => whnf
  repeat ((first | refine zT ?_ | refine zF ?_ | refine zL hX hL ?_ | refine zB hX hL ?_ | (refine zS hX hL ?_; clear hL; intro w hL) | refine zI ?_ | refine zG hX ?_ | refine zO ?_); conv => whnf)
  refine CallReq.mk (L1 := []) (growI_fn m xs.flatten.length hb) hL ?_
  clear hL
  rintro u mx L1 w hL - ⟨hmx2, ho⟩
  rw [hmx2] at hL
  clear hmx2 mx
  obtain ⟨A0, n0, c0, rfl, -⟩ := ho.slice
  rw [List.append_nil] at hL
  conv => whnf
  repeat ((first | refine zT ?_ | refine zF ?_ | refine zL hX hL ?_ | refine zB hX hL ?_ | (refine zS hX hL ?_; clear hL; intro w hL) | refine zI ?_ | refine zG hX ?_ | refine zO ?_); conv => whnf)
  refine LoopReq.inv hX (fun s : Nat × Option Addr × Nat × Nat => [(6, .slice s.2.1 s.2.2.1 s.2.2.2), (27, .int .i64 s.1)]) [25, 26]
    (fun s w => s.1 ≤ xs.length ∧ ∃ us L2, OwnS 3 1 (.slice s.2.1 s.2.2.1 s.2.2.2) us L2 ∧ HdI m us (xs.take s.1).flatten ∧ Ev.Loc m [] w0 m L2 w) (fun s => xs.length - s.1) (0, A0, n0, c0)
    ⟨Nat.zero_le _, [], L1, ho, by rw [List.take_zero]; exact HdI.nil m, hL⟩ ⟨rfl, rfl, trivial⟩ ?_
  clear hL ho
  rintro ⟨j, A3, n3, c3⟩ w f2 ⟨hj, us, L2, ho, hH, hL⟩
  simp only at hj ho hH
  conv => whnf
  repeat ((first | refine zT ?_ | refine zF ?_ | refine zL hX hL ?_ | refine zB hX hL ?_ | (refine zS hX hL ?_; clear hL; intro w hL) | refine zI ?_ | refine zG hX ?_ | refine zO ?_); conv => whnf)
  refine BrReq.dec (fun hlt => ?_) (fun hlt => ?_)
  · have hj1 : j < xs.length := by simp only at hlt; omega
    obtain ⟨a, A', n', c', ea, hcell, hp⟩ := isAt h hj1
    obtain ⟨ws, hw1, hw2, hw3, hw4⟩ := srcI hp
    have hH2 := hH.app hw1
    rw [show (xs.take j).flatten ++ xs[j] = (xs.take (j + 1)).flatten by rw [take_succ' hj1, List.flatten_append, List.flatten_cons, List.flatten_nil, List.append_nil]] at hH2
    have hb1 := htk (j + 1) (by omega)
    have hlen := lenI hH2
    rw [List.length_append] at hlen
    rw [← List.append_nil L2] at hL
    conv => whnf
    repeat ((first | (refine Idx2Req.mk j a rfl (by simp only at hlt; omega) ea ?_) | refine LdReq.one hX rfl rfl hL hcell ?_ | refine zT ?_ | refine zF ?_ | refine zL hX hL ?_ | refine zB hX hL ?_ | (refine zS hX hL ?_; clear hL; intro w hL) | refine zI ?_ | refine zG hX ?_ | refine zO ?_); conv => whnf)
    refine RunReq.append hX 34 3 rfl rfl rfl rfl rfl ho hL (by rw [hw2]; exact (Nat.mul_one _).symm) (fun q u hq => by obtain ⟨x, e, hx⟩ := hw3 q u hq; exact ⟨x, e, hL.cell hx⟩) hw4 (by omega) rfl ?_
    clear hL
    intro A4 n4 c4 L4 w hn4 ho4 hL
    rw [List.append_nil] at hL
    conv => whnf
    repeat ((first | refine zT ?_ | refine zF ?_ | refine zL hX hL ?_ | refine zB hX hL ?_ | (refine zS hX hL ?_; clear hL; intro w hL) | refine zI ?_ | refine zG hX ?_ | refine zO ?_); conv => whnf)
    refine ⟨(j + 1, A4, n4, c4), ⟨by simp only; omega, _, L4, ho4, hH2, hL⟩, by first | omega | (simp only; omega) | (simp only [List.length_cons, List.length_append]; omega), ?_, ?_⟩
    · repeat (first | exact trivial | (refine And.intro (by (conv => lhs; whnf) <;> (conv => rhs; whnf) <;> (first | rfl)) ?_))
    · repeat (first | exact trivial | (refine And.intro (by (conv => lhs; whnf) <;> (conv => rhs; whnf) <;> (first | rfl)) ?_))
  have ej : j = xs.length := by simp only at hlt; omega
  subst ej
  rw [List.take_length] at hH
  conv => whnf
  repeat ((first | refine zT ?_ | refine zF ?_ | refine zL hX hL ?_ | refine zB hX hL ?_ | (refine zS hX hL ?_; clear hL; intro w hL) | refine zI ?_ | refine zG hX ?_ | refine zO ?_); conv => whnf)
  exact RetReq.mk hL ⟨rfl, us, ho, hH⟩
end Go.Proofs.Ytnpgllgmcdhmcaa.fo
