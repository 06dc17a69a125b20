/- TrackRefuses: part 4 of 14 of the proof. Conditions: none. -/
import Derived.Test.YtiololnblplloaaGreatM3
import Derived.Test.YtiololnblplloaaGreatM2
import Derived.Test.YtiololnblplloaaGreatM1
namespace Go.Proofs.YtiololnblplloaaGreat.ar
open Go Go.Ev Go.Proofs
theorem owns_get {A : Option Addr} {n c : Nat} {l : List Int} {L1 : Own} (ho : OwnS 3 1 (.slice A n c) (ints .i64 l) L1) : n = l.length ∧ n ≤ c ∧ c ≤ maxLen ∧ (l ≠ [] → ∃ g cur, A = some ⟨g, 0, none⟩ ∧ L1 = [(g, .cells (toArr cur) 3 (0, 0))] ∧ cur.length = c ∧ cur.take n = ints .i64 l ∧ ∀ (j : Nat) (z : Int), l[j]? = some z → cur[j]? = some (.int .i64 z)) := by
  obtain ⟨k, hk, ⟨e, h0, rfl⟩ | ⟨g, cap, cur, e, rfl, h1, h2, h3, h4⟩⟩ := ho
  · cases e
    have hz : l = [] := List.eq_nil_of_length_eq_zero (by simp [ints] at hk; omega)
    subst hz
    exact ⟨rfl, Nat.le_refl _, by decide, fun h => absurd rfl h⟩
  · cases e
    rw [Nat.mul_one] at h3 h4
    have hl : n = l.length := by simpa [ints] using hk.symm
    refine ⟨hl, h1, h2, fun _ => ⟨g, cur, rfl, rfl, h3, h4, fun j z hz => ?_⟩⟩
    have hj := (List.getElem?_eq_some_iff.1 hz).1
    have : (cur.take n)[j]? = (ints .i64 l)[j]? := by rw [h4]
    rw [List.getElem?_take_of_lt (by omega)] at this
    rw [this]; simp [ints, hz]
theorem indexO_fn (m : Mem) (A : Option Addr) (n c : Nat) (l : List Int) (L1 : Own) (ho : OwnS 3 1 (.slice A n c) (ints .i64 l) L1) (z : Int) : FnL Tryz.prog 129 [.slice A n c, .int .i64 z] m L1 (.int .i64 (idxI z l)) := by
  obtain ⟨hn, hnc, hm, hget⟩ := owns_get ho
  have hmx : maxLen = 9223372036854775807 := rfl
  refine Fn.enter (N := 19) hX Tryz.func129 rfl rfl (by show _ ≤ _; simp) (fun w0 hL => ?_)
  conv => whnf
  generalize keys L1 = S0 at hL ⊢
  conv => whnf
  repeat ((first | refine zT ?_ | refine zF ?_ | refine zL hX hL ?_ | refine zB hX hL ?_ | (refine zS hX hL ?_; clear hL; intro w hL) | refine zI ?_ | refine zG hX ?_ | refine zO ?_); conv => whnf)
  refine LoopReq.inv hX (fun j : Nat => [(8, .int .i64 j)]) [0, 1, 7]
    (fun j w => (j ≤ n ∧ ∀ (i : Nat), i < j → l[i]? ≠ some z) ∧ Ev.Loc m S0 w0 m L1 w) (fun j => n - j) 0
    ⟨⟨by omega, fun i h => absurd h (by omega)⟩, hL⟩ ⟨rfl, trivial⟩ ?_
  clear hL
  rintro j w g ⟨⟨hj, hdone⟩, hL⟩
  conv => whnf
  repeat ((first | refine zT ?_ | refine zF ?_ | refine zL hX hL ?_ | refine zB hX hL ?_ | (refine zS hX hL ?_; clear hL; intro w hL) | refine zI ?_ | refine zG hX ?_ | refine zO ?_); conv => whnf)
  refine BrReq.dec (fun hlt => ?_) (fun hlt => ?_)
  · have hlt' : j < l.length := by omega
    have hx := List.getElem?_eq_getElem hlt'
    obtain ⟨g, cur, rfl, rfl, -, -, hc⟩ := hget (fun e => by rw [e] at hlt'; simp at hlt')
    have hc' := hc j _ hx
    generalize l[j] = y at hx hc'
    conv => whnf
    repeat ((first | refine Idx2Req.mk j _ rfl (by omega) rfl ?_ | (refine LdReq.ownC hX rfl rfl hL .h (by rw [scale_eq, Nat.zero_add, Nat.mul_one]; exact hc') ?_) | refine zT ?_ | refine zF ?_ | refine zL hX hL ?_ | refine zB hX hL ?_ | (refine zS hX hL ?_; clear hL; intro w hL) | refine zI ?_ | refine zG hX ?_ | refine zO ?_); conv => whnf)
    by_cases hyz : z = y
    · subst hyz
      conv => whnf
      repeat ((first | refine BrReq.yes rfl ?_ | refine zT ?_ | refine zF ?_ | refine zL hX hL ?_ | refine zB hX hL ?_ | (refine zS hX hL ?_; clear hL; intro w hL) | refine zI ?_ | refine zG hX ?_ | refine zO ?_); conv => whnf)
      refine RetReq.mk hL ⟨rfl, rfl, ?_⟩
      rw [idxI_at l j hx fun q hq => hdone q hq]; rfl
    · have hd : ∀ (i : Nat), i < j + 1 → l[i]? ≠ some z := fun i hi e => by
        by_cases h1 : i = j
        · subst h1; rw [hx] at e; cases e; exact hyz rfl
        · exact hdone i (by omega) e
      conv => whnf
      repeat ((first | refine BrReq.no hyz ?_ | refine zT ?_ | refine zF ?_ | refine zL hX hL ?_ | refine zB hX hL ?_ | (refine zS hX hL ?_; clear hL; intro w hL) | refine zI ?_ | refine zG hX ?_ | refine zO ?_); conv => whnf)
      refine ⟨j + 1, ⟨⟨by omega, hd⟩, hL⟩, by first | omega | (simp only; omega) | (simp only [List.length_cons, List.length_append]; omega), ?_, ?_⟩
      · repeat (first | exact trivial | (refine And.intro (by (conv => lhs; whnf) <;> (conv => rhs; whnf) <;> (first | rfl)) ?_))
      · repeat (first | exact trivial | (refine And.intro (by (conv => lhs; whnf) <;> (conv => rhs; whnf) <;> (first | rfl)) ?_))
  · conv => whnf
    repeat ((first | refine zT ?_ | refine zF ?_ | refine zL hX hL ?_ | refine zB hX hL ?_ | (refine zS hX hL ?_; clear hL; intro w hL) | refine zI ?_ | refine zG hX ?_ | refine zO ?_); conv => whnf)
    refine RetReq.mk hL ⟨rfl, rfl, ?_⟩
    rw [idxI_none l fun h => by
      obtain ⟨i, hi, e⟩ := List.getElem_of_mem h
      exact hdone i (by omega) (by rw [List.getElem?_eq_getElem hi, e])]; rfl
theorem containsO_fn (m : Mem) (A : Option Addr) (n c : Nat) (l : List Int) (L1 : Own) (ho : OwnS 3 1 (.slice A n c) (ints .i64 l) L1) (z : Int) : FnL Tryz.prog 103 [.slice A n c, .int .i64 z] m L1 (.bool (decide (z ∈ l))) := by
  refine Fn.enter (N := 9) hX Tryz.func103 rfl rfl (by show _ ≤ _; simp) (fun w0 hL => ?_)
  conv => whnf
  generalize keys L1 = S0 at hL ⊢
  conv => whnf
  repeat ((first | refine zT ?_ | refine zF ?_ | refine zL hX hL ?_ | refine zB hX hL ?_ | (refine zS hX hL ?_; clear hL; intro w hL) | refine zI ?_ | refine zG hX ?_ | refine zO ?_); conv => whnf)
  refine CallReq.lo (indexO_fn m A n c l L1 ho z) hL ?_
  clear hL
  intro w hL
  conv => whnf
  repeat ((first | refine zT ?_ | refine zF ?_ | refine zL hX hL ?_ | refine zB hX hL ?_ | (refine zS hX hL ?_; clear hL; intro w hL) | refine zI ?_ | refine zG hX ?_ | refine zO ?_); conv => whnf)
  exact RetReq.mk hL ⟨rfl, rfl, congrArg Value.bool (decide_eq_decide.2 (idxI_pos l))⟩
theorem indexFO_fn (m : Mem) (b : Nat) (z : Int) (A : Option Addr) (n c : Nat) (l : List Int) (L1 : Own) (ho : OwnS 3 1 (.slice A n c) (ints .i64 l) L1) :
    FnL Tryz.prog 94 [.slice A n c, .func (.func 140) #[] #[.pointer (some ⟨b, 0, none⟩)]] m ((b, .cells (toArr [.int .i64 z]) 3 (0, 0)) :: L1) (.int .i64 (idxI z l)) := by
  obtain ⟨hn, hnc, hm, hget⟩ := owns_get ho
  have hmx : maxLen = 9223372036854775807 := rfl
  refine Fn.enter (N := 19) hX Tryz.func94 rfl rfl (by show _ ≤ _; simp) (fun w0 hL => ?_)
  conv => whnf
  generalize keys ((b, Obj.cells (toArr [.int .i64 z]) 3 (0, 0)) :: L1) = S0 at hL ⊢
  conv => whnf
  repeat ((first | refine zT ?_ | refine zF ?_ | refine zL hX hL ?_ | refine zB hX hL ?_ | (refine zS hX hL ?_; clear hL; intro w hL) | refine zI ?_ | refine zG hX ?_ | refine zO ?_); conv => whnf)
  refine LoopReq.inv hX (fun j : Nat => [(8, .int .i64 j)]) [0, 1, 7]
    (fun j w => (j ≤ n ∧ ∀ (i : Nat), i < j → l[i]? ≠ some z) ∧ Ev.Loc m S0 w0 m ((b, .cells (toArr [.int .i64 z]) 3 (0, 0)) :: L1) w) (fun j => n - j) 0
    ⟨⟨by omega, fun i h => absurd h (by omega)⟩, hL⟩ ⟨rfl, trivial⟩ ?_
  clear hL
  rintro j w g ⟨⟨hj, hdone⟩, hL⟩
  conv => whnf
  repeat ((first | refine zT ?_ | refine zF ?_ | refine zL hX hL ?_ | refine zB hX hL ?_ | (refine zS hX hL ?_; clear hL; intro w hL) | refine zI ?_ | refine zG hX ?_ | refine zO ?_); conv => whnf)
  refine BrReq.dec (fun hlt => ?_) (fun hlt => ?_)
  · have hlt' : j < l.length := by omega
    have hx := List.getElem?_eq_getElem hlt'
    obtain ⟨g, cur, rfl, rfl, -, -, hc⟩ := hget (fun e => by rw [e] at hlt'; simp at hlt')
    have hc' := hc j _ hx
    generalize l[j] = y at hx hc'
    conv => whnf
    repeat ((first | refine Idx2Req.mk j _ rfl (by omega) rfl ?_ | (refine LdReq.ownC hX rfl rfl hL (.t .h) (by rw [scale_eq, Nat.zero_add, Nat.mul_one]; exact hc') ?_) | refine zT ?_ | refine zF ?_ | refine zL hX hL ?_ | refine zB hX hL ?_ | (refine zS hX hL ?_; clear hL; intro w hL) | refine zI ?_ | refine zG hX ?_ | refine zO ?_); conv => whnf)
    refine CallReq.li (L1 := [(b, .cells (toArr [.int .i64 z]) 3 (0, 0))]) (L2 := [_]) (is_fn m b z y) hL ?_
    clear hL
    intro w hL
    by_cases hyz : y = z
    · subst hyz
      rw [decide_eq_true rfl]
      conv => whnf
      repeat ((first | refine zT ?_ | refine zF ?_ | refine zL hX hL ?_ | refine zB hX hL ?_ | (refine zS hX hL ?_; clear hL; intro w hL) | refine zI ?_ | refine zG hX ?_ | refine zO ?_); conv => whnf)
      refine RetReq.mk hL ⟨rfl, rfl, ?_⟩
      rw [idxI_at l j hx fun q hq => hdone q hq]; rfl
    · have hd : ∀ (i : Nat), i < j + 1 → l[i]? ≠ some z := fun i hi e => by
        by_cases h1 : i = j
        · subst h1; rw [hx] at e; cases e; exact hyz rfl
        · exact hdone i (by omega) e
      rw [decide_eq_false hyz]
      conv => whnf
      repeat ((first | refine zT ?_ | refine zF ?_ | refine zL hX hL ?_ | refine zB hX hL ?_ | (refine zS hX hL ?_; clear hL; intro w hL) | refine zI ?_ | refine zG hX ?_ | refine zO ?_); conv => whnf)
      refine ⟨j + 1, ⟨⟨by omega, hd⟩, hL⟩, by first | omega | (simp only; omega) | (simp only [List.length_cons, List.length_append]; omega), ?_, ?_⟩
      · repeat (first | exact trivial | (refine And.intro (by (conv => lhs; whnf) <;> (conv => rhs; whnf) <;> (first | rfl)) ?_))
      · repeat (first | exact trivial | (refine And.intro (by (conv => lhs; whnf) <;> (conv => rhs; whnf) <;> (first | rfl)) ?_))
  · conv => whnf
    repeat ((first | refine zT ?_ | refine zF ?_ | refine zL hX hL ?_ | refine zB hX hL ?_ | (refine zS hX hL ?_; clear hL; intro w hL) | refine zI ?_ | refine zG hX ?_ | refine zO ?_); conv => whnf)
    refine RetReq.mk hL ⟨rfl, rfl, ?_⟩
    rw [idxI_none l fun h => by
      obtain ⟨i, hi, e⟩ := List.getElem_of_mem h
      exact hdone i (by omega) (by rw [List.getElem?_eq_getElem hi, e])]; rfl
theorem zero_rep (n : Nat) (z : Value) (hz : z.cells = #[z]) : (Builtin.zeroCells z.cells n).toList = List.replicate n z := by
  rw [hz]
  simp [Builtin.zeroCells]
  apply List.ext_getElem
  · simp
  · intro i h1 h2
    simp [Nat.mod_one]
theorem GenReq.clear {o : Oper} {ρ : Operand → Value} {c : Call} {m0 m : Mem} {S : List Nat} {w0 w : World} {L : Own} {t e ty : TypeId} {g off n cap : Nat} {cur : List Value} {z : Value} {K : Value → World → Prop} (ho : o.op = .call c) (hc : c.callee = .builtin .clear) (hat : c.argTypes = #[t])
    (hu : Tryz.prog.underlying t = some (.slice e)) (hz0 : ∀ w, (zeroValue e).run Tryz.prog w = .ok z w) (hz : z.cells = #[z]) (h1 : z.oneCell' = true) (ha : c.args.toList.map ρ = [.slice (some ⟨g, off, none⟩) n cap]) (hn : 0 < n) (i : Nat)
    (hL : Ev.Loc m0 S w0 m L w) (hi : Ev.look L i = some (g, .cells (toArr cur) ty (0, 0))) (hle : off + n ≤ cur.length)
    (h : ∀ w', Ev.Loc m0 S w0 m (L.set i (g, .cells (toArr (spliceL cur off (List.replicate n z))) ty (0, 0))) w' → K (.tuple #[]) w') : GenReq Tryz.prog o ρ w K := by
  constructor
  unfold OpOk
  have hargs : c.args.map ρ = #[.slice (some ⟨g, off, none⟩) n cap] := by apply Array.ext'; rw [Array.toList_map, ha]
  have hex : execOp ρ o = (do pure (.value (← Builtin.clear_ c.argTypes o.type #[.slice (some ⟨g, off, none⟩) n cap]))) := by rw [← hargs]; simp [execOp, ho, resolve, hc, invoke, builtin]
  obtain ⟨w', hst, hl⟩ := run_storeCells (P := Tryz.prog) ty (List.replicate n z) 0 hL hi (by simpa using hle) (by intro v hv; rw [List.eq_of_mem_replicate hv]; exact h1)
  obtain ⟨k, rfl⟩ : ∃ k, n = k + 1 := ⟨n - 1, by omega⟩
  have hrun : (Builtin.clear_ c.argTypes o.type #[.slice (some ⟨g, off, none⟩) (k + 1) cap]).run Tryz.prog w = .ok (.tuple #[]) w' := by
    rw [hat]
    simp [Builtin.clear_, run_underlying hu, hz0, zero_rep _ _ hz, hst]
  rw [hex]
  simp only [Sem.run_bind, hrun, Result.andThen_ok, Sem.run_pure, upon]
  exact h w' (by simpa using hl)
def dropI (z : Int) (l : List Int) : List Int := l.filter fun y => decide (y ≠ z)
theorem dropI_none {z : Int} {l : List Int} (h : z ∉ l) : dropI z l = l := by
  unfold dropI
  rw [List.filter_eq_self]
  intro y hy
  exact decide_eq_true fun e => h (e ▸ hy)
theorem dropI_take {z : Int} {l : List Int} {j : Nat} (h : j < l.length) : dropI z (l.take (j + 1)) = dropI z (l.take j) ++ (if l[j] = z then [] else [l[j]]) := by
  unfold dropI
  rw [List.take_succ_eq_append_getElem h, List.filter_append]
  congr 1
  by_cases e : l[j] = z
  · rw [if_pos e, List.filter_cons, if_neg (by simp [e])]; rfl
  · rw [if_neg e, List.filter_cons, if_pos (by simp [e])]; rfl
theorem idxI_spec {z : Int} : ∀ (l : List Int) (i : Nat), idxI z l = i → l[i]? = some z ∧ z ∉ l.take i
  | [], i, h => by simp only [idxI] at h; omega
  | a :: l, i, h => by
    simp only [idxI] at h
    by_cases e : a = z
    · rw [if_pos e] at h
      obtain rfl : i = 0 := by omega
      exact ⟨by rw [e]; rfl, by simp⟩
    · rw [if_neg e] at h
      by_cases h2 : idxI z l < 0
      · rw [if_pos h2] at h; omega
      · rw [if_neg h2] at h
        obtain ⟨i', rfl⟩ : ∃ i', i = i' + 1 := ⟨i - 1, by omega⟩
        obtain ⟨h3, h4⟩ := idxI_spec (z := z) l i' (by omega)
        refine ⟨by simpa using h3, ?_⟩
        rw [List.take_succ_cons, List.mem_cons]
        rintro (h5 | h5)
        · exact e h5.symm
        · exact h4 h5
theorem dropI_len (z : Int) (l : List Int) : (dropI z l).length ≤ l.length := List.length_filter_le _ _
theorem splice_keep : ∀ (vs cur : List Value) (off k : Nat), k ≤ off → (spliceL cur off vs).take k = cur.take k ∧ (spliceL cur off vs).length = cur.length
  | [], cur, off, k, _ => ⟨rfl, rfl⟩
  | v :: vs, cur, off, k, h => by
    obtain ⟨h1, h2⟩ := splice_keep vs (cur.set off v) (off + 1) k (by omega)
    rw [spliceL]
    refine ⟨?_, by rw [h2, List.length_set]⟩
    rw [h1, List.take_set, List.set_eq_of_length_le (by rw [List.length_take]; omega)]
set_option maxHeartbeats 1000000 in
theorem deleteG_fn (m : Mem) (b : Nat) (z : Int) (A : Option Addr) (n c : Nat) (l : List Int) (L1 : Own) (ho : OwnS 3 1 (.slice A n c) (ints .i64 l) L1) :
    Ev.Fn Tryz.prog 62 [.slice A n c, .func (.func 140) #[] #[.pointer (some ⟨b, 0, none⟩)]] m ((b, .cells (toArr [.int .i64 z]) 3 (0, 0)) :: L1)
      fun m' L' u => m' = m ∧ ∃ Lo, L' = (b, .cells (toArr [.int .i64 z]) 3 (0, 0)) :: Lo ∧ OwnS 3 1 u (ints .i64 (dropI z l)) Lo := by
  have hidx := indexFO_fn m b z A n c l L1 ho
  obtain ⟨hn, hnc, hm, hget⟩ := owns_get ho
  have hmx : maxLen = 9223372036854775807 := rfl
  refine Fn.enter (N := 42) hX Tryz.func62 rfl rfl (by show _ ≤ _; simp) (fun w0 hL => ?_)
  conv => whnf
  generalize keys ((b, Obj.cells (toArr [.int .i64 z]) 3 (0, 0)) :: L1) = S0 at hL ⊢
  conv => whnf
  repeat ((first | refine zT ?_ | refine zF ?_ | refine zL hX hL ?_ | refine zB hX hL ?_ | (refine zS hX hL ?_; clear hL; intro w hL) | refine zI ?_ | refine zG hX ?_ | refine zO ?_); conv => whnf)
  refine CallReq.lo hidx hL ?_
  clear hL
  intro w hL
  by_cases hz : z ∈ l
  rotate_left
  · rw [idxI_none l hz]
    conv => whnf
    repeat ((first | refine zT ?_ | refine zF ?_ | refine zL hX hL ?_ | refine zB hX hL ?_ | (refine zS hX hL ?_; clear hL; intro w hL) | refine zI ?_ | refine zG hX ?_ | refine zO ?_); conv => whnf)
    exact RetReq.mk hL ⟨rfl, L1, rfl, by rw [dropI_none hz]; exact ho⟩
  · obtain ⟨i0, hi0⟩ : ∃ i0 : Nat, idxI z l = i0 := ⟨(idxI z l).toNat, by have := (idxI_pos (z := z) l).2 hz; omega⟩
    rw [hi0]
    obtain ⟨hsp, hno⟩ := idxI_spec l i0 hi0
    have hil := (List.getElem?_eq_some_iff.1 hsp).1
    obtain ⟨g, cur, rfl, rfl, hcl, hct, hcg⟩ := hget (fun e => by rw [e] at hil; simp at hil)
    have hd0 : dropI z (l.take (i0 + 1)) = l.take i0 := by
      rw [dropI_take hil, if_pos (List.getElem?_eq_some_iff.1 hsp).2, List.append_nil, dropI_none hno]
    conv => whnf
    repeat ((first | refine zT ?_ | refine zF ?_ | refine zL hX hL ?_ | refine zB hX hL ?_ | (refine zS hX hL ?_; clear hL; intro w hL) | refine zI ?_ | refine zG hX ?_ | refine zO ?_); conv => whnf)
    refine LoopReq.inv hX (fun s : Nat × Nat => [(5, .int .i64 s.1), (6, .int .i64 s.2)]) [0, 1]
      (fun s w => (s.1 < s.2 ∧ s.2 ≤ n ∧ s.1 = (dropI z (l.take s.2)).length) ∧ ∃ cur : List Value, (cur.length = c ∧ cur.take s.1 = ints .i64 (dropI z (l.take s.2)) ∧ ∀ (q : Nat) (y : Int), s.2 ≤ q → l[q]? = some y → cur[q]? = some (.int .i64 y)) ∧
        Ev.Loc m S0 w0 m [(b, .cells (toArr [.int .i64 z]) 3 (0, 0)), (g, .cells (toArr cur) 3 (0, 0))] w) (fun s => n - s.2) (i0, i0 + 1)
      ⟨⟨by simp, by simp only; omega, by simp only; rw [hd0, List.length_take]; omega⟩, cur, ⟨hcl, by
        simp only
        rw [hd0]
        have : cur.take i0 = (cur.take n).take i0 := by rw [List.take_take]; congr 1; omega
        rw [this, hct]; simp [ints, List.map_take], fun q y _ hq => hcg q y hq⟩, hL⟩ ⟨rfl, rfl, trivial⟩ ?_
    clear hL hcl hct hcg
    rintro ⟨i, j⟩ w f ⟨⟨hij, hjn, hie⟩, cur, ⟨hcl, hct, hcg⟩, hL⟩
    simp only at hij hjn hie hct hcg
    conv => whnf
    repeat ((first | refine zT ?_ | refine zF ?_ | refine zL hX hL ?_ | refine zB hX hL ?_ | (refine zS hX hL ?_; clear hL; intro w hL) | refine zI ?_ | refine zG hX ?_ | refine zO ?_); conv => whnf)
    refine BrReq.dec (fun hlt => ?_) (fun hlt => ?_)
    · have hlt' : j < l.length := by simp only at hlt; omega
      have hx := List.getElem?_eq_getElem hlt'
      have hc' := hcg j _ (Nat.le_refl j) hx
      have htk := dropI_take (z := z) hlt'
      generalize l[j] = y at hx hc' htk
      conv => whnf
      repeat ((first | (refine Idx2Req.mk j _ rfl (by simp only at hlt ⊢; omega) rfl ?_) | (refine LdReq.ownC hX rfl rfl hL (.t .h) (by rw [scale_eq, Nat.zero_add, Nat.mul_one]; exact hc') ?_) | refine zT ?_ | refine zF ?_ | refine zL hX hL ?_ | refine zB hX hL ?_ | (refine zS hX hL ?_; clear hL; intro w hL) | refine zI ?_ | refine zG hX ?_ | refine zO ?_); conv => whnf)
      refine CallReq.li (L1 := [(b, .cells (toArr [.int .i64 z]) 3 (0, 0))]) (L2 := [_]) (is_fn m b z y) hL ?_
      clear hL
      intro w hL
      by_cases hyz : y = z
      · rw [decide_eq_true hyz]
        rw [if_pos hyz, List.append_nil] at htk
        conv => whnf
        repeat ((first | refine zT ?_ | refine zF ?_ | refine zL hX hL ?_ | refine zB hX hL ?_ | (refine zS hX hL ?_; clear hL; intro w hL) | refine zI ?_ | refine zG hX ?_ | refine zO ?_); conv => whnf)
        refine ⟨(i, j + 1), ⟨⟨by simp only; omega, by simp only; omega, by simp only; rw [htk]; exact hie⟩, cur, ⟨hcl, by simp only; rw [htk]; exact hct, fun q y hq hy => hcg q y (by simp only at hq; omega) hy⟩, hL⟩, by first | omega | (simp only; omega) | (simp only [List.length_cons, List.length_append]; omega), ?_, ?_⟩
        · repeat (first | exact trivial | (refine And.intro (by (conv => lhs; whnf) <;> (conv => rhs; whnf) <;> (first | rfl)) ?_))
        · repeat (first | exact trivial | (refine And.intro (by (conv => lhs; whnf) <;> (conv => rhs; whnf) <;> (first | rfl)) ?_))
      · rw [decide_eq_false hyz]
        rw [if_neg hyz] at htk
        conv => whnf
        repeat ((first | refine Idx2Req.mk i _ rfl (by omega) rfl ?_ | refine zT ?_ | refine zF ?_ | refine zL hX hL ?_ | refine zB hX hL ?_ | (refine zS hX hL ?_; clear hL; intro w hL) | refine zI ?_ | refine zG hX ?_ | refine zO ?_); conv => whnf)
        refine StReq.ownAt hX rfl 1 hL rfl rfl (by rw [scale_eq, Nat.zero_add, Nat.mul_one]; show i + 1 ≤ cur.length; omega) rfl ?_
        clear hL
        intro w hL
        replace hL : Ev.Loc m S0 w0 m [(b, .cells (toArr [.int .i64 z]) 3 (0, 0)), (g, .cells (toArr (spliceL cur (0 + scale i 1) [.int .i64 y])) 3 (0, 0))] w := hL
        rw [scale_eq, Nat.zero_add, Nat.mul_one] at hL
        replace hL : Ev.Loc m S0 w0 m [(b, .cells (toArr [.int .i64 z]) 3 (0, 0)), (g, .cells (toArr (cur.set i (.int .i64 y))) 3 (0, 0))] w := hL
        have hct2 : (cur.set i (.int .i64 y)).take (i + 1) = ints .i64 (dropI z (l.take (j + 1))) := by
          rw [htk, ints_append, ← hct, List.take_set, List.take_succ_eq_append_getElem (by omega : i < cur.length), List.set_append_right _ _ (by rw [List.length_take]; omega)]
          rw [List.length_take, show i - min i cur.length = 0 by omega]; rfl
        conv => whnf
        repeat ((first | refine zT ?_ | refine zF ?_ | refine zL hX hL ?_ | refine zB hX hL ?_ | (refine zS hX hL ?_; clear hL; intro w hL) | refine zI ?_ | refine zG hX ?_ | refine zO ?_); conv => whnf)
        refine ⟨(i + 1, j + 1), ⟨⟨by simp only; omega, by simp only; omega, by simp only; rw [htk, List.length_append, ← hie]; rfl⟩, cur.set i (.int .i64 y), ⟨by rw [List.length_set]; exact hcl, hct2, fun q y' hq hy => by rw [List.getElem?_set_ne (by simp only at hq; omega)]; exact hcg q y' (by simp only at hq; omega) hy⟩, hL⟩, by first | omega | (simp only; omega) | (simp only [List.length_cons, List.length_append]; omega), ?_, ?_⟩
        · repeat (first | exact trivial | (refine And.intro (by (conv => lhs; whnf) <;> (conv => rhs; whnf) <;> (first | rfl)) ?_))
        · repeat (first | exact trivial | (refine And.intro (by (conv => lhs; whnf) <;> (conv => rhs; whnf) <;> (first | rfl)) ?_))
    · have ej : j = n := by simp only at hlt; omega
      subst ej
      rw [hn, List.take_length] at hie hct
      have hin : i < l.length := by omega
      have hci : ¬ c = i := by omega
      have hc0 : ¬ c = 0 := by omega
      conv => whnf
      repeat ((first | refine SlReq.mk i j rfl rfl (by omega) (by omega) ?_ | refine zT ?_ | refine zF ?_ | refine zL hX hL ?_ | refine zB hX hL ?_ | (refine zS hX hL ?_; clear hL; intro w hL) | refine zI ?_ | refine zG hX ?_ | refine zO ?_); conv => whnf)
      have hsl : ([Value.slice (if c = i then some ⟨g, 0, none⟩ else Option.map (fun x : Addr => x.add (scale i 1)) (some ⟨g, 0, none⟩)) (j - i) (c - i)] : List Value) = [.slice (some ⟨g, i, none⟩) (j - i) (c - i)] := by
        rw [if_neg hci]
        show [Value.slice (some ((⟨g, 0, none⟩ : Addr).add (scale i 1))) (j - i) (c - i)] = _
        rw [addr_add, scale_eq, Nat.zero_add, Nat.mul_one]
      refine GenReq.clear (z := .int .i64 0) rfl rfl rfl Tryz.underlying108 (fun w => Tryz.zeroValue3 w) rfl rfl hsl (by omega) 1 hL rfl (by omega) ?_
      clear hL
      intro w hL
      obtain ⟨k1, k2⟩ := splice_keep (List.replicate (j - i) (.int .i64 0)) cur i i (Nat.le_refl _)
      replace hL : Ev.Loc m S0 w0 m [(b, .cells (toArr [.int .i64 z]) 3 (0, 0)), (g, .cells (toArr (spliceL cur i (List.replicate (j - i) (.int .i64 0)))) 3 (0, 0))] w := hL
      generalize spliceL cur i (List.replicate (j - i) (.int .i64 0)) = cur2 at hL k1 k2
      conv => whnf
      repeat ((first | refine SlReq.mk 0 i rfl rfl (by omega) (by omega) ?_ | refine zT ?_ | refine zF ?_ | refine zL hX hL ?_ | refine zB hX hL ?_ | (refine zS hX hL ?_; clear hL; intro w hL) | refine zI ?_ | refine zG hX ?_ | refine zO ?_); conv => whnf)
      refine RetReq.mk hL ⟨rfl, _, rfl, ?_⟩
      show OwnS 3 1 (.slice (if c = 0 then some ⟨g, 0, none⟩ else Option.map (fun x : Addr => x.add (scale 0 1)) (some ⟨g, 0, none⟩)) (i - 0) (c - 0)) _ _
      rw [if_neg hc0]
      have hbk := OwnS.block (te := 3) (size := 1) (g := g) (n := i) (cap := c) (cur := cur2) (by omega) hm (by omega)
      rw [Nat.mul_one, k1, hct] at hbk
      exact hbk
end Go.Proofs.YtiololnblplloaaGreat.ar
namespace Go.Proofs.YtiololnblplloaaGreat.ar
open Go Go.Ev Go.Proofs
def kindN (ns : List Nd) (id : Int) : Int := (nodeN ns id).1.k
def memF (ns : List Nd) (kd : Int) : Nat → List Int → List Int → List Int → Option (List Int)
  | 0, _, _, _ => none
  | _ + 1, [], out, _ => some out
  | k + 1, id :: st, out, seen => if id ∈ seen then memF ns kd k st out seen
    else if kindN ns id = kd then memF ns kd k ((nodeN ns id).1.b :: (nodeN ns id).1.a :: st) out (seen ++ [id])
    else memF ns kd k st (out ++ [id]) (seen ++ [id])
def seenW (l : List Int) : List (Value × Value) := l.map fun z => (.int .i64 z, .bool true)
theorem seenW_key {l : List Int} (h : ∀ z ∈ l, i64 z) : ∀ y ∈ seenW l, IsK Tryz.prog 3 y.1 := by
  intro y hy
  obtain ⟨z, hz, rfl⟩ := List.mem_map.1 hy
  exact isK_int z (h z hz)
theorem seenW_mem {l : List Int} {z : Int} {v : Value} (h : ((.int .i64 z, v) : Value × Value) ∈ seenW l) : z ∈ l ∧ v = .bool true := by
  obtain ⟨y, hy, e⟩ := List.mem_map.1 h
  injection e with e1 e2
  injection e1 with _ e3
  exact ⟨e3 ▸ hy, e2.symm⟩
theorem seenW_no {l : List Int} {z : Int} (h : ∀ x ∈ seenW l, x.1 ≠ .int .i64 z) : z ∉ l := fun hm => h (.int .i64 z, .bool true) (List.mem_map.2 ⟨z, hm, rfl⟩) rfl
theorem seenW_set {l : List Int} {z : Int} {q : Nat} {u : Value} (h : (seenW l)[q]? = some (.int .i64 z, u)) : (seenW l).set q (.int .i64 z, .bool true) = seenW l := by
  have h1 := (seenW_mem (List.mem_of_getElem? h)).2
  subst h1
  apply List.ext_getElem?
  intro k
  rw [List.getElem?_set]
  split
  · rename_i e; subst e
    rw [if_pos (List.getElem?_eq_some_iff.1 h).1, h]
  · rfl
def okId (ns : List Nd) (z : Int) : Prop := 0 ≤ z ∧ z < ns.length
theorem okId_i64 {ns : List Nd} (hn : ns.length ≤ 20000) {z : Int} (h : okId ns z) : i64 z := by unfold okId at h; unfold i64; omega
theorem nodeN_ok {ns : List Nd} {z : Int} (h : okId ns z) : ∃ x, nodeN ns z = (x, true) ∧ ns[z.toNat]? = some x := by
  unfold nodeN okId at *
  rw [if_pos h]
  have := List.getElem?_eq_getElem (l := ns) (i := z.toNat) (by omega)
  exact ⟨ns[z.toNat], by simp [List.getD, this], this⟩
theorem okId_parts {ns : List Nd} (hO : OkA ns) {z : Int} (h : okId ns z) (hk : kindN ns z = 3 ∨ kindN ns z = 4 ∨ kindN ns z = 5) : okId ns (nodeN ns z).1.a ∧ okId ns (nodeN ns z).1.b := by
  obtain ⟨x, e1, e2⟩ := nodeN_ok h
  unfold kindN at hk
  rw [e1] at hk ⊢
  simp only at hk ⊢
  have := (right_lt (hO.right _ x e2)).1 hk
  unfold okId at *
  omega
theorem cloneG_fn (m : Mem) (v : Value) (l : List Int) (hl : SlI m .i64 v l) (hb : l.length ≤ 1000000) :
    Ev.Fn Tryz.prog 112 [v] m [] fun m' L' u => m' = m ∧ OwnS 3 1 u (ints .i64 l) L' := by
  by_cases h0 : l = []
  rotate_left
  · exact clone_fn m v l hl h0 hb
  subst h0
  obtain ⟨A, n, c, rfl, hn, hc, hm, -⟩ := id hl
  simp only [List.length_nil] at hn
  subst hn
  cases A with
  | none =>
    refine Fn.enter (N := 8) hX Tryz.func112 rfl rfl (by show _ ≤ _; simp) (fun w0 hL => ?_)
    conv => whnf
    conv => whnf
    repeat ((first | refine zT ?_ | refine zF ?_ | refine zL hX hL ?_ | refine zB hX hL ?_ | (refine zS hX hL ?_; clear hL; intro w hL) | refine zI ?_ | refine zG hX ?_ | refine zO ?_); conv => whnf)
    exact RetReq.mk hL ⟨rfl, OwnS.nil _ _⟩
  | some a =>
    refine Fn.enter (N := 8) hX Tryz.func112 rfl rfl (by show _ ≤ _; simp) (fun w0 hL => ?_)
    conv => whnf
    conv => whnf
    repeat ((first | refine zT ?_ | refine zF ?_ | refine zL hX hL ?_ | refine zB hX hL ?_ | (refine zS hX hL ?_; clear hL; intro w hL) | refine zI ?_ | refine zG hX ?_ | refine zO ?_); conv => whnf)
    refine NewReq.mk hL ?_
    clear hL
    intro g w hL
    conv => whnf
    replace hL : Ev.Loc m [] w0 m ([(g, .cells (toArr []) 3 (0, 0))] ++ []) w := hL
    refine RunReq.append hX 108 3 rfl rfl rfl rfl rfl (OwnS.full (n := 0) (by omega) rfl) hL (news := []) rfl (fun j u hj => by simp at hj) (fun u hu => by simp at hu) (by simp) rfl ?_
    clear hL
    intro A2 n2 c2 L2 w hn2 ho hL
    rw [List.append_nil] at hL
    conv => whnf
    repeat ((first | refine zT ?_ | refine zF ?_ | refine zL hX hL ?_ | refine zB hX hL ?_ | (refine zS hX hL ?_; clear hL; intro w hL) | refine zI ?_ | refine zG hX ?_ | refine zO ?_); conv => whnf)
    exact RetReq.mk hL ⟨rfl, ho⟩
set_option maxHeartbeats 2000000 in
theorem membersG_fn (m : Mem) (ab : Nat) (ns : List Nd) (L : Own) (hA : Ar ab ns L) (hO : OkA ns) (kd : Int) (hkd : kd = 4 ∨ kd = 5) (v : Value) (l : List Int) (hv : SlI m .i64 v l) (hid : ∀ z ∈ l, okId ns z) (hlb : l.length ≤ 20000) (k0 : Nat) (hk0 : k0 ≤ 100000) (res : List Int) (hres : memF ns kd k0 l.reverse [] [] = some res) :
    Ev.Fn Tryz.prog 139 [.pointer (some ⟨ab, 0, none⟩), .int .i64 kd, v] m L fun m' L' u => m' = m ∧ ∃ Lo, L' = Lo ++ L ∧ OwnS 3 1 u (ints .i64 res) Lo := by
  obtain ⟨A, n, c, rfl, -⟩ := id hv
  have hlen := hO.len
  refine Fn.enter (N := 59) hX Tryz.func139 rfl rfl (by show _ ≤ _; simp) (fun w0 hL => ?_)
  conv => whnf
  generalize keys L = S0 at hL ⊢
  conv => whnf
  repeat ((first | refine zT ?_ | refine zF ?_ | refine zL hX hL ?_ | refine zB hX hL ?_ | (refine zS hX hL ?_; clear hL; intro w hL) | refine zI ?_ | refine zG hX ?_ | refine zO ?_); conv => whnf)
  refine RunReq.makeMapW hL ?_
  clear hL
  intro kb w hL
  conv => whnf
  repeat ((first | refine zT ?_ | refine zF ?_ | refine zL hX hL ?_ | refine zB hX hL ?_ | (refine zS hX hL ?_; clear hL; intro w hL) | refine zI ?_ | refine zG hX ?_ | refine zO ?_); conv => whnf)
  refine CallReq.mk (L1 := []) (L2 := (kb, mapW (seenW [])) :: L) (cloneG_fn m _ l hv (by omega)) hL ?_
  clear hL
  rintro u mx Lt w hL - ⟨hmx, ht⟩
  rw [hmx] at hL
  clear hmx mx
  obtain ⟨At, nt, ct, rfl, -⟩ := ht.slice
  conv => whnf
  repeat ((first | refine zT ?_ | refine zF ?_ | refine zL hX hL ?_ | refine zB hX hL ?_ | (refine zS hX hL ?_; clear hL; intro w hL) | refine zI ?_ | refine zG hX ?_ | refine zO ?_); conv => whnf)
  refine LoopReq.inv hX (fun s : Nat × (Option Addr × Nat × Nat) × (Option Addr × Nat × Nat) => [(7, .slice s.2.1.1 s.2.1.2.1 s.2.1.2.2), (9, .slice s.2.2.1 s.2.2.2.1 s.2.2.2.2)]) [0, 1, 8]
    (fun s w => ∃ st out seen, ∃ Lo Lt : Own, (memF ns kd s.1 st out seen = some res ∧ (∀ z ∈ st, okId ns z) ∧ (∀ z ∈ seen, okId ns z) ∧ st.length + 2 * s.1 ≤ 20000 + 2 * k0 ∧ out.length + s.1 ≤ k0) ∧ OwnS 3 1 (.slice s.2.1.1 s.2.1.2.1 s.2.1.2.2) (ints .i64 out) Lo ∧ OwnS 3 1 (.slice s.2.2.1 s.2.2.2.1 s.2.2.2.2) (ints .i64 st.reverse) Lt ∧
      Ev.Loc m S0 w0 m (Lt ++ ((kb, mapW (seenW seen)) :: (Lo ++ L))) w) (fun s => s.1) (k0, (none, 0, 0), (At, nt, ct))
    ⟨l.reverse, [], [], [], Lt, ⟨hres, by simpa using hid, by simp, by simp; omega, by simp⟩, OwnS.nil _ _, by rw [List.reverse_reverse]; exact ht, hL⟩ ⟨rfl, rfl, trivial⟩ ?_
  clear hL ht
  rintro ⟨k, ⟨A1, n1, c1⟩, ⟨A2, n2, c2⟩⟩ w f ⟨st, out, seen, Lo, Lt, ⟨hmem, hst, hseen, hb1, hb2⟩, ho, ht, hL⟩
  simp only at hmem hb1 hb2 ho ht
  obtain ⟨hn2, hnc2, hm2, hget⟩ := owns_get ht
  rw [List.length_reverse] at hn2
  have hmx : maxLen = 9223372036854775807 := rfl
  cases k with
  | zero => simp [memF] at hmem
  | succ k =>
  cases st with
  | nil =>
    rw [memF] at hmem
    cases hmem
    conv => whnf
    repeat ((first | (refine BrReq.no (by simp only [List.length_nil] at hn2; simp only; omega) ?_) | refine zT ?_ | refine zF ?_ | refine zL hX hL ?_ | refine zB hX hL ?_ | (refine zS hX hL ?_; clear hL; intro w hL) | refine zI ?_ | refine zG hX ?_ | refine zO ?_); conv => whnf)
    refine RetReq.mk (L := Lo ++ L) ((Loc.back (L1 := Lt) hL).sublist (.cons _ (List.sublist_append_left _ _))) ⟨rfl, Lo, rfl, ho⟩
  | cons id st =>
    simp only [List.length_cons] at hn2 hb1
    obtain ⟨gt, cur, rfl, rfl, hcl, hct, hcg⟩ := hget (by simp)
    have hc' := hcg st.length id (by simp)
    have hidk := hst id (by simp)
    obtain ⟨x, hx1, hx2⟩ := nodeN_ok hidk
    have hnode := Node_fn m ab ns L hA id
    rw [hx1] at hnode
    simp only at hnode
    have hkx : kindN ns id = x.k := by unfold kindN; rw [hx1]
    have hIK := isK_int id (okId_i64 hlen hidk)
    have hks := seenW_key (fun z hz => okId_i64 hlen (hseen z hz))
    have hc0 : ¬ c2 = 0 := by omega
    have ht2 : OwnS 3 1 (.slice (if c2 = 0 then some ⟨gt, 0, none⟩ else Option.map (fun x : Addr => x.add (scale 0 1)) (some ⟨gt, 0, none⟩)) (n2 - 1 - 0) (c2 - 0)) (ints .i64 st.reverse) [(gt, .cells (toArr cur) 3 (0, 0))] := by
      rw [if_neg hc0]
      have hbk := OwnS.block (te := 3) (size := 1) (g := gt) (n := n2 - 1) (cap := c2) (cur := cur) (by omega) hm2 (by omega)
      have e : cur.take ((n2 - 1) * 1) = ints .i64 st.reverse := by
        rw [Nat.mul_one, show cur.take (n2 - 1) = (cur.take n2).take (n2 - 1) by rw [List.take_take]; congr 1; omega, hct, List.reverse_cons, ints_append, List.take_left' (by simp [ints]; omega)]
      rw [e] at hbk
      exact hbk
    replace hL : Ev.Loc m S0 w0 m ((gt, .cells (toArr cur) 3 (0, 0)) :: (kb, mapW (seenW seen)) :: (Lo ++ L)) w := hL
    conv => whnf
    repeat ((first | (refine BrReq.yes (by simp only; omega) ?_) | (refine Idx2Req.mk st.length _ (by simp only; omega) (by simp only; omega) rfl ?_) | (refine LdReq.ownC hX rfl rfl hL .h (by rw [scale_eq, Nat.zero_add, Nat.mul_one]; exact hc') ?_) | (refine SlReq.mk 0 (n2 - 1) rfl (by simp only; omega) (by omega) (by simp only; omega) ?_) | (refine ArReq.i64 (by simp only; omega) (by simp only; omega) ?_) | refine zT ?_ | refine zF ?_ | refine zL hX hL ?_ | refine zB hX hL ?_ | (refine zS hX hL ?_; clear hL; intro w hL) | refine zI ?_ | refine zG hX ?_ | refine zO ?_); conv => whnf)
    refine CallReq.li (L1 := L) hnode (Loc.back (L1 := (gt, .cells (toArr cur) 3 (0, 0)) :: (kb, mapW (seenW seen)) :: Lo) hL) ?_
    clear hL
    intro w hL
    have hL := Loc.back (L1 := L) hL
    conv => whnf
    repeat ((first | refine zT ?_ | refine zF ?_ | refine zL hX hL ?_ | refine zB hX hL ?_ | (refine zS hX hL ?_; clear hL; intro w hL) | refine zI ?_ | refine zG hX ?_ | refine zO ?_); conv => whnf)
    refine NewReq.mk hL ?_
    clear hL
    intro b11 w hL
    conv => whnf
    replace hL : Ev.Loc m S0 w0 m ((b11, .cells (toArr (ndC nd0)) 80 (0, 0)) :: (gt, .cells (toArr cur) 3 (0, 0)) :: (kb, mapW (seenW seen)) :: (Lo ++ L)) w := hL
    conv => whnf
    repeat ((first | refine zT ?_ | refine zF ?_ | refine zL hX hL ?_ | refine zB hX hL ?_ | (refine zS hX hL ?_; clear hL; intro w hL) | refine zI ?_ | refine zG hX ?_ | refine zO ?_); conv => whnf)
    refine RunReq.lookW hX rfl rfl key_int (z := .bool false) (by kernel_rfl) hL (.t (.t .h)) hIK hks (fun hno => ?_) (fun v hv => ?_)
    · have hns := seenW_no hno
      by_cases hk : x.k = kd
      · have hpt := okId_parts hO hidk (by rw [hkx]; omega)
        rw [hx1] at hpt
        simp only at hpt
        rw [memF, if_neg hns, if_pos (by rw [hkx]; exact hk), hx1] at hmem
        conv => whnf
        repeat ((first | refine BrReq.yes hk ?_ | refine zT ?_ | refine zF ?_ | refine zL hX hL ?_ | refine zB hX hL ?_ | (refine zS hX hL ?_; clear hL; intro w hL) | refine zI ?_ | refine zG hX ?_ | refine zO ?_); conv => whnf)
        refine NewReq.mk hL ?_
        clear hL
        intro g2 w hL
        conv => whnf
        replace hL : Ev.Loc m S0 w0 m ((g2, .cells (toArr [.int .i64 x.a, .int .i64 x.b]) 3 (0, 0)) :: (b11, .cells (toArr (ndC x)) 80 (0, 0)) :: (gt, .cells (toArr cur) 3 (0, 0)) :: (kb, mapW (seenW seen)) :: (Lo ++ L)) w := hL
        have hy : OwnS 3 1 (.slice (some ⟨g2, 0, none⟩) 2 2) (ints .i64 [x.a, x.b]) [(g2, .cells (toArr [.int .i64 x.a, .int .i64 x.b]) 3 (0, 0))] := OwnS.full (n := 2) (by omega) rfl
        refine RunReq.cat hX 108 3 rfl rfl rfl rfl rfl ht2 hy (L2 := (b11, .cells (toArr (ndC x)) 80 (0, 0)) :: (kb, mapW (seenW seen)) :: (Lo ++ L)) (hL.perm (List.Perm.cons _ (List.Perm.swap _ _ _))) (by simp [ints]; exact ⟨rfl, rfl⟩) (by simp [ints]; omega) rfl ?_
        clear hL
        intro A3 n3 c3 L3 w hn3 ho3 hL
        rw [← ints_append] at ho3
        conv => whnf
        repeat ((first | refine zT ?_ | refine zF ?_ | refine zL hX hL ?_ | refine zB hX hL ?_ | (refine zS hX hL ?_; clear hL; intro w hL) | refine zI ?_ | refine zG hX ?_ | refine zO ?_); conv => whnf)
        refine RunUReq.updW hX rfl rfl key_int (k := .int .i64 id) (v := .bool true) 1 (hL.perm (List.perm_append_comm)) rfl hIK hks (fun _ w hL => ?_) (fun q u hq w hL => ?_)
        · have hL := Loc.back (L1 := (b11, .cells (toArr (ndC x)) 80 (0, 0)) :: (kb, mapW (seenW seen ++ [(.int .i64 id, .bool true)])) :: (Lo ++ L)) (L2 := L3) hL
          replace hL : Ev.Loc m S0 w0 m (L3 ++ ((b11, .cells (toArr (ndC x)) 80 (0, 0)) :: (kb, mapW (seenW (seen ++ [id]))) :: (Lo ++ L))) w := by
            rw [show seenW (seen ++ [id]) = seenW seen ++ [(.int .i64 id, .bool true)] from List.map_append ..]; exact hL
          conv => whnf
          repeat ((first | refine zT ?_ | refine zF ?_ | refine zL hX hL ?_ | refine zB hX hL ?_ | (refine zS hX hL ?_; clear hL; intro w hL) | refine zI ?_ | refine zG hX ?_ | refine zO ?_); conv => whnf)
          refine ⟨(k, (A1, n1, c1), (A3, n3, c3)), ⟨x.b :: x.a :: st, out, seen ++ [id], Lo, L3, ⟨hmem, fun z hz => (List.mem_cons.1 hz).elim (fun h => h ▸ hpt.2) fun h => (List.mem_cons.1 h).elim (fun h => h ▸ hpt.1) fun h => hst z (List.mem_cons_of_mem _ h), fun z hz => (List.mem_append.1 hz).elim (hseen z) fun h => (List.mem_singleton.1 h) ▸ hidk, by simp only [List.length_cons]; omega, by simp only; omega⟩, ho, by rw [List.reverse_cons, List.reverse_cons, List.append_assoc]; exact ho3, hL.sublist (List.Sublist.append_left (List.sublist_cons_self _ _) _)⟩, by first | omega | (simp only; omega) | (simp only [List.length_cons, List.length_append]; omega), ?_, ?_⟩
          · repeat (first | exact trivial | (refine And.intro (by (conv => lhs; whnf) <;> (conv => rhs; whnf) <;> (first | rfl | (rfl))) ?_))
          · repeat (first | exact trivial | (refine And.intro (by (conv => lhs; whnf) <;> (conv => rhs; whnf) <;> (first | rfl | (rfl))) ?_))
        · exact absurd (List.mem_of_getElem? hq) (fun h => hns (seenW_mem h).1)
      · rw [memF, if_neg hns, if_neg (by rw [hkx]; exact hk)] at hmem
        conv => whnf
        repeat ((first | refine BrReq.no hk ?_ | refine zT ?_ | refine zF ?_ | refine zL hX hL ?_ | refine zB hX hL ?_ | (refine zS hX hL ?_; clear hL; intro w hL) | refine zI ?_ | refine zG hX ?_ | refine zO ?_); conv => whnf)
        refine NewReq.mk hL ?_
        clear hL
        intro g2 w hL
        conv => whnf
        replace hL : Ev.Loc m S0 w0 m ((g2, .cells (toArr [.int .i64 id]) 3 (0, 0)) :: (b11, .cells (toArr (ndC x)) 80 (0, 0)) :: (gt, .cells (toArr cur) 3 (0, 0)) :: (kb, mapW (seenW seen)) :: (Lo ++ L)) w := hL
        conv => whnf
        repeat ((first | refine zT ?_ | refine zF ?_ | refine zL hX hL ?_ | refine zB hX hL ?_ | (refine zS hX hL ?_; clear hL; intro w hL) | refine zI ?_ | refine zG hX ?_ | refine zO ?_); conv => whnf)
        refine RunReq.push hX 108 3 rfl rfl rfl rfl rfl ho (L2 := L ++ [_, _, _]) (by rw [← List.append_assoc]; exact hL.perm (List.Perm.cons _ (List.perm_append_comm (l₁ := [_, _, _]) (l₂ := Lo ++ L)))) rfl rfl (by simp [ints]; omega) rfl ?_
        clear hL
        intro A3 n3 c3 L3 w hn3 ho3 hL
        rw [← List.append_assoc] at hL
        have hL := Loc.back (L1 := L3 ++ L) (L2 := [_, _, _]) hL
        replace hL : Ev.Loc m S0 w0 m ((b11, .cells (toArr (ndC x)) 80 (0, 0)) :: (gt, .cells (toArr cur) 3 (0, 0)) :: (kb, mapW (seenW seen)) :: (L3 ++ L)) w := hL
        rw [← show ints .i64 (out ++ [id]) = ints .i64 out ++ [Value.int .i64 id] from ints_append ..] at ho3
        conv => whnf
        repeat ((first | refine zT ?_ | refine zF ?_ | refine zL hX hL ?_ | refine zB hX hL ?_ | (refine zS hX hL ?_; clear hL; intro w hL) | refine zI ?_ | refine zG hX ?_ | refine zO ?_); conv => whnf)
        refine RunUReq.updW hX rfl rfl key_int (k := .int .i64 id) (v := .bool true) 2 hL rfl hIK hks (fun _ w hL => ?_) (fun q u hq w hL => ?_)
        · replace hL : Ev.Loc m S0 w0 m ((b11, .cells (toArr (ndC x)) 80 (0, 0)) :: (gt, .cells (toArr cur) 3 (0, 0)) :: (kb, mapW (seenW (seen ++ [id]))) :: (L3 ++ L)) w := by
            rw [show seenW (seen ++ [id]) = seenW seen ++ [(.int .i64 id, .bool true)] from List.map_append ..]; exact hL
          conv => whnf
          repeat ((first | refine zT ?_ | refine zF ?_ | refine zL hX hL ?_ | refine zB hX hL ?_ | (refine zS hX hL ?_; clear hL; intro w hL) | refine zI ?_ | refine zG hX ?_ | refine zO ?_); conv => whnf)
          refine ⟨(k, (A3, n3, c3), (some ⟨gt, 0, none⟩, n2 - 1, c2)), ⟨st, out ++ [id], seen ++ [id], L3, [_], ⟨hmem, fun z hz => hst z (List.mem_cons_of_mem _ hz), fun z hz => (List.mem_append.1 hz).elim (hseen z) fun h => (List.mem_singleton.1 h) ▸ hidk, by simp only; omega, by simp only [List.length_append, List.length_singleton]; omega⟩, ho3, by rw [if_neg hc0] at ht2; exact ht2, hL.drop⟩, by first | omega | (simp only; omega) | (simp only [List.length_cons, List.length_append]; omega), ?_, ?_⟩
          · repeat (first | exact trivial | (refine And.intro (by (conv => lhs; whnf) <;> (conv => rhs; whnf) <;> (first | rfl | (rw [if_neg hc0]; rfl))) ?_))
          · repeat (first | exact trivial | (refine And.intro (by (conv => lhs; whnf) <;> (conv => rhs; whnf) <;> (first | rfl | (rw [if_neg hc0]; rfl))) ?_))
        · exact absurd (List.mem_of_getElem? hq) (fun h => hns (seenW_mem h).1)
    · have hm := (seenW_mem hv)
      obtain ⟨hm, rfl⟩ := hm
      rw [memF, if_pos hm] at hmem
      conv => whnf
      repeat ((first | refine zT ?_ | refine zF ?_ | refine zL hX hL ?_ | refine zB hX hL ?_ | (refine zS hX hL ?_; clear hL; intro w hL) | refine zI ?_ | refine zG hX ?_ | refine zO ?_); conv => whnf)
      refine RunUReq.updW hX rfl rfl key_int (k := .int .i64 id) (v := .bool true) 2 hL rfl hIK hks (fun hno _ _ => absurd hm (seenW_no hno)) (fun q u hq w hL => ?_)
      rw [seenW_set hq] at hL
      replace hL : Ev.Loc m S0 w0 m ((b11, .cells (toArr (ndC x)) 80 (0, 0)) :: (gt, .cells (toArr cur) 3 (0, 0)) :: (kb, mapW (seenW seen)) :: (Lo ++ L)) w := hL
      conv => whnf
      repeat ((first | refine zT ?_ | refine zF ?_ | refine zL hX hL ?_ | refine zB hX hL ?_ | (refine zS hX hL ?_; clear hL; intro w hL) | refine zI ?_ | refine zG hX ?_ | refine zO ?_); conv => whnf)
      refine ⟨(k, (A1, n1, c1), (some ⟨gt, 0, none⟩, n2 - 1, c2)), ⟨st, out, seen, Lo, [_], ⟨hmem, fun z hz => hst z (List.mem_cons_of_mem _ hz), hseen, by simp only; omega, by simp only; omega⟩, ho, by rw [if_neg hc0] at ht2; exact ht2, hL.drop⟩, by first | omega | (simp only; omega) | (simp only [List.length_cons, List.length_append]; omega), ?_, ?_⟩
      · repeat (first | exact trivial | (refine And.intro (by (conv => lhs; whnf) <;> (conv => rhs; whnf) <;> (first | rfl | (rw [if_neg hc0]; rfl))) ?_))
      · repeat (first | exact trivial | (refine And.intro (by (conv => lhs; whnf) <;> (conv => rhs; whnf) <;> (first | rfl | (rw [if_neg hc0]; rfl))) ?_))
end Go.Proofs.YtiololnblplloaaGreat.ar
namespace Go.Proofs.YtiololnblplloaaGreat.ar
open Go Go.Ev Go.Proofs
theorem ofInt_nat {n : Nat} (a : Nat) : BitVec.ofInt n (a : Int) = BitVec.ofNat n a := by
  apply BitVec.eq_of_toNat_eq
  rw [BitVec.toNat_ofInt, BitVec.toNat_ofNat]
  omega
structure S4 where
  x0 : Int
  x1 : Int
  x2 : Int
  x3 : Int
  deriving DecidableEq
def S4.get (s : S4) (q : Nat) : Int := if q = 0 then s.x0 else if q = 1 then s.x1 else if q = 2 then s.x2 else s.x3
structure InS (s : S4) : Prop where
  h0 : u64 s.x0
  h1 : u64 s.x1
  h2 : u64 s.x2
  h3 : u64 s.x3
def stC (s : S4) : List Value := [.int .u64 s.x0, .int .u64 s.x1, .int .u64 s.x2, .int .u64 s.x3]
def z4 : S4 := ⟨0, 0, 0, 0⟩
def orI (a b : Int) : Int := ((a.toNat ||| b.toNat : Nat) : Int)
def andI (a b : Int) : Int := ((a.toNat &&& b.toNat : Nat) : Int)
def un4 (s t : S4) : S4 := ⟨orI s.x0 t.x0, orI s.x1 t.x1, orI s.x2 t.x2, orI s.x3 t.x3⟩
def in4 (s t : S4) : S4 := ⟨andI s.x0 t.x0, andI s.x1 t.x1, andI s.x2 t.x2, andI s.x3 t.x3⟩
theorem inS_get {s : S4} (h : InS s) (q : Nat) : u64 (s.get q) := by
  unfold S4.get
  split
  · exact h.h0
  split
  · exact h.h1
  split
  · exact h.h2
  · exact h.h3
theorem stC_get (s : S4) {q : Nat} (h : q < 4) : (stC s)[q]? = some (.int .u64 (s.get q)) := by
  have : q = 0 ∨ q = 1 ∨ q = 2 ∨ q = 3 := by omega
  rcases this with rfl | rfl | rfl | rfl <;> rfl
def upd4 (s : S4) (q : Nat) (x : Int) : S4 := if q = 0 then { s with x0 := x } else if q = 1 then { s with x1 := x } else if q = 2 then { s with x2 := x } else { s with x3 := x }
theorem stC_set (s : S4) {q : Nat} (h : q < 4) (x : Int) : spliceL (stC s) q [.int .u64 x] = stC (upd4 s q x) := by
  have : q = 0 ∨ q = 1 ∨ q = 2 ∨ q = 3 := by omega
  rcases this with rfl | rfl | rfl | rfl <;> rfl
theorem u64_or {a b : Int} (ha : u64 a) (hb : u64 b) : u64 (orI a b) := by
  unfold u64 orI at *
  have := Nat.or_lt_two_pow (n := 64) (x := a.toNat) (y := b.toNat) (by omega) (by omega)
  omega
theorem u64_and {a b : Int} (ha : u64 a) (hb : u64 b) : u64 (andI a b) := by
  unfold u64 andI at *
  have : a.toNat &&& b.toNat ≤ a.toNat := Nat.and_le_left
  omega
theorem inS_un {s t : S4} (h : InS s) (k : InS t) : InS (un4 s t) := ⟨u64_or h.h0 k.h0, u64_or h.h1 k.h1, u64_or h.h2 k.h2, u64_or h.h3 k.h3⟩
theorem inS_in {s t : S4} (h : InS s) (k : InS t) : InS (in4 s t) := ⟨u64_and h.h0 k.h0, u64_and h.h1 k.h1, u64_and h.h2 k.h2, u64_and h.h3 k.h3⟩
theorem or_u64 {a b : Int} (ha : u64 a) (hb : u64 b) : bitsOf .or .u64 a b = orI a b := by
  have hr := u64_or ha hb
  unfold u64 at ha hb hr
  obtain ⟨a, rfl⟩ : ∃ n : Nat, a = n := ⟨a.toNat, by omega⟩
  obtain ⟨b, rfl⟩ : ∃ n : Nat, b = n := ⟨b.toNat, by omega⟩
  have h : (BitVec.ofInt 64 (a : Int) ||| BitVec.ofInt 64 (b : Int)).toNat = a ||| b := by
    rw [ofInt_nat, ofInt_nat, BitVec.toNat_or, BitVec.toNat_ofNat, BitVec.toNat_ofNat, Nat.mod_eq_of_lt (by omega), Nat.mod_eq_of_lt (by omega)]
  show IntKind.wrap .u64 ((BitVec.ofInt 64 (a : Int) ||| BitVec.ofInt 64 (b : Int)).toNat : Int) = _
  rw [h]
  unfold orI at hr ⊢
  simp only [Int.toNat_natCast] at hr ⊢
  exact wrap_keep _ (by show (0 : Int) ≤ _; omega) (by show _ ≤ (18446744073709551615 : Int); omega)
theorem and_u64 {a b : Int} (ha : u64 a) (hb : u64 b) : bitsOf .and .u64 a b = andI a b := by
  have hr := u64_and ha hb
  unfold u64 at ha hb hr
  obtain ⟨a, rfl⟩ : ∃ n : Nat, a = n := ⟨a.toNat, by omega⟩
  obtain ⟨b, rfl⟩ : ∃ n : Nat, b = n := ⟨b.toNat, by omega⟩
  have h : (BitVec.ofInt 64 (a : Int) &&& BitVec.ofInt 64 (b : Int)).toNat = a &&& b := by
    rw [ofInt_nat, ofInt_nat, BitVec.toNat_and, BitVec.toNat_ofNat, BitVec.toNat_ofNat, Nat.mod_eq_of_lt (by omega), Nat.mod_eq_of_lt (by omega)]
  show IntKind.wrap .u64 ((BitVec.ofInt 64 (a : Int) &&& BitVec.ofInt 64 (b : Int)).toNat : Int) = _
  rw [h]
  unfold andI at hr ⊢
  simp only [Int.toNat_natCast] at hr ⊢
  exact wrap_keep _ (by show (0 : Int) ≤ _; omega) (by show _ ≤ (18446744073709551615 : Int); omega)
def upto (j : Nat) (r s : S4) : S4 := ⟨if 0 < j then r.x0 else s.x0, if 1 < j then r.x1 else s.x1, if 2 < j then r.x2 else s.x2, if 3 < j then r.x3 else s.x3⟩
theorem upto_get {j : Nat} (h : j < 4) (r s : S4) : (upto j r s).get j = s.get j := by
  have : j = 0 ∨ j = 1 ∨ j = 2 ∨ j = 3 := by omega
  rcases this with rfl | rfl | rfl | rfl <;> rfl
theorem upto_succ {j : Nat} (h : j < 4) (r s : S4) : upd4 (upto j r s) j (r.get j) = upto (j + 1) r s := by
  have : j = 0 ∨ j = 1 ∨ j = 2 ∨ j = 3 := by omega
  rcases this with rfl | rfl | rfl | rfl <;> rfl
theorem get_un (s t : S4) (j : Nat) : (un4 s t).get j = orI (s.get j) (t.get j) := by
  unfold S4.get un4; split; rfl; split; rfl; split <;> rfl
theorem get_in (s t : S4) (j : Nat) : (in4 s t).get j = andI (s.get j) (t.get j) := by
  unfold S4.get in4; split; rfl; split; rfl; split <;> rfl
theorem QLdReq.ownAt' {P : Program} {X : Tab} {m0 m : Mem} {S : List Nat} {w0 : World} (hX : TabsOk P X) {t : Nat} {ti : TI} {L : Ev.Own} (ht : Ev.look X.T t = some (some ti)) (hd : ti.d.isAgg = false) (i : Nat) {b o j : Nat} {cs : List Value} {te : TypeId} {fz : Nat × Nat} {v : Value} {K : Value → Prop}
    (hi : Ev.look L i = some (b, .cells (toArr cs) te fz)) (hv : cs[o + j]? = some v) (h : K v) : QLdReq P t (fun w => Ev.Loc m0 S w0 m L w) ((⟨b, o, none⟩ : Addr).add j) K := by
  rw [addr_add]
  exact QLdReq.own1 hX ht hd i hi (by rw [look_eq]; exact hv) h
theorem Union_fn (m : Mem) (s t : S4) (hs : InS s) (ht : InS t) : FnV Tryz.prog 118 [.agg (toArr (stC s)), .agg (toArr (stC t))] m (.agg (toArr (stC (un4 s t)))) := by
  refine Fn.enter (N := 19) hX Tryz.func118 rfl rfl (by show _ ≤ _; simp) (fun w0 hL => ?_)
  conv => whnf
  refine NewReq.mk hL ?_
  clear hL
  intro b2 w hL
  conv => whnf
  refine NewReq.mk hL ?_
  clear hL
  intro b3 w hL
  conv => whnf
  refine NewReq.mk hL ?_
  clear hL
  intro b4 w hL
  conv => whnf
  replace hL : Ev.Loc m [] w0 m [(b4, .cells (toArr (stC z4)) 28 (0, 0)), (b3, .cells (toArr (stC t)) 28 (0, 0)), (b2, .cells (toArr (stC s)) 28 (0, 0))] w := hL
  conv => whnf
  repeat ((first | refine zT ?_ | refine zF ?_ | refine zL hX hL ?_ | refine zB hX hL ?_ | (refine zS hX hL ?_; clear hL; intro w hL) | refine zI ?_ | refine zG hX ?_ | refine zO ?_); conv => whnf)
  refine LoopReq.inv hX (fun j : Nat => [(6, .int .i64 j)]) [2, 3, 4]
    (fun j w => j ≤ 4 ∧ Ev.Loc m [] w0 m [(b4, .cells (toArr (stC z4)) 28 (0, 0)), (b3, .cells (toArr (stC t)) 28 (0, 0)), (b2, .cells (toArr (stC (upto j (un4 s t) s))) 28 (0, 0))] w) (fun j => 4 - j) 0
    ⟨by omega, hL⟩ ⟨rfl, trivial⟩ ?_
  clear hL
  rintro j w e ⟨hj, hL⟩
  conv => whnf
  repeat ((first | refine zT ?_ | refine zF ?_ | refine zL hX hL ?_ | refine zB hX hL ?_ | (refine zS hX hL ?_; clear hL; intro w hL) | refine zI ?_ | refine zG hX ?_ | refine zO ?_); conv => whnf)
  refine BrReq.dec (fun hlt => ?_) (fun hlt => ?_)
  · have hj4 : j < 4 := by omega
    have h1 : (stC (upto j (un4 s t) s))[j]? = some (.int .u64 (s.get j)) := by rw [stC_get _ hj4, upto_get hj4]
    have h2 : (stC t)[j]? = some (.int .u64 (t.get j)) := stC_get _ hj4
    conv => whnf
    repeat ((first | refine zT ?_ | refine zF ?_ | refine zL hX hL ?_ | refine zB hX hL ?_ | (refine zS hX hL ?_; clear hL; intro w hL) | refine zI ?_ | refine zG hX ?_ | refine zO ?_); conv => whnf)
    refine DrawReq.plan hX (.fst 0 (.fst 1 (.fst 3 (.fst 4 (.fst 5 (.alt 2 (.fst 6 (.fst 7 (.alt 8 (.done) (.stop)))) (.stop))))))) [(b3, .cells (toArr (stC t)) 28 (0, 0))] (by kernel_rfl) (by kernel_rfl) hL (fun h => h.one 1 rfl) ?_
    clear hL
    intro w hL
    conv => whnf
    repeat ((first | refine IdxReq.mk j rfl (by omega) ?_ | (refine LdReq.ownAt hX rfl rfl 2 hL rfl (v := .int .u64 (s.get j)) (by rw [scale_eq, Nat.zero_add, Nat.mul_one]; exact h1) ?_) | (refine QLdReq.ownAt' hX rfl rfl 0 rfl (v := .int .u64 (t.get j)) (by rw [scale_eq, Nat.zero_add, Nat.mul_one]; exact h2) ?_) | refine SReq.mk (hL.one 1 rfl) ?_ | refine BitReq.mk (or_u64 (inS_get hs _) (inS_get ht _)) ?_ | refine zQ hX ?_ | refine zR hX ?_ | refine zA ?_ | refine zT ?_ | refine zF ?_ | refine zL hX hL ?_ | refine zB hX hL ?_ | (refine zS hX hL ?_; clear hL; intro w hL) | refine zI ?_ | refine zG hX ?_ | refine zO ?_); conv => whnf)
    refine StReq.ownAt hX rfl 2 hL rfl rfl (by rw [scale_eq, Nat.zero_add, Nat.mul_one]; show j + 1 ≤ 4; omega) rfl ?_; clear hL; intro w hL
    replace hL : Ev.Loc m [] w0 m [(b4, .cells (toArr (stC z4)) 28 (0, 0)), (b3, .cells (toArr (stC t)) 28 (0, 0)), (b2, .cells (toArr (spliceL (stC (upto j (un4 s t) s)) (0 + scale j 1) [.int .u64 (orI (s.get j) (t.get j))])) 28 (0, 0))] w := hL
    rw [scale_eq, Nat.zero_add, Nat.mul_one, stC_set _ hj4, ← get_un, upto_succ hj4] at hL
    conv => whnf
    repeat ((first | refine SReq.mk (hL.one 1 rfl) ?_ | refine zQ hX ?_ | refine zR hX ?_ | refine zA ?_ | refine zT ?_ | refine zF ?_ | refine zL hX hL ?_ | refine zB hX hL ?_ | (refine zS hX hL ?_; clear hL; intro w hL) | refine zI ?_ | refine zG hX ?_ | refine zO ?_); conv => whnf)
    refine ⟨j + 1, ⟨by omega, hL⟩, by first | omega | (simp only; omega) | (simp only [List.length_cons, List.length_append]; omega), ?_, ?_⟩
    · repeat (first | exact trivial | (refine And.intro (by (conv => lhs; whnf) <;> (conv => rhs; whnf) <;> (first | rfl)) ?_))
    · repeat (first | exact trivial | (refine And.intro (by (conv => lhs; whnf) <;> (conv => rhs; whnf) <;> (first | rfl)) ?_))
  · obtain rfl : j = 4 := by omega
    conv => whnf
    repeat ((first | refine zT ?_ | refine zF ?_ | refine zL hX hL ?_ | refine zB hX hL ?_ | (refine zS hX hL ?_; clear hL; intro w hL) | refine zI ?_ | refine zG hX ?_ | refine zO ?_); conv => whnf)
    exact RetReq.mk (hL.sublist (List.nil_sublist _)) ⟨rfl, rfl⟩
theorem Inter_fn (m : Mem) (s t : S4) (hs : InS s) (ht : InS t) : FnV Tryz.prog 120 [.agg (toArr (stC s)), .agg (toArr (stC t))] m (.agg (toArr (stC (in4 s t)))) := by
  refine Fn.enter (N := 19) hX Tryz.func120 rfl rfl (by show _ ≤ _; simp) (fun w0 hL => ?_)
  conv => whnf
  refine NewReq.mk hL ?_
  clear hL
  intro b2 w hL
  conv => whnf
  refine NewReq.mk hL ?_
  clear hL
  intro b3 w hL
  conv => whnf
  refine NewReq.mk hL ?_
  clear hL
  intro b4 w hL
  conv => whnf
  replace hL : Ev.Loc m [] w0 m [(b4, .cells (toArr (stC z4)) 28 (0, 0)), (b3, .cells (toArr (stC t)) 28 (0, 0)), (b2, .cells (toArr (stC s)) 28 (0, 0))] w := hL
  conv => whnf
  repeat ((first | refine zT ?_ | refine zF ?_ | refine zL hX hL ?_ | refine zB hX hL ?_ | (refine zS hX hL ?_; clear hL; intro w hL) | refine zI ?_ | refine zG hX ?_ | refine zO ?_); conv => whnf)
  refine LoopReq.inv hX (fun j : Nat => [(6, .int .i64 j)]) [2, 3, 4]
    (fun j w => j ≤ 4 ∧ Ev.Loc m [] w0 m [(b4, .cells (toArr (stC z4)) 28 (0, 0)), (b3, .cells (toArr (stC t)) 28 (0, 0)), (b2, .cells (toArr (stC (upto j (in4 s t) s))) 28 (0, 0))] w) (fun j => 4 - j) 0
    ⟨by omega, hL⟩ ⟨rfl, trivial⟩ ?_
  clear hL
  rintro j w e ⟨hj, hL⟩
  conv => whnf
  repeat ((first | refine zT ?_ | refine zF ?_ | refine zL hX hL ?_ | refine zB hX hL ?_ | (refine zS hX hL ?_; clear hL; intro w hL) | refine zI ?_ | refine zG hX ?_ | refine zO ?_); conv => whnf)
  refine BrReq.dec (fun hlt => ?_) (fun hlt => ?_)
  · have hj4 : j < 4 := by omega
    have h1 : (stC (upto j (in4 s t) s))[j]? = some (.int .u64 (s.get j)) := by rw [stC_get _ hj4, upto_get hj4]
    have h2 : (stC t)[j]? = some (.int .u64 (t.get j)) := stC_get _ hj4
    conv => whnf
    repeat ((first | refine zT ?_ | refine zF ?_ | refine zL hX hL ?_ | refine zB hX hL ?_ | (refine zS hX hL ?_; clear hL; intro w hL) | refine zI ?_ | refine zG hX ?_ | refine zO ?_); conv => whnf)
    refine DrawReq.plan hX (.fst 0 (.fst 1 (.fst 3 (.fst 4 (.fst 5 (.alt 2 (.fst 6 (.fst 7 (.alt 8 (.done) (.stop)))) (.stop))))))) [(b3, .cells (toArr (stC t)) 28 (0, 0))] (by kernel_rfl) (by kernel_rfl) hL (fun h => h.one 1 rfl) ?_
    clear hL
    intro w hL
    conv => whnf
    repeat ((first | refine IdxReq.mk j rfl (by omega) ?_ | (refine LdReq.ownAt hX rfl rfl 2 hL rfl (v := .int .u64 (s.get j)) (by rw [scale_eq, Nat.zero_add, Nat.mul_one]; exact h1) ?_) | (refine QLdReq.ownAt' hX rfl rfl 0 rfl (v := .int .u64 (t.get j)) (by rw [scale_eq, Nat.zero_add, Nat.mul_one]; exact h2) ?_) | refine SReq.mk (hL.one 1 rfl) ?_ | refine BitReq.mk (and_u64 (inS_get hs _) (inS_get ht _)) ?_ | refine zQ hX ?_ | refine zR hX ?_ | refine zA ?_ | refine zT ?_ | refine zF ?_ | refine zL hX hL ?_ | refine zB hX hL ?_ | (refine zS hX hL ?_; clear hL; intro w hL) | refine zI ?_ | refine zG hX ?_ | refine zO ?_); conv => whnf)
    refine StReq.ownAt hX rfl 2 hL rfl rfl (by rw [scale_eq, Nat.zero_add, Nat.mul_one]; show j + 1 ≤ 4; omega) rfl ?_; clear hL; intro w hL
    replace hL : Ev.Loc m [] w0 m [(b4, .cells (toArr (stC z4)) 28 (0, 0)), (b3, .cells (toArr (stC t)) 28 (0, 0)), (b2, .cells (toArr (spliceL (stC (upto j (in4 s t) s)) (0 + scale j 1) [.int .u64 (andI (s.get j) (t.get j))])) 28 (0, 0))] w := hL
    rw [scale_eq, Nat.zero_add, Nat.mul_one, stC_set _ hj4, ← get_in, upto_succ hj4] at hL
    conv => whnf
    repeat ((first | refine SReq.mk (hL.one 1 rfl) ?_ | refine zQ hX ?_ | refine zR hX ?_ | refine zA ?_ | refine zT ?_ | refine zF ?_ | refine zL hX hL ?_ | refine zB hX hL ?_ | (refine zS hX hL ?_; clear hL; intro w hL) | refine zI ?_ | refine zG hX ?_ | refine zO ?_); conv => whnf)
    refine ⟨j + 1, ⟨by omega, hL⟩, by first | omega | (simp only; omega) | (simp only [List.length_cons, List.length_append]; omega), ?_, ?_⟩
    · repeat (first | exact trivial | (refine And.intro (by (conv => lhs; whnf) <;> (conv => rhs; whnf) <;> (first | rfl)) ?_))
    · repeat (first | exact trivial | (refine And.intro (by (conv => lhs; whnf) <;> (conv => rhs; whnf) <;> (first | rfl)) ?_))
  · obtain rfl : j = 4 := by omega
    conv => whnf
    repeat ((first | refine zT ?_ | refine zF ?_ | refine zL hX hL ?_ | refine zB hX hL ?_ | (refine zS hX hL ?_; clear hL; intro w hL) | refine zI ?_ | refine zG hX ?_ | refine zO ?_); conv => whnf)
    exact RetReq.mk (hL.sublist (List.nil_sublist _)) ⟨rfl, rfl⟩
end Go.Proofs.YtiololnblplloaaGreat.ar
namespace Go.Proofs.YtiololnblplloaaGreat.ar
open Go Go.Ev Go.Proofs
def pN (ns : List Nd) (x : Nd) : List Nd × Int := ((putN ns x).1, putI ns x)
def setOf (x : Nd) : S4 := ⟨x.s0, x.s1, x.s2, x.s3⟩
def ndB (s : S4) : Nd := ⟨2, s.x0, s.x1, s.x2, s.x3, 0, 0, false⟩
def noneN (ns : List Nd) : List Nd × Int := pN ns (ndK 0)
def emptyN (ns : List Nd) : List Nd × Int := pN ns (ndK 1)
def allN (ns : List Nd) : List Nd × Int := pN (noneN ns).1 (allX ns)
def bytesN (ns : List Nd) (s : S4) : List Nd × Int := if s = z4 then noneN ns else pN ns (ndB s)
theorem inS_of {x : Nd} (h : InN x) : InS (setOf x) := ⟨h.s0, h.s1, h.s2, h.s3⟩
theorem inN_B {s : S4} (h : InS s) : InN (ndB s) := ⟨by unfold i64 ndB; simp, h.h0, h.h1, h.h2, h.h3, by simp [i64, ndB], by simp [i64, ndB]⟩
theorem eq_st (s t : S4) : eqB X 9 28 (stC s) (stC t) = some (decide (s = t)) := by
  obtain ⟨s0, s1, s2, s3⟩ := s
  obtain ⟨t0, t1, t2, t3⟩ := t
  conv => lhs; whnf
  refine congrArg some ?_
  rw [Bool.eq_iff_iff]
  simp only [Bool.and_eq_true, decide_eq_true_eq, Bool.and_true, beq_iff_eq, S4.mk.injEq]
theorem okA_p {ns : List Nd} (h : OkA ns) {x : Nd} (hx : InN x) : OkA (pN ns x).1 := okA_put h hx
theorem okA_none {ns : List Nd} (h : OkA ns) : OkA (noneN ns).1 := okA_put h (inN_k (by omega))
theorem okA_empty {ns : List Nd} (h : OkA ns) : OkA (emptyN ns).1 := okA_put h (inN_k (by omega))
theorem inN_all {ns : List Nd} (h : OkA ns) : InN (allX ns) := inN_a (by omega) (putI_i64 ns _ h.len)
theorem okA_all {ns : List Nd} (h : OkA ns) : OkA (allN ns).1 := okA_put (okA_none h) (inN_all h)
theorem okA_bytes {ns : List Nd} (h : OkA ns) {s : S4} (hs : InS s) : OkA (bytesN ns s).1 := by
  unfold bytesN
  split
  · exact okA_none h
  · exact okA_p h (inN_B hs)
theorem Bytes_fn (m : Mem) (ab : Nat) (ns : List Nd) (L : Own) (hA : Ar ab ns L) (hO : OkA ns) (s : S4) (hs : InS s) :
    Ev.Fn Tryz.prog 78 [.pointer (some ⟨ab, 0, none⟩), .agg (toArr (stC s))] m L (PutQ ab (bytesN ns s).1 (bytesN ns s).2 m) := by
  refine Fn.enter (N := 14) hX Tryz.func78 rfl rfl (by show _ ≤ _; simp) (fun w0 hL => ?_)
  conv => whnf
  generalize keys L = S0 at hL ⊢
  refine NewReq.mk hL ?_
  clear hL
  intro b3 w hL
  conv => whnf
  replace hL : Ev.Loc m S0 w0 m ((b3, .cells (toArr (stC s)) 28 (0, 0)) :: L) w := hL
  conv => whnf
  repeat ((first | refine UGenReq.eqA hX (xs := stC s) (ys := stC z4) rfl rfl rfl Tryz.eqGuardType28 rfl rfl (eq_st _ _) ?_ | refine zT ?_ | refine zF ?_ | refine zL hX hL ?_ | refine zB hX hL ?_ | (refine zS hX hL ?_; clear hL; intro w hL) | refine zI ?_ | refine zG hX ?_ | refine zO ?_); conv => whnf)
  unfold bytesN
  by_cases hz : s = z4
  · rw [decide_eq_true hz, if_pos hz]
    conv => whnf
    repeat ((first | refine zT ?_ | refine zF ?_ | refine zL hX hL ?_ | refine zB hX hL ?_ | (refine zS hX hL ?_; clear hL; intro w hL) | refine zI ?_ | refine zG hX ?_ | refine zO ?_); conv => whnf)
    refine CallReq.mk (L1 := L) (L2 := [_]) (None_fn m ab ns L hA hO) (hL.back (L1 := [_])) ?_
    clear hL
    rintro u mx L2 w hL - ⟨hmx, rfl, hA2⟩
    rw [hmx] at hL
    clear hmx mx
    have hL := hL.back (L2 := [_])
    conv => whnf
    repeat ((first | refine zT ?_ | refine zF ?_ | refine zL hX hL ?_ | refine zB hX hL ?_ | (refine zS hX hL ?_; clear hL; intro w hL) | refine zI ?_ | refine zG hX ?_ | refine zO ?_); conv => whnf)
    exact RetReq.mk hL.drop ⟨rfl, rfl, hA2⟩
  · rw [decide_eq_false hz, if_neg hz]
    conv => whnf
    repeat ((first | refine zT ?_ | refine zF ?_ | refine zL hX hL ?_ | refine zB hX hL ?_ | (refine zS hX hL ?_; clear hL; intro w hL) | refine zI ?_ | refine zG hX ?_ | refine zO ?_); conv => whnf)
    refine CallReq.mk (L1 := L) (L2 := [_]) (put_fn m ab ns L hA hO (ndB s) (inN_B hs)) (hL.back (L1 := [_])) ?_
    clear hL
    rintro u mx L2 w hL - ⟨hmx, rfl, hA2⟩
    rw [hmx] at hL
    clear hmx mx
    have hL := hL.back (L2 := [_])
    conv => whnf
    repeat ((first | refine zT ?_ | refine zF ?_ | refine zL hX hL ?_ | refine zB hX hL ?_ | (refine zS hX hL ?_; clear hL; intro w hL) | refine zI ?_ | refine zG hX ?_ | refine zO ?_); conv => whnf)
    exact RetReq.mk hL.drop ⟨rfl, rfl, hA2⟩
theorem kind_fn (m : Mem) (ab : Nat) (ns : List Nd) (L : Own) (hA : Ar ab ns L) (id : Int) :
    FnL Tryz.prog 116 [.pointer (some ⟨ab, 0, none⟩), .int .i64 id] m L (.int .i64 (kindN ns id)) := by
  have hnode := Node_fn m ab ns L hA id
  unfold kindN
  generalize (nodeN ns id).1 = x at hnode ⊢
  generalize (nodeN ns id).2 = ok at hnode ⊢
  refine Fn.enter (N := 15) hX Tryz.func116 rfl rfl (by show _ ≤ _; simp) (fun w0 hL => ?_)
  conv => whnf
  generalize keys L = S0 at hL ⊢
  conv => whnf
  repeat ((first | refine zT ?_ | refine zF ?_ | refine zL hX hL ?_ | refine zB hX hL ?_ | (refine zS hX hL ?_; clear hL; intro w hL) | refine zI ?_ | refine zG hX ?_ | refine zO ?_); conv => whnf)
  refine CallReq.lo hnode hL ?_
  clear hL
  intro w hL
  conv => whnf
  repeat ((first | refine zT ?_ | refine zF ?_ | refine zL hX hL ?_ | refine zB hX hL ?_ | (refine zS hX hL ?_; clear hL; intro w hL) | refine zI ?_ | refine zG hX ?_ | refine zO ?_); conv => whnf)
  refine NewReq.mk hL ?_
  clear hL
  intro b w hL
  conv => whnf
  conv => whnf
  repeat ((first | refine zT ?_ | refine zF ?_ | refine zL hX hL ?_ | refine zB hX hL ?_ | (refine zS hX hL ?_; clear hL; intro w hL) | refine zI ?_ | refine zG hX ?_ | refine zO ?_); conv => whnf)
  exact RetReq.mk hL.drop ⟨rfl, rfl, rfl⟩
def op4 : Bool → S4 → S4 → S4 | true => in4 | false => un4
theorem inS_op (g : Bool) {s t : S4} (h : InS s) (k : InS t) : InS (op4 g s t) := by cases g; exact inS_un h k; exact inS_in h k
def stepS (g : Bool) (ns : List Nd) (p : List Int × Option S4) (z : Int) : List Int × Option S4 :=
  if (nodeN ns z).1.k ≠ 2 then (p.1 ++ [z], p.2) else match p.2 with
  | none => (p.1, some (setOf (nodeN ns z).1))
  | some s => (p.1, some (op4 g s (setOf (nodeN ns z).1)))
def splitN (g : Bool) (ns : List Nd) (l : List Int) : List Int × Option S4 := l.foldl (stepS g ns) ([], none)
def gbytesN (g : Bool) (ns : List Nd) (l : List Int) : List Nd × List Int := match (splitN g ns l).2 with
  | none => (ns, (splitN g ns l).1)
  | some s => ((bytesN ns s).1, (splitN g ns l).1 ++ [(bytesN ns s).2])
theorem splitN_take (g : Bool) (ns : List Nd) {l : List Int} {j : Nat} (h : j < l.length) : splitN g ns (l.take (j + 1)) = stepS g ns (splitN g ns (l.take j)) l[j] := by
  rw [List.take_succ_eq_append_getElem h]; unfold splitN; rw [List.foldl_append]; rfl
theorem nodeN_in {ns : List Nd} (h : OkA ns) (z : Int) : InN (nodeN ns z).1 := by
  unfold nodeN
  split
  · rename_i hz
    have := List.getElem?_eq_getElem (l := ns) (i := z.toNat) (by omega)
    simp only [List.getD, this, Option.getD_some]
    exact h.inn _ (List.getElem_mem _)
  · exact inN_k (k := 0) (by omega)
theorem splitN_in (g : Bool) {ns : List Nd} (hO : OkA ns) (l : List Int) : ∀ s, (splitN g ns l).2 = some s → InS s := by
  unfold splitN
  suffices h : ∀ (p : List Int × Option S4), (∀ s, p.2 = some s → InS s) → ∀ s, (l.foldl (stepS g ns) p).2 = some s → InS s from h _ (fun s h => by cases h)
  induction l with
  | nil => intro p h; exact h
  | cons z l ih =>
    intro p h
    refine ih _ fun s hs => ?_
    have hz := inS_of (nodeN_in hO z)
    unfold stepS at hs
    split at hs
    · exact h s hs
    · split at hs
      · cases hs; exact hz
      · rename_i s0 e; cases hs; exact inS_op g (h s0 e) hz
theorem splitN_len (g : Bool) (ns : List Nd) (l : List Int) : ∀ j, (splitN g ns (l.take j)).1.length ≤ j
  | 0 => by simp [splitN]
  | j + 1 => by
    have ih := splitN_len g ns l j
    by_cases h : j < l.length
    · rw [splitN_take g ns h]
      unfold stepS
      split
      · simp; omega
      · split <;> (simp only; omega)
    · rw [List.take_of_length_le (by omega)] at ih ⊢; omega
theorem okA_gbytes {ns : List Nd} (h : OkA ns) (g : Bool) (l : List Int) : OkA (gbytesN g ns l).1 := by
  unfold gbytesN
  have := splitN_in g h l
  split
  · exact h
  · rename_i s e; exact okA_bytes h (this s e)
def grO : List Value := [.int .i64 4, .func (.func 76) #[] #[], .func (.func 117) #[] #[], .func (.func 118) #[] #[]]
def grA : List Value := [.int .i64 5, .func (.func 117) #[] #[], .func (.func 76) #[] #[], .func (.func 120) #[] #[]]
set_option maxHeartbeats 2000000 in
theorem gbytesO_fn (m : Mem) (ab : Nat) (ns : List Nd) (L : Own) (hA : Ar ab ns L) (hO : OkA ns) (v : Value) (l : List Int) (hv : SlI m .i64 v l) (hlb : l.length ≤ 1000000) :
    Ev.Fn Tryz.prog 138 [.agg (toArr grO), .pointer (some ⟨ab, 0, none⟩), v] m L
      fun m' L' u => m' = m ∧ ∃ La Lo, L' = Lo ++ La ∧ Ar ab (gbytesN false ns l).1 La ∧ OwnS 3 1 u (ints .i64 (gbytesN false ns l).2) Lo := by
  obtain ⟨A, n, c, rfl, hn, hc, hm, -⟩ := id hv
  have hcell := hv.cell.2
  have hmx : maxLen = 9223372036854775807 := rfl
  refine Fn.enter (N := 54) hX Tryz.func138 rfl rfl (by show _ ≤ _; simp) (fun w0 hL => ?_)
  conv => whnf
  generalize keys L = S0 at hL ⊢
  refine NewReq.mk hL ?_
  clear hL
  intro b3 w hL
  conv => whnf
  refine NewReq.mk hL ?_
  clear hL
  intro b8 w hL
  conv => whnf
  replace hL : Ev.Loc m S0 w0 m ((b8, .cells (toArr (stC z4)) 28 (0, 0)) :: (b3, .cells (toArr grO) 148 (0, 0)) :: L) w := hL
  conv => whnf
  repeat ((first | refine zT ?_ | refine zF ?_ | refine zL hX hL ?_ | refine zB hX hL ?_ | (refine zS hX hL ?_; clear hL; intro w hL) | refine zI ?_ | refine zG hX ?_ | refine zO ?_); conv => whnf)
  refine LoopReq.inv hX (fun s : Nat × Bool × Option Addr × Nat × Nat => [(7, .slice s.2.2.1 s.2.2.2.1 s.2.2.2.2), (9, .bool s.2.1), (16, .int .i64 s.1)]) [1, 3, 8, 14, 15]
    (fun s w => (s.1 ≤ n ∧ s.2.1 = (splitN false ns (l.take s.1)).2.isSome) ∧ ∃ Lo, OwnS 3 1 (.slice s.2.2.1 s.2.2.2.1 s.2.2.2.2) (ints .i64 (splitN false ns (l.take s.1)).1) Lo ∧ Ev.Loc m S0 w0 m ((b8, .cells (toArr (stC ((splitN false ns (l.take s.1)).2.getD z4))) 28 (0, 0)) :: (b3, .cells (toArr grO) 148 (0, 0)) :: (Lo ++ L)) w) (fun s => n - s.1) (0, false, none, 0, 0)
    ⟨⟨by simp, rfl⟩, [], OwnS.nil _ _, hL⟩ ⟨rfl, rfl, rfl, trivial⟩ ?_
  clear hL
  rintro ⟨j, sm, A1, n1, c1⟩ w f ⟨⟨hj, hsm⟩, Lo, ho, hL⟩
  simp only at hj hsm ho hL
  conv => whnf
  repeat ((first | refine zT ?_ | refine zF ?_ | refine zL hX hL ?_ | refine zB hX hL ?_ | (refine zS hX hL ?_; clear hL; intro w hL) | refine zI ?_ | refine zG hX ?_ | refine zO ?_); conv => whnf)
  refine BrReq.dec (fun hlt => ?_) (fun hlt => ?_)
  · have hlt' : j < l.length := by simp only at hlt; omega
    obtain ⟨a, ea, hc'⟩ := hcell j _ (List.getElem?_eq_getElem hlt')
    have hst := splitN_take false ns hlt'
    have hsl := splitN_len false ns l j
    have hsi := splitN_in false hO (l.take j)
    have hnode := Node_fn m ab ns L hA l[j]
    have hin := nodeN_in hO l[j]
    unfold stepS at hst
    generalize (nodeN ns l[j]).1 = x at hnode hst hin
    generalize (nodeN ns l[j]).2 = ok at hnode
    generalize l[j] = z at hnode hst hc'
    generalize splitN false ns (l.take j) = p at hsm ho hL hst hsl hsi
    obtain ⟨out, so⟩ := p
    simp only at hsm ho hL hst hsl hsi
    conv => whnf
    repeat ((first | (refine Idx2Req.mk j a rfl (by simp only at hlt ⊢; omega) ea ?_) | refine LdReq.one hX rfl rfl hL hc' ?_ | refine zT ?_ | refine zF ?_ | refine zL hX hL ?_ | refine zB hX hL ?_ | (refine zS hX hL ?_; clear hL; intro w hL) | refine zI ?_ | refine zG hX ?_ | refine zO ?_); conv => whnf)
    refine CallReq.li (L1 := L) hnode (Loc.back (L1 := (b8, .cells (toArr (stC (so.getD z4))) 28 (0, 0)) :: (b3, .cells (toArr grO) 148 (0, 0)) :: Lo) hL) ?_
    clear hL
    intro w hL
    have hL := Loc.back (L1 := L) hL
    conv => whnf
    repeat ((first | refine zT ?_ | refine zF ?_ | refine zL hX hL ?_ | refine zB hX hL ?_ | (refine zS hX hL ?_; clear hL; intro w hL) | refine zI ?_ | refine zG hX ?_ | refine zO ?_); conv => whnf)
    refine NewReq.mk hL ?_
    clear hL
    intro b12 w hL
    conv => whnf
    replace hL : Ev.Loc m S0 w0 m ((b12, .cells (toArr (ndC nd0)) 80 (0, 0)) :: (b8, .cells (toArr (stC (so.getD z4))) 28 (0, 0)) :: (b3, .cells (toArr grO) 148 (0, 0)) :: (Lo ++ L)) w := hL
    by_cases hk : x.k = 2
    rotate_left
    · rw [if_pos hk] at hst
      conv => whnf
      repeat ((first | refine BrReq.yes hk ?_ | refine zT ?_ | refine zF ?_ | refine zL hX hL ?_ | refine zB hX hL ?_ | (refine zS hX hL ?_; clear hL; intro w hL) | refine zI ?_ | refine zG hX ?_ | refine zO ?_); conv => whnf)
      refine NewReq.mk hL ?_
      clear hL
      intro g2 w hL
      conv => whnf
      replace hL : Ev.Loc m S0 w0 m ((g2, .cells (toArr [.int .i64 z]) 3 (0, 0)) :: (b12, .cells (toArr (ndC x)) 80 (0, 0)) :: (b8, .cells (toArr (stC (so.getD z4))) 28 (0, 0)) :: (b3, .cells (toArr grO) 148 (0, 0)) :: (Lo ++ L)) w := hL
      conv => whnf
      repeat ((first | refine zT ?_ | refine zF ?_ | refine zL hX hL ?_ | refine zB hX hL ?_ | (refine zS hX hL ?_; clear hL; intro w hL) | refine zI ?_ | refine zG hX ?_ | refine zO ?_); conv => whnf)
      refine RunReq.push hX 108 3 rfl rfl rfl rfl rfl ho (L2 := L ++ [_, _, _]) (by rw [← List.append_assoc]; exact hL.perm (List.Perm.cons _ (List.perm_append_comm (l₁ := [_, _, _]) (l₂ := Lo ++ L)))) rfl rfl (by simp [ints]; omega) rfl ?_
      clear hL
      intro A2 n2 c2 L2 w hn2 ho2 hL
      rw [← List.append_assoc] at hL
      have hL := Loc.back (L1 := L2 ++ L) (L2 := [_, _, _]) hL
      rw [← show ints .i64 (out ++ [z]) = ints .i64 out ++ [Value.int .i64 z] from ints_append ..] at ho2
      conv => whnf
      repeat ((first | refine zT ?_ | refine zF ?_ | refine zL hX hL ?_ | refine zB hX hL ?_ | (refine zS hX hL ?_; clear hL; intro w hL) | refine zI ?_ | refine zG hX ?_ | refine zO ?_); conv => whnf)
      refine ⟨(j + 1, sm, A2, n2, c2), ⟨⟨by simp only at hlt ⊢; omega, by simp only [hst]; exact hsm⟩, L2, by simp only [hst]; exact ho2, by simp only [hst]; exact hL.drop⟩, by first | omega | (simp only; omega) | (simp only [List.length_cons, List.length_append]; omega), ?_, ?_⟩
      · repeat (first | exact trivial | (refine And.intro (by (conv => lhs; whnf) <;> (conv => rhs; whnf) <;> (first | rfl)) ?_))
      · repeat (first | exact trivial | (refine And.intro (by (conv => lhs; whnf) <;> (conv => rhs; whnf) <;> (first | rfl)) ?_))
    · rw [if_neg (by simp [hk])] at hst
      cases so with
      | none =>
        simp only at hst
        obtain rfl : sm = false := hsm
        conv => whnf
        repeat ((first | refine BrReq.no (fun h => h hk) ?_ | refine zT ?_ | refine zF ?_ | refine zL hX hL ?_ | refine zB hX hL ?_ | (refine zS hX hL ?_; clear hL; intro w hL) | refine zI ?_ | refine zG hX ?_ | refine zO ?_); conv => whnf)
        replace hL : Ev.Loc m S0 w0 m ((b12, .cells (toArr (ndC x)) 80 (0, 0)) :: (b8, .cells (toArr (stC (setOf x))) 28 (0, 0)) :: (b3, .cells (toArr grO) 148 (0, 0)) :: (Lo ++ L)) w := hL
        refine ⟨(j + 1, true, A1, n1, c1), ⟨⟨by simp only at hlt ⊢; omega, by simp only [hst]; rfl⟩, Lo, by simp only [hst]; exact ho, by simp only [hst]; exact hL.drop⟩, by first | omega | (simp only; omega) | (simp only [List.length_cons, List.length_append]; omega), ?_, ?_⟩
        · repeat (first | exact trivial | (refine And.intro (by (conv => lhs; whnf) <;> (conv => rhs; whnf) <;> (first | rfl)) ?_))
        · repeat (first | exact trivial | (refine And.intro (by (conv => lhs; whnf) <;> (conv => rhs; whnf) <;> (first | rfl)) ?_))
      | some s =>
        simp only at hst
        obtain rfl : sm = true := hsm
        conv => whnf
        repeat ((first | refine BrReq.no (fun h => h hk) ?_ | refine zT ?_ | refine zF ?_ | refine zL hX hL ?_ | refine zB hX hL ?_ | (refine zS hX hL ?_; clear hL; intro w hL) | refine zI ?_ | refine zG hX ?_ | refine zO ?_); conv => whnf)
        refine CallReq.val (Union_fn m s (setOf x) (hsi s rfl) (inS_of hin)) hL ?_
        clear hL
        intro w hL
        conv => whnf
        repeat ((first | refine zT ?_ | refine zF ?_ | refine zL hX hL ?_ | refine zB hX hL ?_ | (refine zS hX hL ?_; clear hL; intro w hL) | refine zI ?_ | refine zG hX ?_ | refine zO ?_); conv => whnf)
        replace hL : Ev.Loc m S0 w0 m ((b12, .cells (toArr (ndC x)) 80 (0, 0)) :: (b8, .cells (toArr (stC (op4 false s (setOf x)))) 28 (0, 0)) :: (b3, .cells (toArr grO) 148 (0, 0)) :: (Lo ++ L)) w := hL
        refine ⟨(j + 1, true, A1, n1, c1), ⟨⟨by simp only at hlt ⊢; omega, by simp only [hst]; rfl⟩, Lo, by simp only [hst]; exact ho, by simp only [hst]; exact hL.drop⟩, by first | omega | (simp only; omega) | (simp only [List.length_cons, List.length_append]; omega), ?_, ?_⟩
        · repeat (first | exact trivial | (refine And.intro (by (conv => lhs; whnf) <;> (conv => rhs; whnf) <;> (first | rfl)) ?_))
        · repeat (first | exact trivial | (refine And.intro (by (conv => lhs; whnf) <;> (conv => rhs; whnf) <;> (first | rfl)) ?_))
  · have ej : j = n := by simp only at hlt; omega
    subst ej
    have hsl := splitN_len false ns l j
    rw [List.take_of_length_le (by omega)] at hsm ho hL hsl
    unfold gbytesN
    have hsi := splitN_in false hO l
    generalize splitN false ns l = p at hsm ho hL hsi hsl
    obtain ⟨out, so⟩ := p
    simp only at hsm ho hL hsi hsl
    cases so with
    | none =>
      obtain rfl : sm = false := hsm
      conv => whnf
      repeat ((first | refine zT ?_ | refine zF ?_ | refine zL hX hL ?_ | refine zB hX hL ?_ | (refine zS hX hL ?_; clear hL; intro w hL) | refine zI ?_ | refine zG hX ?_ | refine zO ?_); conv => whnf)
      exact RetReq.mk hL.drop.drop ⟨rfl, L, Lo, rfl, hA, ho⟩
    | some s =>
      obtain rfl : sm = true := hsm
      conv => whnf
      repeat ((first | refine zT ?_ | refine zF ?_ | refine zL hX hL ?_ | refine zB hX hL ?_ | (refine zS hX hL ?_; clear hL; intro w hL) | refine zI ?_ | refine zG hX ?_ | refine zO ?_); conv => whnf)
      refine CallReq.mk (L1 := L) (L2 := (b8, .cells (toArr (stC s)) 28 (0, 0)) :: (b3, .cells (toArr grO) 148 (0, 0)) :: Lo) (Bytes_fn m ab ns L hA hO s (hsi s rfl)) (Loc.back (L1 := (b8, .cells (toArr (stC s)) 28 (0, 0)) :: (b3, .cells (toArr grO) 148 (0, 0)) :: Lo) hL) ?_
      clear hL
      rintro u mx La w hL - ⟨hmx, rfl, hA2⟩
      rw [hmx] at hL
      clear hmx mx
      have hL := Loc.back (L1 := La) (L2 := (b8, .cells (toArr (stC s)) 28 (0, 0)) :: (b3, .cells (toArr grO) 148 (0, 0)) :: Lo) hL
      conv => whnf
      repeat ((first | refine zT ?_ | refine zF ?_ | refine zL hX hL ?_ | refine zB hX hL ?_ | (refine zS hX hL ?_; clear hL; intro w hL) | refine zI ?_ | refine zG hX ?_ | refine zO ?_); conv => whnf)
      refine NewReq.mk hL ?_
      clear hL
      intro g2 w hL
      conv => whnf
      replace hL : Ev.Loc m S0 w0 m ((g2, .cells (toArr [.int .i64 (bytesN ns s).2]) 3 (0, 0)) :: (b8, .cells (toArr (stC s)) 28 (0, 0)) :: (b3, .cells (toArr grO) 148 (0, 0)) :: (Lo ++ La)) w := hL
      conv => whnf
      repeat ((first | refine zT ?_ | refine zF ?_ | refine zL hX hL ?_ | refine zB hX hL ?_ | (refine zS hX hL ?_; clear hL; intro w hL) | refine zI ?_ | refine zG hX ?_ | refine zO ?_); conv => whnf)
      refine RunReq.push hX 108 3 rfl rfl rfl rfl rfl ho (L2 := La ++ [_, _]) (by rw [← List.append_assoc]; exact hL.perm (List.Perm.cons _ (List.perm_append_comm (l₁ := [_, _]) (l₂ := Lo ++ La)))) rfl rfl (by simp [ints]; omega) rfl ?_
      clear hL
      intro A2 n2 c2 L2 w hn2 ho2 hL
      rw [← List.append_assoc] at hL
      have hL := Loc.back (L1 := L2 ++ La) (L2 := [_, _]) hL
      rw [← show ints .i64 (out ++ [(bytesN ns s).2]) = ints .i64 out ++ [Value.int .i64 (bytesN ns s).2] from ints_append ..] at ho2
      conv => whnf
      repeat ((first | refine zT ?_ | refine zF ?_ | refine zL hX hL ?_ | refine zB hX hL ?_ | (refine zS hX hL ?_; clear hL; intro w hL) | refine zI ?_ | refine zG hX ?_ | refine zO ?_); conv => whnf)
      exact RetReq.mk hL.drop.drop ⟨rfl, La, L2, rfl, hA2, ho2⟩
set_option maxHeartbeats 2000000 in
theorem gbytesA_fn (m : Mem) (ab : Nat) (ns : List Nd) (L : Own) (hA : Ar ab ns L) (hO : OkA ns) (v : Value) (l : List Int) (hv : SlI m .i64 v l) (hlb : l.length ≤ 1000000) :
    Ev.Fn Tryz.prog 138 [.agg (toArr grA), .pointer (some ⟨ab, 0, none⟩), v] m L
      fun m' L' u => m' = m ∧ ∃ La Lo, L' = Lo ++ La ∧ Ar ab (gbytesN true ns l).1 La ∧ OwnS 3 1 u (ints .i64 (gbytesN true ns l).2) Lo := by
  obtain ⟨A, n, c, rfl, hn, hc, hm, -⟩ := id hv
  have hcell := hv.cell.2
  have hmx : maxLen = 9223372036854775807 := rfl
  refine Fn.enter (N := 54) hX Tryz.func138 rfl rfl (by show _ ≤ _; simp) (fun w0 hL => ?_)
  conv => whnf
  generalize keys L = S0 at hL ⊢
  refine NewReq.mk hL ?_
  clear hL
  intro b3 w hL
  conv => whnf
  refine NewReq.mk hL ?_
  clear hL
  intro b8 w hL
  conv => whnf
  replace hL : Ev.Loc m S0 w0 m ((b8, .cells (toArr (stC z4)) 28 (0, 0)) :: (b3, .cells (toArr grA) 148 (0, 0)) :: L) w := hL
  conv => whnf
  repeat ((first | refine zT ?_ | refine zF ?_ | refine zL hX hL ?_ | refine zB hX hL ?_ | (refine zS hX hL ?_; clear hL; intro w hL) | refine zI ?_ | refine zG hX ?_ | refine zO ?_); conv => whnf)
  refine LoopReq.inv hX (fun s : Nat × Bool × Option Addr × Nat × Nat => [(7, .slice s.2.2.1 s.2.2.2.1 s.2.2.2.2), (9, .bool s.2.1), (16, .int .i64 s.1)]) [1, 3, 8, 14, 15]
    (fun s w => (s.1 ≤ n ∧ s.2.1 = (splitN true ns (l.take s.1)).2.isSome) ∧ ∃ Lo, OwnS 3 1 (.slice s.2.2.1 s.2.2.2.1 s.2.2.2.2) (ints .i64 (splitN true ns (l.take s.1)).1) Lo ∧ Ev.Loc m S0 w0 m ((b8, .cells (toArr (stC ((splitN true ns (l.take s.1)).2.getD z4))) 28 (0, 0)) :: (b3, .cells (toArr grA) 148 (0, 0)) :: (Lo ++ L)) w) (fun s => n - s.1) (0, false, none, 0, 0)
    ⟨⟨by simp, rfl⟩, [], OwnS.nil _ _, hL⟩ ⟨rfl, rfl, rfl, trivial⟩ ?_
  clear hL
  rintro ⟨j, sm, A1, n1, c1⟩ w f ⟨⟨hj, hsm⟩, Lo, ho, hL⟩
  simp only at hj hsm ho hL
  conv => whnf
  repeat ((first | refine zT ?_ | refine zF ?_ | refine zL hX hL ?_ | refine zB hX hL ?_ | (refine zS hX hL ?_; clear hL; intro w hL) | refine zI ?_ | refine zG hX ?_ | refine zO ?_); conv => whnf)
  refine BrReq.dec (fun hlt => ?_) (fun hlt => ?_)
  · have hlt' : j < l.length := by simp only at hlt; omega
    obtain ⟨a, ea, hc'⟩ := hcell j _ (List.getElem?_eq_getElem hlt')
    have hst := splitN_take true ns hlt'
    have hsl := splitN_len true ns l j
    have hsi := splitN_in true hO (l.take j)
    have hnode := Node_fn m ab ns L hA l[j]
    have hin := nodeN_in hO l[j]
    unfold stepS at hst
    generalize (nodeN ns l[j]).1 = x at hnode hst hin
    generalize (nodeN ns l[j]).2 = ok at hnode
    generalize l[j] = z at hnode hst hc'
    generalize splitN true ns (l.take j) = p at hsm ho hL hst hsl hsi
    obtain ⟨out, so⟩ := p
    simp only at hsm ho hL hst hsl hsi
    conv => whnf
    repeat ((first | (refine Idx2Req.mk j a rfl (by simp only at hlt ⊢; omega) ea ?_) | refine LdReq.one hX rfl rfl hL hc' ?_ | refine zT ?_ | refine zF ?_ | refine zL hX hL ?_ | refine zB hX hL ?_ | (refine zS hX hL ?_; clear hL; intro w hL) | refine zI ?_ | refine zG hX ?_ | refine zO ?_); conv => whnf)
    refine CallReq.li (L1 := L) hnode (Loc.back (L1 := (b8, .cells (toArr (stC (so.getD z4))) 28 (0, 0)) :: (b3, .cells (toArr grA) 148 (0, 0)) :: Lo) hL) ?_
    clear hL
    intro w hL
    have hL := Loc.back (L1 := L) hL
    conv => whnf
    repeat ((first | refine zT ?_ | refine zF ?_ | refine zL hX hL ?_ | refine zB hX hL ?_ | (refine zS hX hL ?_; clear hL; intro w hL) | refine zI ?_ | refine zG hX ?_ | refine zO ?_); conv => whnf)
    refine NewReq.mk hL ?_
    clear hL
    intro b12 w hL
    conv => whnf
    replace hL : Ev.Loc m S0 w0 m ((b12, .cells (toArr (ndC nd0)) 80 (0, 0)) :: (b8, .cells (toArr (stC (so.getD z4))) 28 (0, 0)) :: (b3, .cells (toArr grA) 148 (0, 0)) :: (Lo ++ L)) w := hL
    by_cases hk : x.k = 2
    rotate_left
    · rw [if_pos hk] at hst
      conv => whnf
      repeat ((first | refine BrReq.yes hk ?_ | refine zT ?_ | refine zF ?_ | refine zL hX hL ?_ | refine zB hX hL ?_ | (refine zS hX hL ?_; clear hL; intro w hL) | refine zI ?_ | refine zG hX ?_ | refine zO ?_); conv => whnf)
      refine NewReq.mk hL ?_
      clear hL
      intro g2 w hL
      conv => whnf
      replace hL : Ev.Loc m S0 w0 m ((g2, .cells (toArr [.int .i64 z]) 3 (0, 0)) :: (b12, .cells (toArr (ndC x)) 80 (0, 0)) :: (b8, .cells (toArr (stC (so.getD z4))) 28 (0, 0)) :: (b3, .cells (toArr grA) 148 (0, 0)) :: (Lo ++ L)) w := hL
      conv => whnf
      repeat ((first | refine zT ?_ | refine zF ?_ | refine zL hX hL ?_ | refine zB hX hL ?_ | (refine zS hX hL ?_; clear hL; intro w hL) | refine zI ?_ | refine zG hX ?_ | refine zO ?_); conv => whnf)
      refine RunReq.push hX 108 3 rfl rfl rfl rfl rfl ho (L2 := L ++ [_, _, _]) (by rw [← List.append_assoc]; exact hL.perm (List.Perm.cons _ (List.perm_append_comm (l₁ := [_, _, _]) (l₂ := Lo ++ L)))) rfl rfl (by simp [ints]; omega) rfl ?_
      clear hL
      intro A2 n2 c2 L2 w hn2 ho2 hL
      rw [← List.append_assoc] at hL
      have hL := Loc.back (L1 := L2 ++ L) (L2 := [_, _, _]) hL
      rw [← show ints .i64 (out ++ [z]) = ints .i64 out ++ [Value.int .i64 z] from ints_append ..] at ho2
      conv => whnf
      repeat ((first | refine zT ?_ | refine zF ?_ | refine zL hX hL ?_ | refine zB hX hL ?_ | (refine zS hX hL ?_; clear hL; intro w hL) | refine zI ?_ | refine zG hX ?_ | refine zO ?_); conv => whnf)
      refine ⟨(j + 1, sm, A2, n2, c2), ⟨⟨by simp only at hlt ⊢; omega, by simp only [hst]; exact hsm⟩, L2, by simp only [hst]; exact ho2, by simp only [hst]; exact hL.drop⟩, by first | omega | (simp only; omega) | (simp only [List.length_cons, List.length_append]; omega), ?_, ?_⟩
      · repeat (first | exact trivial | (refine And.intro (by (conv => lhs; whnf) <;> (conv => rhs; whnf) <;> (first | rfl)) ?_))
      · repeat (first | exact trivial | (refine And.intro (by (conv => lhs; whnf) <;> (conv => rhs; whnf) <;> (first | rfl)) ?_))
    · rw [if_neg (by simp [hk])] at hst
      cases so with
      | none =>
        simp only at hst
        obtain rfl : sm = false := hsm
        conv => whnf
        repeat ((first | refine BrReq.no (fun h => h hk) ?_ | refine zT ?_ | refine zF ?_ | refine zL hX hL ?_ | refine zB hX hL ?_ | (refine zS hX hL ?_; clear hL; intro w hL) | refine zI ?_ | refine zG hX ?_ | refine zO ?_); conv => whnf)
        replace hL : Ev.Loc m S0 w0 m ((b12, .cells (toArr (ndC x)) 80 (0, 0)) :: (b8, .cells (toArr (stC (setOf x))) 28 (0, 0)) :: (b3, .cells (toArr grA) 148 (0, 0)) :: (Lo ++ L)) w := hL
        refine ⟨(j + 1, true, A1, n1, c1), ⟨⟨by simp only at hlt ⊢; omega, by simp only [hst]; rfl⟩, Lo, by simp only [hst]; exact ho, by simp only [hst]; exact hL.drop⟩, by first | omega | (simp only; omega) | (simp only [List.length_cons, List.length_append]; omega), ?_, ?_⟩
        · repeat (first | exact trivial | (refine And.intro (by (conv => lhs; whnf) <;> (conv => rhs; whnf) <;> (first | rfl)) ?_))
        · repeat (first | exact trivial | (refine And.intro (by (conv => lhs; whnf) <;> (conv => rhs; whnf) <;> (first | rfl)) ?_))
      | some s =>
        simp only at hst
        obtain rfl : sm = true := hsm
        conv => whnf
        repeat ((first | refine BrReq.no (fun h => h hk) ?_ | refine zT ?_ | refine zF ?_ | refine zL hX hL ?_ | refine zB hX hL ?_ | (refine zS hX hL ?_; clear hL; intro w hL) | refine zI ?_ | refine zG hX ?_ | refine zO ?_); conv => whnf)
        refine CallReq.val (Inter_fn m s (setOf x) (hsi s rfl) (inS_of hin)) hL ?_
        clear hL
        intro w hL
        conv => whnf
        repeat ((first | refine zT ?_ | refine zF ?_ | refine zL hX hL ?_ | refine zB hX hL ?_ | (refine zS hX hL ?_; clear hL; intro w hL) | refine zI ?_ | refine zG hX ?_ | refine zO ?_); conv => whnf)
        replace hL : Ev.Loc m S0 w0 m ((b12, .cells (toArr (ndC x)) 80 (0, 0)) :: (b8, .cells (toArr (stC (op4 true s (setOf x)))) 28 (0, 0)) :: (b3, .cells (toArr grA) 148 (0, 0)) :: (Lo ++ L)) w := hL
        refine ⟨(j + 1, true, A1, n1, c1), ⟨⟨by simp only at hlt ⊢; omega, by simp only [hst]; rfl⟩, Lo, by simp only [hst]; exact ho, by simp only [hst]; exact hL.drop⟩, by first | omega | (simp only; omega) | (simp only [List.length_cons, List.length_append]; omega), ?_, ?_⟩
        · repeat (first | exact trivial | (refine And.intro (by (conv => lhs; whnf) <;> (conv => rhs; whnf) <;> (first | rfl)) ?_))
        · repeat (first | exact trivial | (refine And.intro (by (conv => lhs; whnf) <;> (conv => rhs; whnf) <;> (first | rfl)) ?_))
  · have ej : j = n := by simp only at hlt; omega
    subst ej
    have hsl := splitN_len true ns l j
    rw [List.take_of_length_le (by omega)] at hsm ho hL hsl
    unfold gbytesN
    have hsi := splitN_in true hO l
    generalize splitN true ns l = p at hsm ho hL hsi hsl
    obtain ⟨out, so⟩ := p
    simp only at hsm ho hL hsi hsl
    cases so with
    | none =>
      obtain rfl : sm = false := hsm
      conv => whnf
      repeat ((first | refine zT ?_ | refine zF ?_ | refine zL hX hL ?_ | refine zB hX hL ?_ | (refine zS hX hL ?_; clear hL; intro w hL) | refine zI ?_ | refine zG hX ?_ | refine zO ?_); conv => whnf)
      exact RetReq.mk hL.drop.drop ⟨rfl, L, Lo, rfl, hA, ho⟩
    | some s =>
      obtain rfl : sm = true := hsm
      conv => whnf
      repeat ((first | refine zT ?_ | refine zF ?_ | refine zL hX hL ?_ | refine zB hX hL ?_ | (refine zS hX hL ?_; clear hL; intro w hL) | refine zI ?_ | refine zG hX ?_ | refine zO ?_); conv => whnf)
      refine CallReq.mk (L1 := L) (L2 := (b8, .cells (toArr (stC s)) 28 (0, 0)) :: (b3, .cells (toArr grA) 148 (0, 0)) :: Lo) (Bytes_fn m ab ns L hA hO s (hsi s rfl)) (Loc.back (L1 := (b8, .cells (toArr (stC s)) 28 (0, 0)) :: (b3, .cells (toArr grA) 148 (0, 0)) :: Lo) hL) ?_
      clear hL
      rintro u mx La w hL - ⟨hmx, rfl, hA2⟩
      rw [hmx] at hL
      clear hmx mx
      have hL := Loc.back (L1 := La) (L2 := (b8, .cells (toArr (stC s)) 28 (0, 0)) :: (b3, .cells (toArr grA) 148 (0, 0)) :: Lo) hL
      conv => whnf
      repeat ((first | refine zT ?_ | refine zF ?_ | refine zL hX hL ?_ | refine zB hX hL ?_ | (refine zS hX hL ?_; clear hL; intro w hL) | refine zI ?_ | refine zG hX ?_ | refine zO ?_); conv => whnf)
      refine NewReq.mk hL ?_
      clear hL
      intro g2 w hL
      conv => whnf
      replace hL : Ev.Loc m S0 w0 m ((g2, .cells (toArr [.int .i64 (bytesN ns s).2]) 3 (0, 0)) :: (b8, .cells (toArr (stC s)) 28 (0, 0)) :: (b3, .cells (toArr grA) 148 (0, 0)) :: (Lo ++ La)) w := hL
      conv => whnf
      repeat ((first | refine zT ?_ | refine zF ?_ | refine zL hX hL ?_ | refine zB hX hL ?_ | (refine zS hX hL ?_; clear hL; intro w hL) | refine zI ?_ | refine zG hX ?_ | refine zO ?_); conv => whnf)
      refine RunReq.push hX 108 3 rfl rfl rfl rfl rfl ho (L2 := La ++ [_, _]) (by rw [← List.append_assoc]; exact hL.perm (List.Perm.cons _ (List.perm_append_comm (l₁ := [_, _]) (l₂ := Lo ++ La)))) rfl rfl (by simp [ints]; omega) rfl ?_
      clear hL
      intro A2 n2 c2 L2 w hn2 ho2 hL
      rw [← List.append_assoc] at hL
      have hL := Loc.back (L1 := L2 ++ La) (L2 := [_, _]) hL
      rw [← show ints .i64 (out ++ [(bytesN ns s).2]) = ints .i64 out ++ [Value.int .i64 (bytesN ns s).2] from ints_append ..] at ho2
      conv => whnf
      repeat ((first | refine zT ?_ | refine zF ?_ | refine zL hX hL ?_ | refine zB hX hL ?_ | (refine zS hX hL ?_; clear hL; intro w hL) | refine zI ?_ | refine zG hX ?_ | refine zO ?_); conv => whnf)
      exact RetReq.mk hL.drop.drop ⟨rfl, La, L2, rfl, hA2, ho2⟩
end Go.Proofs.YtiololnblplloaaGreat.ar
