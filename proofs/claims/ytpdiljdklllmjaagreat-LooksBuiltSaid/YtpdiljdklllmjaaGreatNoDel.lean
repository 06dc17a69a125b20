/- Contains, DeleteFunc on a list of one's own. Conditions: none. -/
import Derived.Test.YtpdiljdklllmjaaGreatNoSort

namespace Go.Proofs.YtpdiljdklllmjaaGreat.ar
open Go Go.Ev Go.Proofs

theorem owns_get {A : Option Addr} {n c : Nat} {l : List Int} {L1 : Own} (ho : OwnS 3 1 (.slice A n c) (ints .i64 l) L1) : n = l.length ∧ n ≤ c ∧ c ≤ maxLen ∧ (l ≠ [] → ∃ g cur, A = some ⟨g, 0, none⟩ ∧ L1 = [(g, .cells (toArr cur) 3 (0, 0))] ∧ cur.length = c ∧ cur.take n = ints .i64 l ∧ ∀ (j : Nat) (z : Int), l[j]? = some z → cur[j]? = some (.int .i64 z)) := by
  obtain ⟨k, hk, ⟨e, h0, rfl⟩ | ⟨g, cap, cur, e, rfl, h1, h2, h3, h4⟩⟩ := ho
  · cases e
    have hz : l = [] := List.eq_nil_of_length_eq_zero (by simp [ints] at hk; omega)
    subst hz
    exact ⟨rfl, Nat.le_refl _, by decide, fun h => absurd rfl h⟩
  · cases e
    rw [Nat.mul_one] at h3 h4
    have hl : n = l.length := by simpa [ints] using hk.symm
    refine ⟨hl, h1, h2, fun _ => ⟨g, cur, rfl, rfl, h3, h4, fun j z hz => ?_⟩⟩
    have hj := (List.getElem?_eq_some_iff.1 hz).1
    have : (cur.take n)[j]? = (ints .i64 l)[j]? := by rw [h4]
    rw [List.getElem?_take_of_lt (by omega)] at this
    rw [this]; simp [ints, hz]
theorem indexO_fn (m : Mem) (A : Option Addr) (n c : Nat) (l : List Int) (L1 : Own) (ho : OwnS 3 1 (.slice A n c) (ints .i64 l) L1) (z : Int) : FnL Tryz.prog 81 [.slice A n c, .int .i64 z] m L1 (.int .i64 (idxI z l)) := by
  obtain ⟨hn, hnc, hm, hget⟩ := owns_get ho
  have hmx : maxLen = 9223372036854775807 := rfl
  refine Fn.enter (N := 19) hX Tryz.func81 rfl rfl (by show _ ≤ _; simp) (fun w0 hL => ?_)
  conv => whnf
  generalize keys L1 = S0 at hL ⊢
  conv => whnf
  repeat ((first | refine zT ?_ | refine zF ?_ | refine zL hX hL ?_ | refine zB hX hL ?_ | (refine zS hX hL ?_; clear hL; intro w hL) | refine zI ?_ | refine zG hX ?_ | refine zO ?_); conv => whnf)
  refine LoopReq.inv hX (fun j : Nat => [(8, .int .i64 j)]) [0, 1, 7]
    (fun j w => (j ≤ n ∧ ∀ (i : Nat), i < j → l[i]? ≠ some z) ∧ Ev.Loc m S0 w0 m L1 w) (fun j => n - j) 0
    ⟨⟨by omega, fun i h => absurd h (by omega)⟩, hL⟩ ⟨rfl, trivial⟩ ?_
  clear hL
  rintro j w g ⟨⟨hj, hdone⟩, hL⟩
  conv => whnf
  repeat ((first | refine zT ?_ | refine zF ?_ | refine zL hX hL ?_ | refine zB hX hL ?_ | (refine zS hX hL ?_; clear hL; intro w hL) | refine zI ?_ | refine zG hX ?_ | refine zO ?_); conv => whnf)
  refine BrReq.dec (fun hlt => ?_) (fun hlt => ?_)
  · have hlt' : j < l.length := by omega
    have hx := List.getElem?_eq_getElem hlt'
    obtain ⟨g, cur, rfl, rfl, -, -, hc⟩ := hget (fun e => by rw [e] at hlt'; simp at hlt')
    have hc' := hc j _ hx
    generalize l[j] = y at hx hc'
    conv => whnf
    repeat ((first | refine Idx2Req.mk j _ rfl (by omega) rfl ?_ | (refine LdReq.ownC hX rfl rfl hL .h (by rw [scale_eq, Nat.zero_add, Nat.mul_one]; exact hc') ?_) | refine zT ?_ | refine zF ?_ | refine zL hX hL ?_ | refine zB hX hL ?_ | (refine zS hX hL ?_; clear hL; intro w hL) | refine zI ?_ | refine zG hX ?_ | refine zO ?_); conv => whnf)
    by_cases hyz : z = y
    · subst hyz
      conv => whnf
      repeat ((first | refine BrReq.yes rfl ?_ | refine zT ?_ | refine zF ?_ | refine zL hX hL ?_ | refine zB hX hL ?_ | (refine zS hX hL ?_; clear hL; intro w hL) | refine zI ?_ | refine zG hX ?_ | refine zO ?_); conv => whnf)
      refine RetReq.mk hL ⟨rfl, rfl, ?_⟩
      rw [idxI_at l j hx fun q hq => hdone q hq]; rfl
    · have hd : ∀ (i : Nat), i < j + 1 → l[i]? ≠ some z := fun i hi e => by
        by_cases h1 : i = j
        · subst h1; rw [hx] at e; cases e; exact hyz rfl
        · exact hdone i (by omega) e
      conv => whnf
      repeat ((first | refine BrReq.no hyz ?_ | refine zT ?_ | refine zF ?_ | refine zL hX hL ?_ | refine zB hX hL ?_ | (refine zS hX hL ?_; clear hL; intro w hL) | refine zI ?_ | refine zG hX ?_ | refine zO ?_); conv => whnf)
      refine ⟨j + 1, ⟨⟨by omega, hd⟩, hL⟩, by first | omega | (simp only; omega), ?_, ?_⟩
      · repeat (first | exact trivial | (refine And.intro (by (conv => lhs; whnf) <;> (conv => rhs; whnf) <;> (first | rfl)) ?_))
      · repeat (first | exact trivial | (refine And.intro (by (conv => lhs; whnf) <;> (conv => rhs; whnf) <;> (first | rfl)) ?_))
  · conv => whnf
    repeat ((first | refine zT ?_ | refine zF ?_ | refine zL hX hL ?_ | refine zB hX hL ?_ | (refine zS hX hL ?_; clear hL; intro w hL) | refine zI ?_ | refine zG hX ?_ | refine zO ?_); conv => whnf)
    refine RetReq.mk hL ⟨rfl, rfl, ?_⟩
    rw [idxI_none l fun h => by
      obtain ⟨i, hi, e⟩ := List.getElem_of_mem h
      exact hdone i (by omega) (by rw [List.getElem?_eq_getElem hi, e])]; rfl
theorem containsO_fn (m : Mem) (A : Option Addr) (n c : Nat) (l : List Int) (L1 : Own) (ho : OwnS 3 1 (.slice A n c) (ints .i64 l) L1) (z : Int) : FnL Tryz.prog 74 [.slice A n c, .int .i64 z] m L1 (.bool (decide (z ∈ l))) := by
  refine Fn.enter (N := 9) hX Tryz.func74 rfl rfl (by show _ ≤ _; simp) (fun w0 hL => ?_)
  conv => whnf
  generalize keys L1 = S0 at hL ⊢
  conv => whnf
  repeat ((first | refine zT ?_ | refine zF ?_ | refine zL hX hL ?_ | refine zB hX hL ?_ | (refine zS hX hL ?_; clear hL; intro w hL) | refine zI ?_ | refine zG hX ?_ | refine zO ?_); conv => whnf)
  refine CallReq.lo (indexO_fn m A n c l L1 ho z) hL ?_
  clear hL
  intro w hL
  conv => whnf
  repeat ((first | refine zT ?_ | refine zF ?_ | refine zL hX hL ?_ | refine zB hX hL ?_ | (refine zS hX hL ?_; clear hL; intro w hL) | refine zI ?_ | refine zG hX ?_ | refine zO ?_); conv => whnf)
  exact RetReq.mk hL ⟨rfl, rfl, congrArg Value.bool (decide_eq_decide.2 (idxI_pos l))⟩
theorem indexFO_fn (m : Mem) (b : Nat) (z : Int) (A : Option Addr) (n c : Nat) (l : List Int) (L1 : Own) (ho : OwnS 3 1 (.slice A n c) (ints .i64 l) L1) :
    FnL Tryz.prog 82 [.slice A n c, .func (.func 76) #[] #[.pointer (some ⟨b, 0, none⟩)]] m ((b, .cells (toArr [.int .i64 z]) 3 (0, 0)) :: L1) (.int .i64 (idxI z l)) := by
  obtain ⟨hn, hnc, hm, hget⟩ := owns_get ho
  have hmx : maxLen = 9223372036854775807 := rfl
  refine Fn.enter (N := 19) hX Tryz.func82 rfl rfl (by show _ ≤ _; simp) (fun w0 hL => ?_)
  conv => whnf
  generalize keys ((b, Obj.cells (toArr [.int .i64 z]) 3 (0, 0)) :: L1) = S0 at hL ⊢
  conv => whnf
  repeat ((first | refine zT ?_ | refine zF ?_ | refine zL hX hL ?_ | refine zB hX hL ?_ | (refine zS hX hL ?_; clear hL; intro w hL) | refine zI ?_ | refine zG hX ?_ | refine zO ?_); conv => whnf)
  refine LoopReq.inv hX (fun j : Nat => [(8, .int .i64 j)]) [0, 1, 7]
    (fun j w => (j ≤ n ∧ ∀ (i : Nat), i < j → l[i]? ≠ some z) ∧ Ev.Loc m S0 w0 m ((b, .cells (toArr [.int .i64 z]) 3 (0, 0)) :: L1) w) (fun j => n - j) 0
    ⟨⟨by omega, fun i h => absurd h (by omega)⟩, hL⟩ ⟨rfl, trivial⟩ ?_
  clear hL
  rintro j w g ⟨⟨hj, hdone⟩, hL⟩
  conv => whnf
  repeat ((first | refine zT ?_ | refine zF ?_ | refine zL hX hL ?_ | refine zB hX hL ?_ | (refine zS hX hL ?_; clear hL; intro w hL) | refine zI ?_ | refine zG hX ?_ | refine zO ?_); conv => whnf)
  refine BrReq.dec (fun hlt => ?_) (fun hlt => ?_)
  · have hlt' : j < l.length := by omega
    have hx := List.getElem?_eq_getElem hlt'
    obtain ⟨g, cur, rfl, rfl, -, -, hc⟩ := hget (fun e => by rw [e] at hlt'; simp at hlt')
    have hc' := hc j _ hx
    generalize l[j] = y at hx hc'
    conv => whnf
    repeat ((first | refine Idx2Req.mk j _ rfl (by omega) rfl ?_ | (refine LdReq.ownC hX rfl rfl hL (.t .h) (by rw [scale_eq, Nat.zero_add, Nat.mul_one]; exact hc') ?_) | refine zT ?_ | refine zF ?_ | refine zL hX hL ?_ | refine zB hX hL ?_ | (refine zS hX hL ?_; clear hL; intro w hL) | refine zI ?_ | refine zG hX ?_ | refine zO ?_); conv => whnf)
    refine CallReq.li (L1 := [(b, .cells (toArr [.int .i64 z]) 3 (0, 0))]) (L2 := [_]) (is_fn m b z y) hL ?_
    clear hL
    intro w hL
    by_cases hyz : y = z
    · subst hyz
      rw [decide_eq_true rfl]
      conv => whnf
      repeat ((first | refine zT ?_ | refine zF ?_ | refine zL hX hL ?_ | refine zB hX hL ?_ | (refine zS hX hL ?_; clear hL; intro w hL) | refine zI ?_ | refine zG hX ?_ | refine zO ?_); conv => whnf)
      refine RetReq.mk hL ⟨rfl, rfl, ?_⟩
      rw [idxI_at l j hx fun q hq => hdone q hq]; rfl
    · have hd : ∀ (i : Nat), i < j + 1 → l[i]? ≠ some z := fun i hi e => by
        by_cases h1 : i = j
        · subst h1; rw [hx] at e; cases e; exact hyz rfl
        · exact hdone i (by omega) e
      rw [decide_eq_false hyz]
      conv => whnf
      repeat ((first | refine zT ?_ | refine zF ?_ | refine zL hX hL ?_ | refine zB hX hL ?_ | (refine zS hX hL ?_; clear hL; intro w hL) | refine zI ?_ | refine zG hX ?_ | refine zO ?_); conv => whnf)
      refine ⟨j + 1, ⟨⟨by omega, hd⟩, hL⟩, by first | omega | (simp only; omega), ?_, ?_⟩
      · repeat (first | exact trivial | (refine And.intro (by (conv => lhs; whnf) <;> (conv => rhs; whnf) <;> (first | rfl)) ?_))
      · repeat (first | exact trivial | (refine And.intro (by (conv => lhs; whnf) <;> (conv => rhs; whnf) <;> (first | rfl)) ?_))
  · conv => whnf
    repeat ((first | refine zT ?_ | refine zF ?_ | refine zL hX hL ?_ | refine zB hX hL ?_ | (refine zS hX hL ?_; clear hL; intro w hL) | refine zI ?_ | refine zG hX ?_ | refine zO ?_); conv => whnf)
    refine RetReq.mk hL ⟨rfl, rfl, ?_⟩
    rw [idxI_none l fun h => by
      obtain ⟨i, hi, e⟩ := List.getElem_of_mem h
      exact hdone i (by omega) (by rw [List.getElem?_eq_getElem hi, e])]; rfl

theorem zero_rep (n : Nat) (z : Value) (hz : z.cells = #[z]) : (Builtin.zeroCells z.cells n).toList = List.replicate n z := by
  rw [hz]
  simp [Builtin.zeroCells]
  apply List.ext_getElem
  · simp
  · intro i h1 h2
    simp [Nat.mod_one]
theorem GenReq.clear {o : Oper} {ρ : Operand → Value} {c : Call} {m0 m : Mem} {S : List Nat} {w0 w : World} {L : Own} {t e ty : TypeId} {g off n cap : Nat} {cur : List Value} {z : Value} {K : Value → World → Prop} (ho : o.op = .call c) (hc : c.callee = .builtin .clear) (hat : c.argTypes = #[t])
    (hu : Tryz.prog.underlying t = some (.slice e)) (hz0 : ∀ w, (zeroValue e).run Tryz.prog w = .ok z w) (hz : z.cells = #[z]) (h1 : z.oneCell' = true) (ha : c.args.toList.map ρ = [.slice (some ⟨g, off, none⟩) n cap]) (hn : 0 < n) (i : Nat)
    (hL : Ev.Loc m0 S w0 m L w) (hi : Ev.look L i = some (g, .cells (toArr cur) ty (0, 0))) (hle : off + n ≤ cur.length)
    (h : ∀ w', Ev.Loc m0 S w0 m (L.set i (g, .cells (toArr (spliceL cur off (List.replicate n z))) ty (0, 0))) w' → K (.tuple #[]) w') : GenReq Tryz.prog o ρ w K := by
  constructor
  unfold OpOk
  have hargs : c.args.map ρ = #[.slice (some ⟨g, off, none⟩) n cap] := by apply Array.ext'; rw [Array.toList_map, ha]
  have hex : execOp ρ o = (do pure (.value (← Builtin.clear_ c.argTypes o.type #[.slice (some ⟨g, off, none⟩) n cap]))) := by rw [← hargs]; simp [execOp, ho, resolve, hc, invoke, builtin]
  obtain ⟨w', hst, hl⟩ := run_storeCells (P := Tryz.prog) ty (List.replicate n z) 0 hL hi (by simpa using hle) (by intro v hv; rw [List.eq_of_mem_replicate hv]; exact h1)
  obtain ⟨k, rfl⟩ : ∃ k, n = k + 1 := ⟨n - 1, by omega⟩
  have hrun : (Builtin.clear_ c.argTypes o.type #[.slice (some ⟨g, off, none⟩) (k + 1) cap]).run Tryz.prog w = .ok (.tuple #[]) w' := by
    rw [hat]
    simp [Builtin.clear_, run_underlying hu, hz0, zero_rep _ _ hz, hst]
  rw [hex]
  simp only [Sem.run_bind, hrun, Result.andThen_ok, Sem.run_pure, upon]
  exact h w' (by simpa using hl)

/-- DeleteFunc: what is left. -/
def dropI (z : Int) (l : List Int) : List Int := l.filter fun y => decide (y ≠ z)
theorem dropI_none {z : Int} {l : List Int} (h : z ∉ l) : dropI z l = l := by
  unfold dropI
  rw [List.filter_eq_self]
  intro y hy
  exact decide_eq_true fun e => h (e ▸ hy)
theorem dropI_take {z : Int} {l : List Int} {j : Nat} (h : j < l.length) : dropI z (l.take (j + 1)) = dropI z (l.take j) ++ (if l[j] = z then [] else [l[j]]) := by
  unfold dropI
  rw [List.take_succ_eq_append_getElem h, List.filter_append]
  congr 1
  by_cases e : l[j] = z
  · rw [if_pos e, List.filter_cons, if_neg (by simp [e])]; rfl
  · rw [if_neg e, List.filter_cons, if_pos (by simp [e])]; rfl
theorem idxI_spec {z : Int} : ∀ (l : List Int) (i : Nat), idxI z l = i → l[i]? = some z ∧ z ∉ l.take i
  | [], i, h => by simp only [idxI] at h; omega
  | a :: l, i, h => by
    simp only [idxI] at h
    by_cases e : a = z
    · rw [if_pos e] at h
      obtain rfl : i = 0 := by omega
      exact ⟨by rw [e]; rfl, by simp⟩
    · rw [if_neg e] at h
      by_cases h2 : idxI z l < 0
      · rw [if_pos h2] at h; omega
      · rw [if_neg h2] at h
        obtain ⟨i', rfl⟩ : ∃ i', i = i' + 1 := ⟨i - 1, by omega⟩
        obtain ⟨h3, h4⟩ := idxI_spec (z := z) l i' (by omega)
        refine ⟨by simpa using h3, ?_⟩
        rw [List.take_succ_cons, List.mem_cons]
        rintro (h5 | h5)
        · exact e h5.symm
        · exact h4 h5
theorem dropI_len (z : Int) (l : List Int) : (dropI z l).length ≤ l.length := List.length_filter_le _ _
theorem splice_keep : ∀ (vs cur : List Value) (off k : Nat), k ≤ off → (spliceL cur off vs).take k = cur.take k ∧ (spliceL cur off vs).length = cur.length
  | [], cur, off, k, _ => ⟨rfl, rfl⟩
  | v :: vs, cur, off, k, h => by
    obtain ⟨h1, h2⟩ := splice_keep vs (cur.set off v) (off + 1) k (by omega)
    rw [spliceL]
    refine ⟨?_, by rw [h2, List.length_set]⟩
    rw [h1, List.take_set, List.set_eq_of_length_le (by rw [List.length_take]; omega)]
set_option maxHeartbeats 1000000 in
theorem deleteG_fn (m : Mem) (b : Nat) (z : Int) (A : Option Addr) (n c : Nat) (l : List Int) (L1 : Own) (ho : OwnS 3 1 (.slice A n c) (ints .i64 l) L1) :
    Ev.Fn Tryz.prog 75 [.slice A n c, .func (.func 76) #[] #[.pointer (some ⟨b, 0, none⟩)]] m ((b, .cells (toArr [.int .i64 z]) 3 (0, 0)) :: L1)
      fun m' L' u => m' = m ∧ ∃ Lo, L' = (b, .cells (toArr [.int .i64 z]) 3 (0, 0)) :: Lo ∧ OwnS 3 1 u (ints .i64 (dropI z l)) Lo := by
  have hidx := indexFO_fn m b z A n c l L1 ho
  obtain ⟨hn, hnc, hm, hget⟩ := owns_get ho
  have hmx : maxLen = 9223372036854775807 := rfl
  refine Fn.enter (N := 42) hX Tryz.func75 rfl rfl (by show _ ≤ _; simp) (fun w0 hL => ?_)
  conv => whnf
  generalize keys ((b, Obj.cells (toArr [.int .i64 z]) 3 (0, 0)) :: L1) = S0 at hL ⊢
  conv => whnf
  repeat ((first | refine zT ?_ | refine zF ?_ | refine zL hX hL ?_ | refine zB hX hL ?_ | (refine zS hX hL ?_; clear hL; intro w hL) | refine zI ?_ | refine zG hX ?_ | refine zO ?_); conv => whnf)
  refine CallReq.lo hidx hL ?_
  clear hL
  intro w hL
  by_cases hz : z ∈ l
  rotate_left
  · rw [idxI_none l hz]
    conv => whnf
    repeat ((first | refine zT ?_ | refine zF ?_ | refine zL hX hL ?_ | refine zB hX hL ?_ | (refine zS hX hL ?_; clear hL; intro w hL) | refine zI ?_ | refine zG hX ?_ | refine zO ?_); conv => whnf)
    exact RetReq.mk hL ⟨rfl, L1, rfl, by rw [dropI_none hz]; exact ho⟩
  · obtain ⟨i0, hi0⟩ : ∃ i0 : Nat, idxI z l = i0 := ⟨(idxI z l).toNat, by have := (idxI_pos (z := z) l).2 hz; omega⟩
    rw [hi0]
    obtain ⟨hsp, hno⟩ := idxI_spec l i0 hi0
    have hil := (List.getElem?_eq_some_iff.1 hsp).1
    obtain ⟨g, cur, rfl, rfl, hcl, hct, hcg⟩ := hget (fun e => by rw [e] at hil; simp at hil)
    have hd0 : dropI z (l.take (i0 + 1)) = l.take i0 := by
      rw [dropI_take hil, if_pos (List.getElem?_eq_some_iff.1 hsp).2, List.append_nil, dropI_none hno]
    conv => whnf
    repeat ((first | refine zT ?_ | refine zF ?_ | refine zL hX hL ?_ | refine zB hX hL ?_ | (refine zS hX hL ?_; clear hL; intro w hL) | refine zI ?_ | refine zG hX ?_ | refine zO ?_); conv => whnf)
    refine LoopReq.inv hX (fun s : Nat × Nat => [(5, .int .i64 s.1), (6, .int .i64 s.2)]) [0, 1]
      (fun s w => (s.1 < s.2 ∧ s.2 ≤ n ∧ s.1 = (dropI z (l.take s.2)).length) ∧ ∃ cur : List Value, (cur.length = c ∧ cur.take s.1 = ints .i64 (dropI z (l.take s.2)) ∧ ∀ (q : Nat) (y : Int), s.2 ≤ q → l[q]? = some y → cur[q]? = some (.int .i64 y)) ∧
        Ev.Loc m S0 w0 m [(b, .cells (toArr [.int .i64 z]) 3 (0, 0)), (g, .cells (toArr cur) 3 (0, 0))] w) (fun s => n - s.2) (i0, i0 + 1)
      ⟨⟨by simp, by simp only; omega, by simp only; rw [hd0, List.length_take]; omega⟩, cur, ⟨hcl, by
        simp only
        rw [hd0]
        have : cur.take i0 = (cur.take n).take i0 := by rw [List.take_take]; congr 1; omega
        rw [this, hct]; simp [ints, List.map_take], fun q y _ hq => hcg q y hq⟩, hL⟩ ⟨rfl, rfl, trivial⟩ ?_
    clear hL hcl hct hcg
    rintro ⟨i, j⟩ w f ⟨⟨hij, hjn, hie⟩, cur, ⟨hcl, hct, hcg⟩, hL⟩
    simp only at hij hjn hie hct hcg
    conv => whnf
    repeat ((first | refine zT ?_ | refine zF ?_ | refine zL hX hL ?_ | refine zB hX hL ?_ | (refine zS hX hL ?_; clear hL; intro w hL) | refine zI ?_ | refine zG hX ?_ | refine zO ?_); conv => whnf)
    refine BrReq.dec (fun hlt => ?_) (fun hlt => ?_)
    · have hlt' : j < l.length := by simp only at hlt; omega
      have hx := List.getElem?_eq_getElem hlt'
      have hc' := hcg j _ (Nat.le_refl j) hx
      have htk := dropI_take (z := z) hlt'
      generalize l[j] = y at hx hc' htk
      conv => whnf
      repeat ((first | (refine Idx2Req.mk j _ rfl (by simp only at hlt ⊢; omega) rfl ?_) | (refine LdReq.ownC hX rfl rfl hL (.t .h) (by rw [scale_eq, Nat.zero_add, Nat.mul_one]; exact hc') ?_) | refine zT ?_ | refine zF ?_ | refine zL hX hL ?_ | refine zB hX hL ?_ | (refine zS hX hL ?_; clear hL; intro w hL) | refine zI ?_ | refine zG hX ?_ | refine zO ?_); conv => whnf)
      refine CallReq.li (L1 := [(b, .cells (toArr [.int .i64 z]) 3 (0, 0))]) (L2 := [_]) (is_fn m b z y) hL ?_
      clear hL
      intro w hL
      by_cases hyz : y = z
      · rw [decide_eq_true hyz]
        rw [if_pos hyz, List.append_nil] at htk
        conv => whnf
        repeat ((first | refine zT ?_ | refine zF ?_ | refine zL hX hL ?_ | refine zB hX hL ?_ | (refine zS hX hL ?_; clear hL; intro w hL) | refine zI ?_ | refine zG hX ?_ | refine zO ?_); conv => whnf)
        refine ⟨(i, j + 1), ⟨⟨by simp only; omega, by simp only; omega, by simp only; rw [htk]; exact hie⟩, cur, ⟨hcl, by simp only; rw [htk]; exact hct, fun q y hq hy => hcg q y (by simp only at hq; omega) hy⟩, hL⟩, by first | omega | (simp only; omega), ?_, ?_⟩
        · repeat (first | exact trivial | (refine And.intro (by (conv => lhs; whnf) <;> (conv => rhs; whnf) <;> (first | rfl)) ?_))
        · repeat (first | exact trivial | (refine And.intro (by (conv => lhs; whnf) <;> (conv => rhs; whnf) <;> (first | rfl)) ?_))
      · rw [decide_eq_false hyz]
        rw [if_neg hyz] at htk
        conv => whnf
        repeat ((first | refine Idx2Req.mk i _ rfl (by omega) rfl ?_ | refine zT ?_ | refine zF ?_ | refine zL hX hL ?_ | refine zB hX hL ?_ | (refine zS hX hL ?_; clear hL; intro w hL) | refine zI ?_ | refine zG hX ?_ | refine zO ?_); conv => whnf)
        refine StReq.ownAt hX rfl 1 hL rfl rfl (by rw [scale_eq, Nat.zero_add, Nat.mul_one]; show i + 1 ≤ cur.length; omega) rfl ?_
        clear hL
        intro w hL
        replace hL : Ev.Loc m S0 w0 m [(b, .cells (toArr [.int .i64 z]) 3 (0, 0)), (g, .cells (toArr (spliceL cur (0 + scale i 1) [.int .i64 y])) 3 (0, 0))] w := hL
        rw [scale_eq, Nat.zero_add, Nat.mul_one] at hL
        replace hL : Ev.Loc m S0 w0 m [(b, .cells (toArr [.int .i64 z]) 3 (0, 0)), (g, .cells (toArr (cur.set i (.int .i64 y))) 3 (0, 0))] w := hL
        have hct2 : (cur.set i (.int .i64 y)).take (i + 1) = ints .i64 (dropI z (l.take (j + 1))) := by
          rw [htk, ints_append, ← hct, List.take_set, List.take_succ_eq_append_getElem (by omega : i < cur.length), List.set_append_right _ _ (by rw [List.length_take]; omega)]
          rw [List.length_take, show i - min i cur.length = 0 by omega]; rfl
        conv => whnf
        repeat ((first | refine zT ?_ | refine zF ?_ | refine zL hX hL ?_ | refine zB hX hL ?_ | (refine zS hX hL ?_; clear hL; intro w hL) | refine zI ?_ | refine zG hX ?_ | refine zO ?_); conv => whnf)
        refine ⟨(i + 1, j + 1), ⟨⟨by simp only; omega, by simp only; omega, by simp only; rw [htk, List.length_append, ← hie]; rfl⟩, cur.set i (.int .i64 y), ⟨by rw [List.length_set]; exact hcl, hct2, fun q y' hq hy => by rw [List.getElem?_set_ne (by simp only at hq; omega)]; exact hcg q y' (by simp only at hq; omega) hy⟩, hL⟩, by first | omega | (simp only; omega), ?_, ?_⟩
        · repeat (first | exact trivial | (refine And.intro (by (conv => lhs; whnf) <;> (conv => rhs; whnf) <;> (first | rfl)) ?_))
        · repeat (first | exact trivial | (refine And.intro (by (conv => lhs; whnf) <;> (conv => rhs; whnf) <;> (first | rfl)) ?_))
    · have ej : j = n := by simp only at hlt; omega
      subst ej
      rw [hn, List.take_length] at hie hct
      have hin : i < l.length := by omega
      have hci : ¬ c = i := by omega
      have hc0 : ¬ c = 0 := by omega
      conv => whnf
      repeat ((first | refine SlReq.mk i j rfl rfl (by omega) (by omega) ?_ | refine zT ?_ | refine zF ?_ | refine zL hX hL ?_ | refine zB hX hL ?_ | (refine zS hX hL ?_; clear hL; intro w hL) | refine zI ?_ | refine zG hX ?_ | refine zO ?_); conv => whnf)
      have hsl : ([Value.slice (if c = i then some ⟨g, 0, none⟩ else Option.map (fun x : Addr => x.add (scale i 1)) (some ⟨g, 0, none⟩)) (j - i) (c - i)] : List Value) = [.slice (some ⟨g, i, none⟩) (j - i) (c - i)] := by
        rw [if_neg hci]
        show [Value.slice (some ((⟨g, 0, none⟩ : Addr).add (scale i 1))) (j - i) (c - i)] = _
        rw [addr_add, scale_eq, Nat.zero_add, Nat.mul_one]
      refine GenReq.clear (z := .int .i64 0) rfl rfl rfl Tryz.underlying79 (fun w => Tryz.zeroValue3 w) rfl rfl hsl (by omega) 1 hL rfl (by omega) ?_
      clear hL
      intro w hL
      obtain ⟨k1, k2⟩ := splice_keep (List.replicate (j - i) (.int .i64 0)) cur i i (Nat.le_refl _)
      replace hL : Ev.Loc m S0 w0 m [(b, .cells (toArr [.int .i64 z]) 3 (0, 0)), (g, .cells (toArr (spliceL cur i (List.replicate (j - i) (.int .i64 0)))) 3 (0, 0))] w := hL
      generalize spliceL cur i (List.replicate (j - i) (.int .i64 0)) = cur2 at hL k1 k2
      conv => whnf
      repeat ((first | refine SlReq.mk 0 i rfl rfl (by omega) (by omega) ?_ | refine zT ?_ | refine zF ?_ | refine zL hX hL ?_ | refine zB hX hL ?_ | (refine zS hX hL ?_; clear hL; intro w hL) | refine zI ?_ | refine zG hX ?_ | refine zO ?_); conv => whnf)
      refine RetReq.mk hL ⟨rfl, _, rfl, ?_⟩
      show OwnS 3 1 (.slice (if c = 0 then some ⟨g, 0, none⟩ else Option.map (fun x : Addr => x.add (scale 0 1)) (some ⟨g, 0, none⟩)) (i - 0) (c - 0)) _ _
      rw [if_neg hc0]
      have hbk := OwnS.block (te := 3) (size := 1) (g := g) (n := i) (cap := c) (cur := cur2) (by omega) hm (by omega)
      rw [Nat.mul_one, k1, hct] at hbk
      exact hbk
end Go.Proofs.YtpdiljdklllmjaaGreat.ar
