/- Formulas: which part is ahead, walked, with the world told; cmp for the library's sort. Conditions: none. -/
import Derived.Test.YtnpgllgmcdhmcaaFoPlain
import Derived.Test.YtnpgllgmcdhmcaaTab

namespace Go.Ev
open Go
section
variable {P : Program} {X : Tab} {N : Nat}
/-- What a function's body has to come to, the world told. -/
structure RetW (Q : Value → World → Prop) (v : Value) (w : World) : Prop where
  of ::
  out : Q v w
theorem enterW (hX : TabsOk P X) {f : Nat} {fn : Func} {c : Code} {args : List Value} {w : World} {Q : Value → World → Prop}
    (hf : P.funcs[f]? = some fn) (hb : fn.body = some c) (hN : fn.ntmps = N) (hl : args.length ≤ N)
    (h : ev P X N c (fun e w' => evRes P N e w' fn.results.toList fun vs => RetW Q (resV vs) w') (fun _ _ _ => False)
      (fun e w' => evRes P N e w' fn.results.toList fun vs => RetW Q (resV vs) w') (envOf args) w) :
    Calls P f (toArr args) w fun e w' => ∃ v, e = .returned v ∧ Q v w' := by
  have ha : Agree N (envOf args) { tmps := toArr args ++ Array.replicate (fn.ntmps - (toArr args).size) undef, defers := [] } := by
    have hs : (toArr args).size = args.length := by simp [toArr]
    refine ⟨by simp [hs, hN]; omega, fun i hi => ?_, rfl⟩
    simp only [envOf, look_eq]
    rw [Array.getElem?_append]
    by_cases hlt : i < args.length
    · rw [if_pos (by omega)]
      simp [toArr, hlt]
    · rw [if_neg (by omega), Array.getElem?_replicate, if_pos (by omega)]
      simp [List.getElem?_eq_none (Nat.le_of_not_lt hlt)]
  refine calls_of_wp hf hb (wp_mono (ev_ok hX c _ _ _ _ _ w ha h) fun ex a w' hq => ?_)
  have fin : ∀ e, Agree N e a → (evRes P N e w' fn.results.toList fun vs => RetW Q (resV vs) w') →
      a.defers = [] ∧ ∃ v, (results fn a.tmps).run P w' = .ok v w' ∧ ∃ u, Ending.returned v = .returned u ∧ Q u w' := by
    intro e ha h
    obtain ⟨vs, h1, h2⟩ := run_results ha _ _ h
    replace h2 := h2.out
    refine ⟨ha.defers, resV vs, ?_, resV vs, rfl, h2⟩
    have hm : (fn.results.mapM (resOne a.tmps)).run P w' = .ok vs.toArray w' := by
      rw [← Array.toArray_toList (xs := fn.results), List.mapM_toArray]
      simp only [Sem.run_map, h1, Result.andThen_ok]
    show (do let vs ← fn.results.mapM (resOne a.tmps); pure (if h : vs.size = 1 then vs[0] else .tuple vs) : Sem Value).run P w' = _
    simp only [Sem.run_bind, hm, Result.andThen_ok, Sem.run_pure]
    match vs with
    | [] => rfl
    | [v] => rfl
    | v :: u :: l => simp [resV, toArr]
  cases ex with
  | normal => obtain ⟨e, ha, h⟩ := hq; exact fin e ha h
  | ret => obtain ⟨e, ha, h⟩ := hq; exact fin e ha h
  | exit id => obtain ⟨e, ha, h⟩ := hq; exact h.elim
  | goto l => exact hq.elim
  | panic ch => exact hq.elim
  | outgrown => exact hq.elim
/-- A call in a world that is told: it tells a value, and does nothing. -/
def TellsW (P : Program) (f : Nat) (args : List Value) (w : World) (v : Value) (w' : World) : Prop := Calls P f (toArr args) w fun e w1 => e = .returned v ∧ w1 = w'
theorem CallReq.tells {f : Nat} {args : List Value} {w w' : World} {v : Value} {K : Value → World → Prop} (h : TellsW P f args w v w') (k : K v w') : CallReq P f (toArr args) w K := by
  constructor
  refine h.mono fun e w1 ⟨he, hw⟩ => ?_
  subst he hw
  exact k
theorem LdReq.at_ (hX : TabsOk P X) {w : World} {t : Nat} {ti : TI} (ht : look X.T t = some (some ti)) (hd : ti.d.isAgg = false) {a : Addr} {v : Value} {K : Value → Prop} (hv : w.cell? a = some v) (h : K v) : LdReq P t w a K :=
  ⟨v, run_loadVar_one (hX.t _ _ ht) hd hv, h⟩
theorem NewReq.at_ {w : World} {o : Obj} {K : Nat → World → Prop} (h : K w.heap.size (w.alloc o)) : NewReq w o K := ⟨h⟩
end
end Go.Ev

namespace Go.Proofs.Ytnpgllgmcdhmcaa.fo
open Go Go.Ev Go.Proofs

theorem isNaN_w (z : Int) (w : World) : TellsW Try.prog 51 [.int .i64 z] w (.bool false) w := by
  refine Calls.mono (enterW (N := 6) hX Try.func51 rfl rfl (by show _ ≤ _; simp) (Q := fun v w1 => v = .bool false ∧ w1 = w) ?_) (fun e w1 ⟨v, h1, h2, h3⟩ => ⟨by rw [h1, h2], h3⟩)
  conv => whnf
  conv => whnf
  repeat ((first | refine zT ?_ | refine zF ?_ | refine zL hX hL ?_ | refine zB hX hL ?_ | (refine zS hX hL ?_; clear hL; intro w hL) | refine zI ?_ | refine zG hX ?_ | refine zO ?_); conv => whnf)
  refine ⟨⟨?_, rfl⟩⟩
  show Value.bool (decide (z ≠ z)) = _
  simp
def cmpI (a b : Int) : Int := if a < b then -1 else if b < a then 1 else 0
theorem compare_w (a b : Int) (w : World) : TellsW Try.prog 41 [.int .i64 a, .int .i64 b] w (.int .i64 (cmpI a b)) w := by
  unfold cmpI
  refine Calls.mono (enterW (N := 20) hX Try.func41 rfl rfl (by show _ ≤ _; simp) (Q := fun v w1 => v = .int .i64 (if a < b then -1 else if b < a then 1 else 0) ∧ w1 = w) ?_) (fun e w1 ⟨v, h1, h2, h3⟩ => ⟨by rw [h1, h2], h3⟩)
  conv => whnf
  conv => whnf
  repeat ((first | refine zT ?_ | refine zF ?_ | refine zL hX hL ?_ | refine zB hX hL ?_ | (refine zS hX hL ?_; clear hL; intro w hL) | refine zI ?_ | refine zG hX ?_ | refine zO ?_); conv => whnf)
  refine CallReq.tells (isNaN_w a w) ?_
  conv => whnf
  repeat ((first | refine zT ?_ | refine zF ?_ | refine zL hX hL ?_ | refine zB hX hL ?_ | (refine zS hX hL ?_; clear hL; intro w hL) | refine zI ?_ | refine zG hX ?_ | refine zO ?_); conv => whnf)
  refine CallReq.tells (isNaN_w b w) ?_
  by_cases h1 : a < b
  · rw [if_pos h1]
    conv => whnf
    repeat ((first | refine BrReq.yes h1 ?_ | refine zT ?_ | refine zF ?_ | refine zL hX hL ?_ | refine zB hX hL ?_ | (refine zS hX hL ?_; clear hL; intro w hL) | refine zI ?_ | refine zG hX ?_ | refine zO ?_); conv => whnf)
    exact ⟨⟨rfl, rfl⟩⟩
  · rw [if_neg h1]
    by_cases h2 : b < a
    · rw [if_pos h2]
      conv => whnf
      repeat ((first | refine BrReq.no h1 ?_ | refine BrReq.yes h2 ?_ | refine zT ?_ | refine zF ?_ | refine zL hX hL ?_ | refine zB hX hL ?_ | (refine zS hX hL ?_; clear hL; intro w hL) | refine zI ?_ | refine zG hX ?_ | refine zO ?_); conv => whnf)
      exact ⟨⟨rfl, rfl⟩⟩
    · rw [if_neg h2]
      conv => whnf
      repeat ((first | refine BrReq.no h1 ?_ | refine BrReq.no h2 ?_ | refine zT ?_ | refine zF ?_ | refine zL hX hL ?_ | refine zB hX hL ?_ | (refine zS hX hL ?_; clear hL; intro w hL) | refine zI ?_ | refine zG hX ?_ | refine zO ?_); conv => whnf)
      exact ⟨⟨rfl, rfl⟩⟩
def cmpL : Prt → Prt → Int
  | [], [] => 0
  | [], _ :: _ => -1
  | _ :: _, [] => 1
  | a :: r, b :: q => if cmpI a b ≠ 0 then cmpI a b else cmpL r q
theorem cmpL_w (m : Mem) (w : World) (hp : Pre m [] w) (v1 v2 : Value) (l1 l2 : Prt) (h1 : SlI m .i64 v1 l1) (h2 : SlI m .i64 v2 l2) : TellsW Try.prog 42 [v1, v2] w (.int .i64 (cmpL l1 l2)) w := by
  have hmx : maxLen = 9223372036854775807 := rfl
  have hL := hp.loc
  obtain ⟨A1, n1, c1, rfl, hn1, hc1, hm1, -⟩ := id h1
  obtain ⟨A2, n2, c2, rfl, hn2, hc2, hm2, -⟩ := id h2
  have k1 := h1.cell.2
  have k2 := h2.cell.2
  subst hn1 hn2
  refine Calls.mono (enterW (N := 36) hX Try.func42 rfl rfl (by show _ ≤ _; simp) (Q := fun v w1 => v = .int .i64 (cmpL l1 l2) ∧ w1 = w) ?_) (fun e w1 ⟨v, h1, h2, h3⟩ => ⟨by rw [h1, h2], h3⟩)
  conv => whnf
  conv => whnf
  repeat ((first | refine zT ?_ | refine zF ?_ | refine zL hX hL ?_ | refine zB hX hL ?_ | (refine zS hX hL ?_; clear hL; intro w hL) | refine zI ?_ | refine zG hX ?_ | refine zO ?_); conv => whnf)
  refine LoopReq.inv hX (fun j : Nat => [(11, .int .i64 j)]) [0, 1, 9, 10]
    (fun j w1 => (j ≤ l1.length ∧ j ≤ l2.length ∧ cmpL (l1.drop j) (l2.drop j) = cmpL l1 l2) ∧ w1 = w) (fun j => l1.length - j) 0
    ⟨⟨Nat.zero_le _, Nat.zero_le _, rfl⟩, rfl⟩ ⟨rfl, trivial⟩ ?_
  rintro j w1 f ⟨⟨hj1, hj2, hj⟩, rfl⟩
  conv => whnf
  repeat ((first | refine zT ?_ | refine zF ?_ | refine zL hX hL ?_ | refine zB hX hL ?_ | (refine zS hX hL ?_; clear hL; intro w hL) | refine zI ?_ | refine zG hX ?_ | refine zO ?_); conv => whnf)
  refine BrReq.dec (fun hlt => ?_) (fun hlt => ?_)
  · have hj1' : j < l1.length := by omega
    obtain ⟨a, rfl, ha⟩ := k1 j _ (List.getElem?_eq_getElem hj1')
    have ha' : w1.cell? (a.add (scale j 1)) = some (.int .i64 l1[j]) := by rw [scale_eq, Nat.mul_one]; exact hL.cell ha
    rw [List.drop_eq_getElem_cons hj1'] at hj
    conv => whnf
    repeat ((first | refine Idx2Req.mk j a rfl (by omega) rfl ?_ | refine LdReq.at_ hX rfl rfl ha' ?_ | refine zT ?_ | refine zF ?_ | refine zL hX hL ?_ | refine zB hX hL ?_ | (refine zS hX hL ?_; clear hL; intro w hL) | refine zI ?_ | refine zG hX ?_ | refine zO ?_); conv => whnf)
    by_cases hge : l2.length ≤ j
    · rw [List.drop_eq_nil_of_le hge, cmpL] at hj
      rw [← hj]
      conv => whnf
      repeat ((first | refine BrReq.yes (by omega) ?_ | refine zT ?_ | refine zF ?_ | refine zL hX hL ?_ | refine zB hX hL ?_ | (refine zS hX hL ?_; clear hL; intro w hL) | refine zI ?_ | refine zG hX ?_ | refine zO ?_); conv => whnf)
      exact ⟨⟨rfl, rfl⟩⟩
    have hj2' : j < l2.length := by omega
    obtain ⟨b, rfl, hb⟩ := k2 j _ (List.getElem?_eq_getElem hj2')
    have hb' : w1.cell? (b.add (scale j 1)) = some (.int .i64 l2[j]) := by rw [scale_eq, Nat.mul_one]; exact hL.cell hb
    rw [List.drop_eq_getElem_cons hj2', cmpL] at hj
    conv => whnf
    repeat ((first | refine BrReq.no (by omega) ?_ | refine Idx2Req.mk j b rfl (by omega) rfl ?_ | refine LdReq.at_ hX rfl rfl hb' ?_ | refine zT ?_ | refine zF ?_ | refine zL hX hL ?_ | refine zB hX hL ?_ | (refine zS hX hL ?_; clear hL; intro w hL) | refine zI ?_ | refine zG hX ?_ | refine zO ?_); conv => whnf)
    refine CallReq.tells (compare_w l1[j] l2[j] w1) ?_
    by_cases hz : cmpI l1[j] l2[j] = 0
    · rw [if_neg (fun h => h hz)] at hj
      conv => whnf
      repeat ((first | refine BrReq.no (fun h => h hz) ?_ | refine zT ?_ | refine zF ?_ | refine zL hX hL ?_ | refine zB hX hL ?_ | (refine zS hX hL ?_; clear hL; intro w hL) | refine zI ?_ | refine zG hX ?_ | refine zO ?_); conv => whnf)
      refine ⟨j + 1, ⟨⟨by omega, by omega, hj⟩, rfl⟩, by first | omega | (simp only; omega) | (simp only [List.length_cons, List.length_append]; omega), ?_, ?_⟩
      · repeat (first | exact trivial | (refine And.intro (by (conv => lhs; whnf) <;> (conv => rhs; whnf) <;> (first | rfl)) ?_))
      · repeat (first | exact trivial | (refine And.intro (by (conv => lhs; whnf) <;> (conv => rhs; whnf) <;> (first | rfl)) ?_))
    · rw [if_pos hz] at hj
      rw [← hj]
      conv => whnf
      repeat ((first | refine BrReq.yes (fun h => hz h) ?_ | refine zT ?_ | refine zF ?_ | refine zL hX hL ?_ | refine zB hX hL ?_ | (refine zS hX hL ?_; clear hL; intro w hL) | refine zI ?_ | refine zG hX ?_ | refine zO ?_); conv => whnf)
      exact ⟨⟨rfl, rfl⟩⟩
  · have ej : j = l1.length := by omega
    subst ej
    rw [List.drop_length] at hj
    by_cases hlt2 : l1.length < l2.length
    · rw [List.drop_eq_getElem_cons hlt2, cmpL] at hj
      rw [← hj]
      conv => whnf
      repeat ((first | refine BrReq.yes (by omega) ?_ | refine zT ?_ | refine zF ?_ | refine zL hX hL ?_ | refine zB hX hL ?_ | (refine zS hX hL ?_; clear hL; intro w hL) | refine zI ?_ | refine zG hX ?_ | refine zO ?_); conv => whnf)
      exact ⟨⟨rfl, rfl⟩⟩
    · rw [List.drop_eq_nil_of_le (by omega), cmpL] at hj
      rw [← hj]
      conv => whnf
      repeat ((first | refine BrReq.no (by omega) ?_ | refine zT ?_ | refine zF ?_ | refine zL hX hL ?_ | refine zB hX hL ?_ | (refine zS hX hL ?_; clear hL; intro w hL) | refine zI ?_ | refine zG hX ?_ | refine zO ?_); conv => whnf)
      exact ⟨⟨rfl, rfl⟩⟩
theorem or_w (g : Nat) (x y : Int) (w : World) (h0 : w.cell? ⟨g, 0, none⟩ = some (.int .i64 x)) (h1 : w.cell? ⟨g, 1, none⟩ = some (.int .i64 y)) : TellsW Try.prog 40 [.slice (some ⟨g, 0, none⟩) 2 2] w (.int .i64 (if x ≠ 0 then x else y)) w := by
  refine Calls.mono (enterW (N := 18) hX Try.func40 rfl rfl (by show _ ≤ _; simp) (Q := fun v w1 => v = .int .i64 (if x ≠ 0 then x else y) ∧ w1 = w) ?_) (fun e w1 ⟨v, h1, h2, h3⟩ => ⟨by rw [h1, h2], h3⟩)
  conv => whnf
  conv => whnf
  repeat ((first | refine zT ?_ | refine zF ?_ | refine zL hX hL ?_ | refine zB hX hL ?_ | (refine zS hX hL ?_; clear hL; intro w hL) | refine zI ?_ | refine zG hX ?_ | refine zO ?_); conv => whnf)
  refine LoopReq.inv hX (fun j : Nat => [(8, .int .i64 j)]) [3, 6, 7]
    (fun j w1 => (j ≤ 2 ∧ (1 ≤ j → x = 0) ∧ (2 ≤ j → y = 0)) ∧ w1 = w) (fun j => 2 - j) 0
    ⟨⟨Nat.zero_le _, fun h => by omega, fun h => by omega⟩, rfl⟩ ⟨rfl, trivial⟩ ?_
  rintro j w1 f ⟨⟨hj, hx, hy⟩, rfl⟩
  conv => whnf
  repeat ((first | refine zT ?_ | refine zF ?_ | refine zL hX hL ?_ | refine zB hX hL ?_ | (refine zS hX hL ?_; clear hL; intro w hL) | refine zI ?_ | refine zG hX ?_ | refine zO ?_); conv => whnf)
  refine BrReq.dec (fun hlt => ?_) (fun hlt => ?_)
  · obtain rfl | rfl : j = 0 ∨ j = 1 := by omega
    · have h0' : w1.cell? ((⟨g, 0, none⟩ : Addr).add (scale 0 1)) = some (.int .i64 x) := h0
      conv => whnf
      repeat ((first | refine Idx2Req.mk 0 _ rfl (by omega) rfl ?_ | refine LdReq.at_ hX rfl rfl h0' ?_ | refine zT ?_ | refine zF ?_ | refine zL hX hL ?_ | refine zB hX hL ?_ | (refine zS hX hL ?_; clear hL; intro w hL) | refine zI ?_ | refine zG hX ?_ | refine zO ?_); conv => whnf)
      by_cases hz : x = 0
      · conv => whnf
        repeat ((first | refine BrReq.no (fun h => h hz) ?_ | refine zT ?_ | refine zF ?_ | refine zL hX hL ?_ | refine zB hX hL ?_ | (refine zS hX hL ?_; clear hL; intro w hL) | refine zI ?_ | refine zG hX ?_ | refine zO ?_); conv => whnf)
        refine ⟨1, ⟨⟨by omega, fun _ => hz, fun h => by omega⟩, rfl⟩, by first | omega | (simp only; omega) | (simp only [List.length_cons, List.length_append]; omega), ?_, ?_⟩
        · repeat (first | exact trivial | (refine And.intro (by (conv => lhs; whnf) <;> (conv => rhs; whnf) <;> (first | rfl)) ?_))
        · repeat (first | exact trivial | (refine And.intro (by (conv => lhs; whnf) <;> (conv => rhs; whnf) <;> (first | rfl)) ?_))
      · rw [if_pos hz]
        conv => whnf
        repeat ((first | refine BrReq.yes (fun h => hz h) ?_ | refine zT ?_ | refine zF ?_ | refine zL hX hL ?_ | refine zB hX hL ?_ | (refine zS hX hL ?_; clear hL; intro w hL) | refine zI ?_ | refine zG hX ?_ | refine zO ?_); conv => whnf)
        exact ⟨⟨rfl, rfl⟩⟩
    · have h1' : w1.cell? ((⟨g, 0, none⟩ : Addr).add (scale 1 1)) = some (.int .i64 y) := h1
      rw [if_neg (fun h => h (hx (Nat.le_refl _)))]
      conv => whnf
      repeat ((first | refine Idx2Req.mk 1 _ rfl (by omega) rfl ?_ | refine LdReq.at_ hX rfl rfl h1' ?_ | refine zT ?_ | refine zF ?_ | refine zL hX hL ?_ | refine zB hX hL ?_ | (refine zS hX hL ?_; clear hL; intro w hL) | refine zI ?_ | refine zG hX ?_ | refine zO ?_); conv => whnf)
      by_cases hz : y = 0
      · conv => whnf
        repeat ((first | refine BrReq.no (fun h => h hz) ?_ | refine zT ?_ | refine zF ?_ | refine zL hX hL ?_ | refine zB hX hL ?_ | (refine zS hX hL ?_; clear hL; intro w hL) | refine zI ?_ | refine zG hX ?_ | refine zO ?_); conv => whnf)
        refine ⟨2, ⟨⟨by omega, fun _ => hx (Nat.le_refl _), fun _ => hz⟩, rfl⟩, by first | omega | (simp only; omega) | (simp only [List.length_cons, List.length_append]; omega), ?_, ?_⟩
        · repeat (first | exact trivial | (refine And.intro (by (conv => lhs; whnf) <;> (conv => rhs; whnf) <;> (first | rfl)) ?_))
        · repeat (first | exact trivial | (refine And.intro (by (conv => lhs; whnf) <;> (conv => rhs; whnf) <;> (first | rfl)) ?_))
      · conv => whnf
        repeat ((first | refine BrReq.yes (fun h => hz h) ?_ | refine zT ?_ | refine zF ?_ | refine zL hX hL ?_ | refine zB hX hL ?_ | (refine zS hX hL ?_; clear hL; intro w hL) | refine zI ?_ | refine zG hX ?_ | refine zO ?_); conv => whnf)
        exact ⟨⟨rfl, rfl⟩⟩
  · have ej : j = 2 := by omega
    subst ej
    rw [if_neg (fun h => h (hx (by omega))), hy (by omega)]
    conv => whnf
    repeat ((first | refine zT ?_ | refine zF ?_ | refine zL hX hL ?_ | refine zB hX hL ?_ | (refine zS hX hL ?_; clear hL; intro w hL) | refine zI ?_ | refine zG hX ?_ | refine zO ?_); conv => whnf)
    exact ⟨⟨rfl, rfl⟩⟩
/-- Which part is ahead. -/
def ordI (a b : Prt) : Int := if cmpI a.length b.length ≠ 0 then cmpI a.length b.length else cmpL a b
def ordW (a b : Prt) (w : World) : World := w.alloc (.cells (toArr [.int .i64 (cmpI a.length b.length), .int .i64 (cmpL a b)]) 3 (0, 0))
theorem order_w (m : Mem) (w : World) (hp : Pre m [] w) (v1 v2 : Value) (l1 l2 : Prt) (h1 : SlI m .i64 v1 l1) (h2 : SlI m .i64 v2 l2) : TellsW Try.prog 23 [v1, v2] w (.int .i64 (ordI l1 l2)) (ordW l1 l2 w) := by
  have hmx : maxLen = 9223372036854775807 := rfl
  have hc := cmpL_w m w hp v1 v2 l1 l2 h1 h2
  obtain ⟨A1, n1, c1, rfl, hn1, hc1, hm1, -⟩ := id h1
  obtain ⟨A2, n2, c2, rfl, hn2, hc2, hm2, -⟩ := id h2
  subst hn1 hn2
  unfold ordI ordW
  generalize hx : cmpI l1.length l2.length = x
  refine Calls.mono (enterW (N := 15) hX Try.func23 rfl rfl (by show _ ≤ _; simp) (Q := fun v w1 => v = .int .i64 (if x ≠ 0 then x else cmpL l1 l2) ∧ w1 = w.alloc (.cells (toArr [.int .i64 x, .int .i64 (cmpL l1 l2)]) 3 (0, 0))) ?_) (fun e w1 ⟨v, h1, h2, h3⟩ => ⟨by rw [h1, h2], h3⟩)
  conv => whnf
  have hcw := compare_w l1.length l2.length w
  rw [hx] at hcw
  conv => whnf
  repeat ((first | refine zT ?_ | refine zF ?_ | refine zL hX hL ?_ | refine zB hX hL ?_ | (refine zS hX hL ?_; clear hL; intro w hL) | refine zI ?_ | refine zG hX ?_ | refine zO ?_); conv => whnf)
  refine CallReq.tells hcw ?_
  conv => whnf
  repeat ((first | refine zT ?_ | refine zF ?_ | refine zL hX hL ?_ | refine zB hX hL ?_ | (refine zS hX hL ?_; clear hL; intro w hL) | refine zI ?_ | refine zG hX ?_ | refine zO ?_); conv => whnf)
  refine CallReq.tells hc ?_
  conv => whnf
  repeat ((first | refine zT ?_ | refine zF ?_ | refine zL hX hL ?_ | refine zB hX hL ?_ | (refine zS hX hL ?_; clear hL; intro w hL) | refine zI ?_ | refine zG hX ?_ | refine zO ?_); conv => whnf)
  refine NewReq.at_ ?_
  conv => whnf
  repeat ((first | refine zT ?_ | refine zF ?_ | refine zL hX hL ?_ | refine zB hX hL ?_ | (refine zS hX hL ?_; clear hL; intro w hL) | refine zI ?_ | refine zG hX ?_ | refine zO ?_); conv => whnf)
  refine CallReq.tells (or_w w.heap.size x (cmpL l1 l2) _ ?_ ?_) ?_
  · rw [cell_of_heap (heap_alloc_new w _)]; rfl
  · rw [cell_of_heap (heap_alloc_new w _)]; rfl
  conv => whnf
  repeat ((first | refine zT ?_ | refine zF ?_ | refine zL hX hL ?_ | refine zB hX hL ?_ | (refine zS hX hL ?_; clear hL; intro w hL) | refine zI ?_ | refine zG hX ?_ | refine zO ?_); conv => whnf)
  exact ⟨⟨rfl, rfl⟩⟩
theorem order_fn (m : Mem) (v1 v2 : Value) (l1 l2 : Prt) (h1 : SlI m .i64 v1 l1) (h2 : SlI m .i64 v2 l2) : FnV Try.prog 23 [v1, v2] m (.int .i64 (ordI l1 l2)) := by
  intro w hw
  refine (order_w m w hw v1 v2 l1 l2 h1 h2).mono fun e w' ⟨he, hw'⟩ => ⟨_, m, [], he, ?_, rfl, rfl⟩
  subst hw'
  exact (hw.loc.alloc _).drop

/-! ### what it tells -/
theorem cmpI_neg {a b : Int} : cmpI a b < 0 ↔ a < b := by
  unfold cmpI
  by_cases h : a < b
  · rw [if_pos h]; omega
  · rw [if_neg h]; split <;> omega
theorem cmpI_zero {a b : Int} : cmpI a b = 0 ↔ a = b := by
  unfold cmpI
  by_cases h : a < b
  · rw [if_pos h]; omega
  · rw [if_neg h]; split <;> omega
theorem cmpL_neg : ∀ {a b : Prt}, a.length = b.length → (cmpL a b < 0 ↔ lexB a b = true)
  | [], [], _ => by simp [cmpL, lexB]
  | [], _ :: _, h => by simp at h
  | _ :: _, [], h => by simp at h
  | a :: r, b :: q, h => by
    rw [cmpL, lexB]
    by_cases e : a = b
    · rw [if_neg (fun hn => hn (cmpI_zero.2 e)), if_pos e]; exact cmpL_neg (by simpa using h)
    · rw [if_pos (fun hn => e (cmpI_zero.1 hn)), if_neg e, cmpI_neg, decide_eq_true_iff]
theorem ord_neg {a b : Prt} : ordI a b < 0 ↔ lessP a b := by
  unfold ordI lessP
  by_cases e : a.length = b.length
  · rw [if_neg (fun hn => hn (cmpI_zero.2 (by omega))), cmpL_neg e]
    exact ⟨fun h => .inr ⟨e, h⟩, fun h => h.elim (fun h => by omega) fun h => h.2⟩
  · rw [if_pos (fun hn => e (by have := cmpI_zero.1 hn; omega)), cmpI_neg]
    exact ⟨fun h => .inl (by omega), fun h => h.elim (fun h => by omega) fun h => absurd h.1 e⟩
end Go.Proofs.Ytnpgllgmcdhmcaa.fo
