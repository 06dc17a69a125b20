/- A verified evaluator of conditions, part 18: appends of one row, of a slice of one's own. Conditions: none; over any program. -/
import Derived.Test.YtphgaomacnkfoaaDoorEvQ
namespace Go.Ev
open Go

section
variable {P : Program} {X : Tab} {N : Nat} {m0 m : Mem} {S : List Nat} {w0 w : World} {L : Own}

theorem OwnS.src {te size : Nat} {A : Option Addr} {n c : Nat} {xs : List Value} {L1 L2 : Own} (h : OwnS te size (.slice A n c) xs L1) (hL : Loc m0 S w0 m (L1 ++ L2) w) :
    ∀ (j : Nat) (u : Value), xs[j]? = some u → ∃ a, A = some a ∧ w.cell? (a.add j) = some u := by
  intro j u hu
  obtain ⟨n', hn, ⟨e, h0, _⟩ | ⟨g, cap, cur, e, rfl, h1, h2, h3, h4⟩⟩ := h
  · have := (List.getElem?_eq_some_iff.1 hu).1; rw [hn, h0] at this; omega
  · injection e with e1 e2 e3
    subst e1
    refine ⟨_, rfl, ?_⟩
    rw [addr_add, Nat.zero_add]
    refine (hL.ownCell (b := g) (i := j) (c := toArr cur) (t := te) (f := (0, 0)) (by simp)).trans ?_
    rw [← h4, List.getElem?_take] at hu
    split at hu
    · simpa [toArr] using hu
    · cases hu

/-- One row more. -/
theorem RunReq.push (hX : TabsOk P X) (t te : Nat) {ti tei : TI} {ty : TypeId} (ht : look X.T t = some (some ti)) (hd : ti.d = .slice te) (hte : look X.T te = some (some tei)) (hsz : Nat.blt 0 tei.size = true) (hzs : Nat.beq tei.zero.length tei.size = true)
    {v : Value} {xs r : List Value} {L1 L2 : Own} {g : Nat} {fz : Nat × Nat} {c : Nat} {K : Value → World → Prop}
    (hown : OwnS te tei.size v xs L1) (hL : Loc m0 S w0 m ((g, .cells (toArr r) te fz) :: (L1 ++ L2)) w)
    (hr : Nat.beq r.length tei.size = true) (h1 : r.all Value.oneCell' = true) (hb : xs.length + tei.size ≤ 1099511627776) (hby : Nat.ble tei.bytes (128 * tei.size) = true)
    (h : ∀ A n c L1' w', (xs ++ r).length = n * tei.size → OwnS te tei.size (.slice A n c) (xs ++ r) L1' → Loc m0 S w0 m (L1' ++ L2) w' → K (.slice A n c) w') :
    RunReq P (Builtin.append_ #[t, t] ty (toArr [v, .slice (some ⟨g, 0, none⟩) 1 c])) w K := by
  have hr := Nat.eq_of_beq_eq_true hr
  refine RunReq.append hX t te ht hd hte hsz hzs hown hL.mid (k := 1) (news := r) (by rw [hr, Nat.one_mul]) (hL.src 0 rfl) (fun u hu => (List.all_eq_true.1 h1) u hu) (by rw [hr]; exact hb) hby ?_
  intro A n c L1' w' hn ho hl
  exact h A n c L1' w' hn ho (hl.perm List.perm_middle).drop

/-- A slice of one's own behind another one. -/
theorem RunReq.cat (hX : TabsOk P X) (t te : Nat) {ti tei : TI} {ty : TypeId} (ht : look X.T t = some (some ti)) (hd : ti.d = .slice te) (hte : look X.T te = some (some tei)) (hsz : Nat.blt 0 tei.size = true) (hzs : Nat.beq tei.zero.length tei.size = true)
    {v : Value} {xs ys : List Value} {L1 L2 Ly : Own} {A : Option Addr} {k c : Nat} {K : Value → World → Prop}
    (hown : OwnS te tei.size v xs L1) (hy : OwnS te tei.size (.slice A k c) ys Ly) (hL : Loc m0 S w0 m (Ly ++ (L1 ++ L2)) w)
    (h1 : ∀ u ∈ ys, u.oneCell' = true) (hb : xs.length + ys.length ≤ 1099511627776) (hby : Nat.ble tei.bytes (128 * tei.size) = true)
    (h : ∀ A n c L1' w', (xs ++ ys).length = n * tei.size → OwnS te tei.size (.slice A n c) (xs ++ ys) L1' → Loc m0 S w0 m (L1' ++ L2) w' → K (.slice A n c) w') :
    RunReq P (Builtin.append_ #[t, t] ty (toArr [v, .slice A k c])) w K := by
  obtain ⟨k', hk, hk2⟩ := hy
  have hkk : k' = k := by
    rcases hk2 with ⟨e, h0, _⟩ | ⟨g, cap, cur, e, _⟩
    · injection e with e1 e2 e3; omega
    · injection e with e1 e2 e3; exact e2.symm
  subst hkk
  have hp : (Ly ++ (L1 ++ L2)).Perm (L1 ++ (Ly ++ L2)) := by
    rw [← List.append_assoc, ← List.append_assoc]
    exact List.Perm.append_right _ List.perm_append_comm
  refine RunReq.append hX t te ht hd hte hsz hzs hown (hL.perm hp) (k := k') (news := ys) hk (OwnS.src ⟨k', hk, hk2⟩ hL) h1 hb hby ?_
  intro A n c L1' w' hn ho hl
  refine h A n c L1' w' hn ho ?_
  have hp2 : (L1' ++ (Ly ++ L2)).Perm (Ly ++ (L1' ++ L2)) := by
    rw [← List.append_assoc, ← List.append_assoc]
    exact List.Perm.append_right _ List.perm_append_comm
  exact (hl.perm hp2).dropN

/-- The whole of an array, as a slice. -/
theorem UGenReq.arrAll (hX : TabsOk P X) {o : Oper} {ρ : Operand → Value} {t n el : Nat} {x : Operand} {a : Addr} {ti te : TI} {K : Value → Prop} (ho : o.op = .slice t x none none none) (hx : ρ x = .pointer (some a))
    (ht : look X.T t = some (some ti)) (hd : ti.d = .array n el) (hte : look X.T el = some (some te)) (hn : Nat.blt 0 n = true) (h : K (.slice (some (a.add 0)) n n)) : UGenReq P o ρ K := by
  have hn := blt_lt hn
  have hex : execOp ρ o = (do pure (.value (← Instr.sliceAt t (.pointer (some a)) none none none))) := by simp [execOp, ho, hx]
  refine ⟨UOk.of_run _ hex (fun w => ?_) h⟩
  have hne : ¬ n = 0 := by omega
  simp only [Instr.sliceAt, Sem.run_bind, run_underlying (td_array (hX.t _ _ ht) hd), Result.andThen_ok, run_sizeOf (hX.t _ _ hte), Instr.sliceBounds, Instr.sureAddr]
  simp [hne]

/-- Behind a region that draws: a cut. -/
theorem DrawReq.cut {σ : Type} (vars : σ → List (Nat × Value)) (keep : List Nat) (I : σ → World → Prop) {ops : Array Oper} {k : Env → World → Prop} {e : Env} {w : World}
    (h1 : DrawReq P X N ops (fun e' w' => ∃ s, I s w' ∧ Match (vars s) e' ∧ Keep keep e' e) e w) (h2 : ∀ s w' f, I s w' → k (over (vars s) keep f e) w') : DrawReq P X N ops k e w := by
  constructor
  intro a id ha
  refine wp_mono (h1.out a id ha) fun ex a w hq => ?_
  cases ex with
  | normal =>
    obtain ⟨e', ha, s, hI, hm, hk⟩ := hq
    have := h2 s w e' hI
    rw [over_same hm hk] at this
    exact ⟨e', ha, this⟩
  | _ => exact hq.elim

/-- A region that draws its order, by a plan, where loads are told by what stays. -/
theorem DrawReq.planS (hX : TabsOk P X) {ops : Array Oper} (pl : Plan) {S0 : List Nat} (T : World → Prop) {k : Env → World → Prop} {e : Env}
    (hns : Region.noSelect ops = true) (hp : planOk ops pl ops.size true (Array.replicate ops.size false) = true)
    (hL : Loc m0 S0 w0 m L w) (hS : ∀ w, Loc m0 S0 w0 m L w → T w)
    (h : ∀ w, Loc m0 S0 w0 m L w → evPlan P X N ops.toList T pl k e w) : DrawReq P X N ops k e w := by
  constructor
  intro a id ha
  exact wp_region_held hX.mixed ((evPlan_ok (S := T) hX hns pl ops.size _ e a w.drew (hS _ hL.drew) ha (h _ hL.drew)).1 hp)
theorem QLdReq.told (hX : TabsOk P X) {t : Nat} {ti : TI} (ht : look X.T t = some (some ti)) (hd : ti.d.isAgg = false) {a : Addr} {v : Value} {T : World → Prop} {K : Value → Prop} (hv : ∀ w, T w → w.cell? a = some v) (h : K v) :
    QLdReq P t T a K := ⟨v, fun w hw => run_loadVar_one (hX.t _ _ ht) hd (hv w hw), h⟩

theorem LdReq.whole (hX : TabsOk P X) {t : Nat} {ti : TI} (ht : look X.T t = some (some ti)) (hd : ti.d.isAgg = true) (i : Nat) {b : Nat} {cs : List Value} {te : TypeId} {fz : Nat × Nat} {K : Value → Prop}
    (hL : Loc m0 S w0 m L w) (hi : look L i = some (b, .cells (toArr cs) te fz)) (hl : cs.length = ti.size) (h : K (.agg (toArr cs))) : LdReq P t w ⟨b, 0, none⟩ K := by
  refine LdReq.ownA hX ht hd i hL hi (ble_of (by omega)) ?_
  rw [List.drop_zero, List.take_of_length_le (by omega)]
  exact h
theorem StReq.whole (hX : TabsOk P X) {t : Nat} {ti : TI} (ht : look X.T t = some (some ti)) (i : Nat) {b : Nat} {cs vs : List Value} {te : TypeId} {K : World → Prop}
    (hL : Loc m0 S w0 m L w) (hi : look L i = some (b, .cells (toArr cs) te (0, 0))) (hl : cs.length = ti.size) (hs : vs.length = ti.size) (h1 : vs.all Value.oneCell' = true)
    (h : ∀ w', Loc m0 S w0 m (L.set i (b, .cells (toArr vs) te (0, 0))) w' → K w') : StReq P t w ⟨b, 0, none⟩ (.agg (toArr vs)) K := by
  have e : (Value.agg (toArr vs)).cells.toList = vs := rfl
  refine StReq.own hX ht i hL hi (by rw [e, hs]; exact Nat.beq_refl _) (by rw [e, hs, hl]; exact ble_of (by omega)) (by rw [e]; exact h1) ?_
  intro w' hL'
  have hsp := splice_zero vs cs [] (by omega)
  rw [List.append_nil, List.append_nil] at hsp
  rw [e, hsp] at hL'
  exact h w' hL'
end
end Go.Ev
