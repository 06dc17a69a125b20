/- Structs and arrays of numbers held against each other; loads in regions that draw. Conditions: none; over any program. -/
import Derived.Test.YtphgaomacnkfoaaDoorEvI
import Derived.Laws.StructEq
import Derived.ChangeKeysEq
namespace Go.Ev
open Go

/-- The equality of two values of numbers alone, cell by cell. -/
def eqFs (X : Tab) (rec : Nat → List Value → List Value → Option Bool) : List (Nat × Nat) → List Value → List Value → Option Bool
  | [], _, _ => some true
  | f :: fs, xs, ys => match tyO X f.2 with
    | none => none
    | some tf => match rec f.2 ((xs.drop f.1).take tf.size) ((ys.drop f.1).take tf.size) with
      | none => none
      | some b => match eqFs X rec fs xs ys with
        | none => none
        | some c => some (b && c)
def eqAr (rec : List Value → List Value → Option Bool) (size : Nat) : List Nat → List Value → List Value → Option Bool
  | [], _, _ => some true
  | i :: is, xs, ys => match rec ((xs.drop (i * size)).take size) ((ys.drop (i * size)).take size) with
    | none => none
    | some b => match eqAr rec size is xs ys with
      | none => none
      | some c => some (b && c)
def eqB (X : Tab) : Nat → Nat → List Value → List Value → Option Bool
  | 0, _, _, _ => none
  | n + 1, t, xs, ys => match tyO X t with
    | none => none
    | some ti => match ti.d with
      | .int _ => match xs, ys with
        | [.int k a], [.int k' b] => match kEq k k' with | true => some (decide (a = b)) | false => none
        | _, _ => none
      | .bool => match xs, ys with
        | [.bool a], [.bool b] => some (a == b)
        | _, _ => none
      | .struct fs => eqFs X (eqB X n) fs xs ys
      | .array k e => match tyO X e with
        | none => none
        | some te => eqAr (eqB X n e) te.size (List.range k) xs ys
      | _ => none

section
variable {P : Program} {X : Tab}

/-- What is told of the equality of two values of one type. -/
def EqTold (P : Program) (X : Tab) (d t : Nat) (xs ys : List Value) (b : Bool) : Prop :=
  ∀ ti, tyO X t = some ti → match ti.d.isAgg with
    | true => ∀ w, (Op.equalIn d t (.agg (toArr xs)) (.agg (toArr ys))).run P w = .ok b w
    | false => ∃ x y, xs = [x] ∧ ys = [y] ∧ ∀ w, (Op.equalIn d t x y).run P w = .ok b w

theorem part_told (hX : TabsOk P X) {t : Nat} {ti : TI} (ht : tyO X t = some ti) (hd : ti.d.isAgg = true) (cs : List Value) (off : Nat) (w : World) :
    (part t (toArr cs) off).run P w = .ok (.agg (toArr ((cs.drop off).take ti.size))) w := by
  have h := tyO_ok hX ht
  simp only [part, Sem.run_bind, run_isAgg h, Result.andThen_ok, hd, if_true, run_sizeOf h, Sem.run_pure]
  congr 2
  apply Array.ext'
  simp [toArr]
theorem part_one (hX : TabsOk P X) {t : Nat} {ti : TI} (ht : tyO X t = some ti) (hd : ti.d.isAgg = false) {cs : List Value} {off : Nat} {x : Value} (hx : (cs.drop off).take ti.size = [x]) (w : World) :
    (part t (toArr cs) off).run P w = .ok x w := by
  have h := tyO_ok hX ht
  have h0 : (toArr cs)[off]? = some x := by
    have : ((cs.drop off).take ti.size)[0]? = some x := by rw [hx]; rfl
    rw [List.getElem?_take] at this
    split at this
    · simpa [toArr] using this
    · cases this
  simp only [part, Sem.run_bind, run_isAgg h, Result.andThen_ok, hd, Bool.false_eq_true, if_false, h0, Sem.run_pure]

/-- One step: two parts, and whether they are equal. -/
theorem step_told (hX : TabsOk P X) {d t : Nat} {xs ys : List Value} {off size : Nat} {b : Bool} {ti : TI} (ht : tyO X t = some ti) (hs : size = ti.size)
    (h : EqTold P X d t ((xs.drop off).take size) ((ys.drop off).take size) b) :
    ∃ u v, (∀ w, (part t (toArr xs) off).run P w = .ok u w) ∧ (∀ w, (part t (toArr ys) off).run P w = .ok v w) ∧ ∀ w, (Op.equalIn d t u v).run P w = .ok b w := by
  subst hs
  have h := h ti ht
  cases hd : ti.d.isAgg with
  | true =>
    rw [hd] at h
    exact ⟨_, _, fun w => part_told hX ht hd xs off w, fun w => part_told hX ht hd ys off w, h⟩
  | false =>
    rw [hd] at h
    obtain ⟨x, y, h1, h2, h3⟩ := h
    exact ⟨x, y, fun w => part_one hX ht hd h1 w, fun w => part_one hX ht hd h2 w, h3⟩

theorem eqB_told (hX : TabsOk P X) : ∀ (n t : Nat) (xs ys : List Value) (b : Bool), eqB X n t xs ys = some b → ∀ d, EqTold P X (d + n) t xs ys b := by
  intro n
  induction n with
  | zero => intro t xs ys b h; simp [eqB] at h
  | succ n ih =>
    intro t xs ys b h d ti ht
    have hT := tyO_ok hX ht
    have hlook : look X.T t = some (some ti) := by
      unfold tyO at ht
      split at ht
      · rename_i ti' hl; cases ht; exact hl
      · cases ht
    unfold eqB at h
    rw [ht] at h
    simp only at h
    cases hd : ti.d with
    | int k =>
      rw [hd] at h
      simp only at h
      simp only [TD.isAgg]
      split at h
      · rename_i k1 a k2 b'
        split at h
        · rename_i hk
          injection h with h
          subst h
          obtain rfl := kEq_eq hk
          exact ⟨_, _, rfl, rfl, fun w => run_equalIn_int w (d + n) t _ _ a b' (td_int hT hd)⟩
        · cases h
      · cases h
    | bool =>
      rw [hd] at h
      simp only at h
      simp only [TD.isAgg]
      split at h
      · rename_i a b'
        injection h with h
        subst h
        exact ⟨_, _, rfl, rfl, fun w => run_equalIn_bool' w (d + n) t a b' (td_bool hT hd)⟩
      · cases h
    | struct fs =>
      rw [hd] at h
      simp only at h
      simp only [TD.isAgg]
      intro w
      obtain ⟨F, hu, hF⟩ := td_struct hT hd
      have hfo : P.fieldsOf t = F := by simp [Program.fieldsOf, hu]
      have hst : P.stoodInHeld t = false := by have := hX.held t ti hlook; rw [hd] at this; exact this
      rw [show d + (n + 1) = (d + n) + 1 from rfl, run_equalIn_struct w (d + n) t _ _ (by rw [hfo]; exact hu) hst, hfo]
      have hnames := td_names hT hu
      rw [hF] at h
      clear hF hfo hu
      generalize F.toList = G at h hnames
      induction G generalizing b w with
      | nil => simp [eqFs] at h; subst h; simp [Op.eqFields]
      | cons f G ihG =>
        simp only [List.map_cons, eqFs] at h
        cases htf : tyO X f.type with
        | none => rw [htf] at h; cases h
        | some tf =>
          rw [htf] at h
          simp only at h
          cases hb1 : eqB X n f.type ((xs.drop f.offset).take tf.size) ((ys.drop f.offset).take tf.size) with
          | none => rw [hb1] at h; cases h
          | some b1 =>
            rw [hb1] at h
            simp only at h
            cases hb2 : eqFs X (eqB X n) (G.map fun f => (f.offset, f.type)) xs ys with
            | none => rw [hb2] at h; cases h
            | some b2 =>
              rw [hb2] at h
              injection h with h
              subst h
              obtain ⟨u, v, p1, p2, p3⟩ := step_told hX htf rfl (ih _ _ _ _ hb1 d)
              have hn := hnames f (by simp)
              simp only [Op.eqFields, hn, ne_eq, not_false_eq_true, if_true, Sem.run_bind, p1, p2, p3, Result.andThen_ok]
              cases b1
              · simp
              · simp only [Bool.not_true, Bool.false_eq_true, if_false, Bool.true_and]
                exact ihG b2 w hb2 (fun g hg => hnames g (by simp [hg]))
    | array k e =>
      rw [hd] at h
      simp only at h
      simp only [TD.isAgg]
      intro w
      cases hte : tyO X e with
      | none => rw [hte] at h; cases h
      | some te =>
        rw [hte] at h
        simp only at h
        obtain ⟨i, di, z, hi, _, _, _⟩ := tiOf_info (tyO_ok hX hte)
        rw [show d + (n + 1) = (d + n) + 1 from rfl, run_equalIn_array w (d + n) _ _ (td_array hT hd) hi, cellsOf_eq (tyO_ok hX hte)]
        generalize List.range k = is at h
        induction is generalizing b w with
        | nil => simp [eqAr] at h; subst h; simp [Op.eqItems]
        | cons j is ihj =>
          simp only [eqAr] at h
          cases hb1 : eqB X n e ((xs.drop (j * te.size)).take te.size) ((ys.drop (j * te.size)).take te.size) with
          | none => rw [hb1] at h; cases h
          | some b1 =>
            rw [hb1] at h
            simp only at h
            cases hb2 : eqAr (eqB X n e) te.size is xs ys with
            | none => rw [hb2] at h; cases h
            | some b2 =>
              rw [hb2] at h
              injection h with h
              subst h
              obtain ⟨u, v, p1, p2, p3⟩ := step_told hX hte rfl (ih _ _ _ _ hb1 d)
              simp only [Op.eqItems, Sem.run_bind, p1, p2, p3, Result.andThen_ok]
              cases b1
              · simp
              · simp only [Bool.not_true, Bool.false_eq_true, if_false, Bool.true_and]
                exact ihj b2 w hb2
    | _ => rw [hd] at h; simp at h

/-- '==' of two structs, or arrays, of numbers. -/
theorem UGenReq.eqA (hX : TabsOk P X) {o : Oper} {ρ : Operand → Value} {t yt : Nat} {x y : Operand} {xs ys : List Value} {b : Bool} {ti : TI} {K : Value → Prop} (ho : o.op = .binOp .eql t x y yt) (hx : ρ x = .agg (toArr xs)) (hy : ρ y = .agg (toArr ys))
    (hg : P.eqGuardType P.depth t = false) (ht : tyO X t = some ti) (hd : ti.d.isAgg = true) (hb : eqB X 9 t xs ys = some b) (h : K (.bool b)) : UGenReq P o ρ K := by
  have he := eqB_told hX 9 t xs ys b hb 9991 ti ht
  rw [hd] at he
  constructor
  refine UOk.of_run (s := (do eqGuard .eql t x y (.agg (toArr xs)) (.agg (toArr ys)); binOp .eql t (.agg (toArr xs)) (.agg (toArr ys)))) _ (by simp only [execOp, ho, hx, hy]) (fun w => ?_) h
  simp only [Sem.run_bind, run_eqGuard_agg w .eql t x y _ _ hg, Result.andThen_ok, run_eql_struct]
  rw [he w]
  rfl
theorem UGenReq.neA (hX : TabsOk P X) {o : Oper} {ρ : Operand → Value} {t yt : Nat} {x y : Operand} {xs ys : List Value} {b : Bool} {ti : TI} {K : Value → Prop} (ho : o.op = .binOp .neq t x y yt) (hx : ρ x = .agg (toArr xs)) (hy : ρ y = .agg (toArr ys))
    (hg : P.eqGuardType P.depth t = false) (ht : tyO X t = some ti) (hd : ti.d.isAgg = true) (hb : eqB X 9 t xs ys = some b) (h : K (.bool (!b))) : UGenReq P o ρ K := by
  have he := eqB_told hX 9 t xs ys b hb 9991 ti ht
  rw [hd] at he
  constructor
  refine UOk.of_run (s := (do eqGuard .neq t x y (.agg (toArr xs)) (.agg (toArr ys)); binOp .neq t (.agg (toArr xs)) (.agg (toArr ys)))) _ (by simp only [execOp, ho, hx, hy]) (fun w => ?_) h
  simp only [Sem.run_bind, run_eqGuard_agg w .neq t x y _ _ hg, Result.andThen_ok, run_neq_struct]
  rw [he w]
  rfl

/-! ### loads that are taken first -/
variable {m0 m : Mem} {S0 : List Nat} {w0 : World} {L : Own}
theorem QLdReq.one (hX : TabsOk P X) {t : Nat} {ti : TI} (ht : look X.T t = some (some ti)) (hd : ti.d.isAgg = false) {a : Addr} {v : Value} {K : Value → Prop} (hv : mcell m a = some v) (h : K v) :
    QLdReq P t (fun w => Loc m0 S0 w0 m L w) a K := ⟨v, fun _ hw => run_loadVar_one (hX.t _ _ ht) hd (hw.cell hv), h⟩
theorem QLdReq.agg (hX : TabsOk P X) {t : Nat} {ti : TI} (ht : look X.T t = some (some ti)) (hd : ti.d.isAgg = true) {a : Addr} {vs : List Value} {K : Value → Prop} (hl : vs.length = ti.size) (hv : Cells m a vs) (h : K (.agg (toArr vs))) :
    QLdReq P t (fun w => Loc m0 S0 w0 m L w) a K := ⟨_, fun _ hw => run_loadVar_agg (hX.t _ _ ht) hd hl (fun j v hj => hw.cell (hv j v hj)), h⟩
theorem QLdReq.own1 (hX : TabsOk P X) {t : Nat} {ti : TI} (ht : look X.T t = some (some ti)) (hd : ti.d.isAgg = false) (i : Nat) {b off : Nat} {cs : List Value} {te : TypeId} {fz : Nat × Nat} {v : Value} {K : Value → Prop}
    (hi : look L i = some (b, .cells (toArr cs) te fz)) (hv : look cs off = some v) (h : K v) : QLdReq P t (fun w => Loc m0 S0 w0 m L w) ⟨b, off, none⟩ K := by
  rw [look_eq] at hi hv
  refine ⟨v, fun w hw => ?_, h⟩
  have hc := hw.ownCell (i := off) (List.mem_of_getElem? hi)
  exact run_loadVar_one (hX.t _ _ ht) hd (hc.trans (by simpa [toArr] using hv))
theorem QLdReq.ownA (hX : TabsOk P X) {t : Nat} {ti : TI} (ht : look X.T t = some (some ti)) (hd : ti.d.isAgg = true) (i : Nat) {b off : Nat} {cs : List Value} {te : TypeId} {fz : Nat × Nat} {K : Value → Prop}
    (hi : look L i = some (b, .cells (toArr cs) te fz)) (hl : Nat.ble (off + ti.size) cs.length = true) (h : K (.agg (toArr ((cs.drop off).take ti.size)))) : QLdReq P t (fun w => Loc m0 S0 w0 m L w) ⟨b, off, none⟩ K := by
  rw [look_eq] at hi
  have hl := Nat.le_of_ble_eq_true hl
  refine ⟨_, fun w hw => run_loadVar_agg (hX.t _ _ ht) hd (by simp; omega) (fun j v hj => ?_), h⟩
  rw [addr_add]
  have hc := hw.ownCell (i := off + j) (List.mem_of_getElem? hi)
  rw [hc]
  rw [List.getElem?_take] at hj
  split at hj
  · simpa [toArr, List.getElem?_drop] using hj
  · cases hj
theorem AltReq.one {A : Prop} (h : A) : AltReq A True := ⟨⟨h, trivial⟩⟩
theorem SReq.mk {A B : Prop} (h : A) (k : B) : SReq A B := ⟨⟨h, k⟩⟩
end
end Go.Ev
