/- A verified evaluator of conditions, part 22: structs with strings held against each other. Conditions: none; over any program. -/
import Derived.Test.YtphgaomacnkfoaaDoorEvU
namespace Go.Ev
open Go

def eqS (X : Tab) : Nat → Nat → List Value → List Value → Option Bool
  | 0, _, _, _ => none
  | n + 1, t, xs, ys => match tyO X t with
    | none => none
    | some ti => match ti.d with
      | .int _ => match xs, ys with
        | [.int k a], [.int k' b] => match kEq k k' with | true => some (decide (a = b)) | false => none
        | _, _ => none
      | .bool => match xs, ys with
        | [.bool a], [.bool b] => some (a == b)
        | _, _ => none
      | .str => match xs, ys with
        | [.string a], [.string b] => some (a == b)
        | _, _ => none
      | .struct fs => eqFs X (eqS X n) fs xs ys
      | .array k e => match tyO X e with
        | none => none
        | some te => eqAr (eqS X n e) te.size (List.range k) xs ys
      | _ => none

section
variable {P : Program} {X : Tab}
theorem run_equalIn_str (w : World) (d t : Nat) (a b : ByteArray) (h : P.underlying t = some .string) : (Op.equalIn (d + 1) t (.string a) (.string b)).run P w = .ok (a == b) w := by
  simp [Op.equalIn, run_underlying h]

theorem eqS_told (hX : TabsOk P X) : ∀ (n t : Nat) (xs ys : List Value) (b : Bool), eqS X n t xs ys = some b → ∀ d, EqTold P X (d + n) t xs ys b := by
  intro n
  induction n with
  | zero => intro t xs ys b h; simp [eqS] at h
  | succ n ih =>
    intro t xs ys b h d ti ht
    have hT := tyO_ok hX ht
    have hlook : look X.T t = some (some ti) := by
      unfold tyO at ht
      split at ht
      · rename_i ti' hl; cases ht; exact hl
      · cases ht
    unfold eqS at h
    rw [ht] at h
    simp only at h
    cases hd : ti.d with
    | int k =>
      rw [hd] at h
      simp only at h
      simp only [TD.isAgg]
      split at h
      · rename_i k1 a k2 b'
        split at h
        · rename_i hk
          injection h with h
          subst h
          obtain rfl := kEq_eq hk
          exact ⟨_, _, rfl, rfl, fun w => run_equalIn_int w (d + n) t _ _ a b' (td_int hT hd)⟩
        · cases h
      · cases h
    | bool =>
      rw [hd] at h
      simp only at h
      simp only [TD.isAgg]
      split at h
      · rename_i a b'
        injection h with h
        subst h
        exact ⟨_, _, rfl, rfl, fun w => run_equalIn_bool' w (d + n) t a b' (td_bool hT hd)⟩
      · cases h
    | str =>
      rw [hd] at h
      simp only at h
      simp only [TD.isAgg]
      split at h
      · rename_i a b'
        injection h with h
        subst h
        exact ⟨_, _, rfl, rfl, fun w => run_equalIn_str w (d + n) t a b' (td_str hT hd)⟩
      · cases h
    | struct fs =>
      rw [hd] at h
      simp only at h
      simp only [TD.isAgg]
      intro w
      obtain ⟨F, hu, hF⟩ := td_struct hT hd
      have hfo : P.fieldsOf t = F := by simp [Program.fieldsOf, hu]
      have hst : P.stoodInHeld t = false := by have := hX.held t ti hlook; rw [hd] at this; exact this
      rw [show d + (n + 1) = (d + n) + 1 from rfl, run_equalIn_struct w (d + n) t _ _ (by rw [hfo]; exact hu) hst, hfo]
      have hnames := td_names hT hu
      rw [hF] at h
      clear hF hfo hu
      generalize F.toList = G at h hnames
      induction G generalizing b w with
      | nil => simp [eqFs] at h; subst h; simp [Op.eqFields]
      | cons f G ihG =>
        simp only [List.map_cons, eqFs] at h
        cases htf : tyO X f.type with
        | none => rw [htf] at h; cases h
        | some tf =>
          rw [htf] at h
          simp only at h
          cases hb1 : eqS X n f.type ((xs.drop f.offset).take tf.size) ((ys.drop f.offset).take tf.size) with
          | none => rw [hb1] at h; cases h
          | some b1 =>
            rw [hb1] at h
            simp only at h
            cases hb2 : eqFs X (eqS X n) (G.map fun f => (f.offset, f.type)) xs ys with
            | none => rw [hb2] at h; cases h
            | some b2 =>
              rw [hb2] at h
              injection h with h
              subst h
              obtain ⟨u, v, p1, p2, p3⟩ := step_told hX htf rfl (ih _ _ _ _ hb1 d)
              have hn := hnames f (by simp)
              simp only [Op.eqFields, hn, ne_eq, not_false_eq_true, if_true, Sem.run_bind, p1, p2, p3, Result.andThen_ok]
              cases b1
              · simp
              · simp only [Bool.not_true, Bool.false_eq_true, if_false, Bool.true_and]
                exact ihG b2 w hb2 (fun g hg => hnames g (by simp [hg]))
    | array k e =>
      rw [hd] at h
      simp only at h
      simp only [TD.isAgg]
      intro w
      cases hte : tyO X e with
      | none => rw [hte] at h; cases h
      | some te =>
        rw [hte] at h
        simp only at h
        obtain ⟨i, di, z, hi, _, _, _⟩ := tiOf_info (tyO_ok hX hte)
        rw [show d + (n + 1) = (d + n) + 1 from rfl, run_equalIn_array w (d + n) _ _ (td_array hT hd) hi, cellsOf_eq (tyO_ok hX hte)]
        generalize List.range k = is at h
        induction is generalizing b w with
        | nil => simp [eqAr] at h; subst h; simp [Op.eqItems]
        | cons j is ihj =>
          simp only [eqAr] at h
          cases hb1 : eqS X n e ((xs.drop (j * te.size)).take te.size) ((ys.drop (j * te.size)).take te.size) with
          | none => rw [hb1] at h; cases h
          | some b1 =>
            rw [hb1] at h
            simp only at h
            cases hb2 : eqAr (eqS X n e) te.size is xs ys with
            | none => rw [hb2] at h; cases h
            | some b2 =>
              rw [hb2] at h
              injection h with h
              subst h
              obtain ⟨u, v, p1, p2, p3⟩ := step_told hX hte rfl (ih _ _ _ _ hb1 d)
              simp only [Op.eqItems, Sem.run_bind, p1, p2, p3, Result.andThen_ok]
              cases b1
              · simp
              · simp only [Bool.not_true, Bool.false_eq_true, if_false, Bool.true_and]
                exact ihj b2 w hb2
    | _ => rw [hd] at h; simp at h

/-- '==' of two structs, or arrays, of numbers. -/
theorem UGenReq.eqSA (hX : TabsOk P X) {o : Oper} {ρ : Operand → Value} {t yt : Nat} {x y : Operand} {xs ys : List Value} {b : Bool} {ti : TI} {K : Value → Prop} (ho : o.op = .binOp .eql t x y yt) (hx : ρ x = .agg (toArr xs)) (hy : ρ y = .agg (toArr ys))
    (hg : P.eqGuardType P.depth t = false) (ht : tyO X t = some ti) (hd : ti.d.isAgg = true) (hb : eqS X 9 t xs ys = some b) (h : K (.bool b)) : UGenReq P o ρ K := by
  have he := eqS_told hX 9 t xs ys b hb 9991 ti ht
  rw [hd] at he
  constructor
  refine UOk.of_run (s := (do eqGuard .eql t x y (.agg (toArr xs)) (.agg (toArr ys)); binOp .eql t (.agg (toArr xs)) (.agg (toArr ys)))) _ (by simp only [execOp, ho, hx, hy]) (fun w => ?_) h
  simp only [Sem.run_bind, run_eqGuard_agg w .eql t x y _ _ hg, Result.andThen_ok, run_eql_struct]
  rw [he w]
  rfl
theorem UGenReq.neSA (hX : TabsOk P X) {o : Oper} {ρ : Operand → Value} {t yt : Nat} {x y : Operand} {xs ys : List Value} {b : Bool} {ti : TI} {K : Value → Prop} (ho : o.op = .binOp .neq t x y yt) (hx : ρ x = .agg (toArr xs)) (hy : ρ y = .agg (toArr ys))
    (hg : P.eqGuardType P.depth t = false) (ht : tyO X t = some ti) (hd : ti.d.isAgg = true) (hb : eqS X 9 t xs ys = some b) (h : K (.bool (!b))) : UGenReq P o ρ K := by
  have he := eqS_told hX 9 t xs ys b hb 9991 ti ht
  rw [hd] at he
  constructor
  refine UOk.of_run (s := (do eqGuard .neq t x y (.agg (toArr xs)) (.agg (toArr ys)); binOp .neq t (.agg (toArr xs)) (.agg (toArr ys)))) _ (by simp only [execOp, ho, hx, hy]) (fun w => ?_) h
  simp only [Sem.run_bind, run_eqGuard_agg w .neq t x y _ _ hg, Result.andThen_ok, run_neq_struct]
  rw [he w]
  rfl

end
end Go.Ev
