/- A verified evaluator of conditions, part 2: one operation. Conditions: none; over any program whose table of types is the given one. -/
import Derived.Test.YtphgaomacnkfoaaDoorEvA
import Derived.Laws.Entries
namespace Go.Ev
open Go

def rdl (N : Nat) (e : Env) : List Operand → List Value
  | [] => []
  | x :: l => rd N e x :: rdl N e l

theorem rdl_eq (N : Nat) (e : Env) (l : List Operand) : rdl N e l = l.map (rd N e) := by
  induction l with
  | nil => rfl
  | cons x l ih => simp [rdl, ih]

def kn : IntKind → Nat
  | .i8 => 0 | .i16 => 1 | .i32 => 2 | .i64 => 3 | .u8 => 4 | .u16 => 5 | .u32 => 6 | .u64 => 7
def kEq (a b : IntKind) : Bool := Nat.beq (kn a) (kn b)
theorem kEq_eq {a b : IntKind} (h : kEq a b = true) : a = b := by
  cases a <;> cases b <;> first | rfl | (simp [kEq, kn] at h)

/-! ### the program's own words, out of the table -/
section
variable {P : Program} {X : Tab}
theorem tiOf_info' {t : Nat} {ti : TI} (h : tiOf P t = some ti) : ∃ i d z, P.info? t = some i ∧ P.underlying t = some d ∧ i.zero = some z ∧ ti = { d := tdOf d, size := i.size, bytes := i.bytes, zero := z.cells.toList } ∧ badD d = false := by
  unfold tiOf at h
  cases hi : P.info? t with
  | none => simp [hi] at h
  | some i =>
    cases hd : P.underlying t with
    | none => simp [hi, hd] at h
    | some d =>
      cases hz : i.zero with
      | none => simp [hi, hd, hz] at h
      | some z =>
        cases hb : badD d with
        | true => simp [hi, hd, hz, hb] at h
        | false =>
          simp [hi, hd, hz, hb] at h
          exact ⟨i, d, z, rfl, rfl, hz, h.symm, hb⟩
theorem tiOf_info {t : Nat} {ti : TI} (h : tiOf P t = some ti) : ∃ i d z, P.info? t = some i ∧ P.underlying t = some d ∧ i.zero = some z ∧ ti = { d := tdOf d, size := i.size, bytes := i.bytes, zero := z.cells.toList } := by
  obtain ⟨i, d, z, h1, h2, h3, h4, _⟩ := tiOf_info' h
  exact ⟨i, d, z, h1, h2, h3, h4⟩
theorem td_names {t : Nat} {ti : TI} (h : tiOf P t = some ti) {F : Array Field} (hu : P.underlying t = some (.struct F)) : ∀ f ∈ F.toList, f.name ≠ "_" := by
  obtain ⟨i, d, z, _, hu', _, _, hb⟩ := tiOf_info' h
  rw [hu] at hu'
  cases hu'
  intro f hf hc
  simp only [badD] at hb
  rw [Bool.eq_false_iff] at hb
  exact hb (List.any_eq_true.2 ⟨f, hf, by simp [hc]⟩)

theorem run_typeInfo {t : Nat} {i : TypeInfo} (h : P.info? t = some i) (w : World) : (typeInfo t).run P w = .ok i w := by
  simp [typeInfo, h]

theorem run_sizeOf {t : Nat} {ti : TI} (h : tiOf P t = some ti) (w : World) : (sizeOf t).run P w = .ok ti.size w := by
  obtain ⟨i, d, z, hi, _, _, rfl⟩ := tiOf_info h
  simp [sizeOf, run_typeInfo hi]

theorem run_isAgg {t : Nat} {ti : TI} (h : tiOf P t = some ti) (w : World) : (isAgg t).run P w = .ok ti.d.isAgg w := by
  obtain ⟨i, d, z, _, hd, _, rfl⟩ := tiOf_info h
  simp only [isAgg, Sem.run_bind, run_underlying hd, Result.andThen_ok]
  cases d <;> rfl

theorem run_zeroValue {t : Nat} {ti : TI} (h : tiOf P t = some ti) : ∃ z : Value, (∀ w, (zeroValue t).run P w = .ok z w) ∧ z.cells.toList = ti.zero := by
  obtain ⟨i, d, z, hi, _, hz, rfl⟩ := tiOf_info h
  exact ⟨z, fun w => by simp [zeroValue, run_typeInfo hi, hz], rfl⟩

theorem td_slice {t e : Nat} {ti : TI} (h : tiOf P t = some ti) (hd : ti.d = .slice e) : P.underlying t = some (.slice e) := by
  obtain ⟨i, d, z, _, hu, _, rfl⟩ := tiOf_info h
  cases d <;> simp_all [tdOf]
theorem td_array {t n e : Nat} {ti : TI} (h : tiOf P t = some ti) (hd : ti.d = .array n e) : P.underlying t = some (.array n e) := by
  obtain ⟨i, d, z, _, hu, _, rfl⟩ := tiOf_info h
  cases d <;> simp_all [tdOf]
theorem td_str {t : Nat} {ti : TI} (h : tiOf P t = some ti) (hd : ti.d = .str) : P.underlying t = some .string := by
  obtain ⟨i, d, z, _, hu, _, rfl⟩ := tiOf_info h
  cases d <;> simp_all [tdOf]
theorem td_bool {t : Nat} {ti : TI} (h : tiOf P t = some ti) (hd : ti.d = .bool) : P.underlying t = some .bool := by
  obtain ⟨i, d, z, _, hu, _, rfl⟩ := tiOf_info h
  cases d <;> simp_all [tdOf]
theorem td_int {t : Nat} {k : IntKind} {ti : TI} (h : tiOf P t = some ti) (hd : ti.d = .int k) : P.underlying t = some (.int k) := by
  obtain ⟨i, d, z, _, hu, _, rfl⟩ := tiOf_info h
  cases d <;> simp_all [tdOf]
theorem td_map {t k v : Nat} {ti : TI} (h : tiOf P t = some ti) (hd : ti.d = .map k v) : P.underlying t = some (.map k v) := by
  obtain ⟨i, d, z, _, hu, _, rfl⟩ := tiOf_info h
  cases d <;> simp_all [tdOf]
theorem td_struct {t : Nat} {fs : List (Nat × Nat)} {ti : TI} (h : tiOf P t = some ti) (hd : ti.d = .struct fs) :
    ∃ F : Array Field, P.underlying t = some (.struct F) ∧ fs = F.toList.map fun f => (f.offset, f.type) := by
  obtain ⟨i, d, z, _, hu, _, rfl⟩ := tiOf_info h
  cases d <;> simp_all [tdOf]
end

def tyK (X : Tab) (t : Nat) (K : TI → Prop) : Prop := match look X.T t with | some (some ti) => K ti | _ => False
theorem tyK_out {P : Program} {X : Tab} (hX : TabsOk P X) {t : Nat} {K : TI → Prop} (h : tyK X t K) : ∃ ti, tiOf P t = some ti ∧ K ti := by
  unfold tyK at h
  split at h
  · rename_i ti hl; exact ⟨ti, hX.t t ti hl, h⟩
  · exact h.elim

/-! ### a part of a struct or an array -/
def partL (X : Tab) (t : Nat) (l : List Value) (off : Nat) (K : Value → Prop) : Prop :=
  tyK X t fun ti => match ti.d.isAgg with
    | true => K (.agg ((l.drop off).take ti.size).toArray)
    | false => OptReq (look l off) K

theorem partL_run {P : Program} {X : Tab} (hX : TabsOk P X) {t : Nat} {cs : Array Value} {off : Nat} {K : Value → Prop} (h : partL X t cs.toList off K) :
    ∃ v, (∀ w, (part t cs off).run P w = .ok v w) ∧ K v := by
  obtain ⟨ti, ht, h⟩ := tyK_out hX h
  cases hb : ti.d.isAgg
  · simp only [hb] at h
    replace h := h.out
    obtain ⟨v, hv, hk⟩ := h
    rw [look_eq] at hv
    have : cs[off]? = some v := by simpa using hv
    exact ⟨v, fun w => by simp only [part, Sem.run_bind, run_isAgg ht, Result.andThen_ok, hb, Bool.false_eq_true, if_false, this, Sem.run_pure], hk⟩
  · simp only [hb] at h
    refine ⟨.agg (cs.extract off (off + ti.size)), fun w => by simp only [part, Sem.run_bind, run_isAgg ht, Result.andThen_ok, hb, if_true, run_sizeOf ht, Sem.run_pure], ?_⟩
    have : cs.extract off (off + ti.size) = ((cs.toList.drop off).take ti.size).toArray := by
      apply Array.ext'
      rw [Array.toList_extract]
      show List.take _ (List.drop _ _) = _
      simp
    rw [this]; exact h

/-! ### numbers -/
def evInt (P : Program) (o : Oper) (ρ : Operand → Value) (op : BinOp) (k : IntKind) (a : Int) (k' : IntKind) (b : Int) (K : Value → Prop) : Prop :=
  match op with
  | .shl => ShlReq k a b fun n => K (.int k n)
  | .shr => ShrReq k a b fun n => K (.int k n)
  | op => match kEq k k' with
    | false => False
    | true => match op with
      | .add => ArReq k (a + b) fun n => K (.int k n)
      | .sub => ArReq k (a - b) fun n => K (.int k n)
      | .mul => ArReq k (a * b) fun n => K (.int k n)
      | .quo => DivReq k a b fun n => K (.int k n)
      | .rem => RemReq a b fun n => K (.int k n)
      | .and => BitReq .and k a b fun n => K (.int k n)
      | .or => BitReq .or k a b fun n => K (.int k n)
      | .xor => BitReq .xor k a b fun n => K (.int k n)
      | .andNot => BitReq .andNot k a b fun n => K (.int k n)
      | .eql => K (.bool (decide (a = b)))
      | .neq => K (.bool (decide (a ≠ b)))
      | .lss => K (.bool (decide (a < b)))
      | .leq => K (.bool (decide (a ≤ b)))
      | .gtr => K (.bool (decide (b < a)))
      | .geq => K (.bool (decide (b ≤ a)))
      | _ => UGenReq P o ρ K

def evBin (P : Program) (X : Tab) (o : Oper) (ρ : Operand → Value) (op : BinOp) (t : Nat) (x y : Value) (K : Value → Prop) : Prop :=
  match x, y with
  | .int k a, .int k' b => evInt P o ρ op k a k' b K
  | .bool a, .bool b => match op with
    | .eql => tyK X t fun ti => match ti.d with | .bool => K (.bool (a == b)) | _ => False
    | .neq => tyK X t fun ti => match ti.d with | .bool => K (.bool (!(a == b))) | _ => False
    | _ => UGenReq P o ρ K
  | .slice a _ _, .slice none _ _ => match op with
    | .eql => tyK X t fun ti => match ti.d with | .slice _ => K (.bool a.isNone) | _ => False
    | .neq => tyK X t fun ti => match ti.d with | .slice _ => K (.bool (!a.isNone)) | _ => False
    | _ => UGenReq P o ρ K
  | _, _ => UGenReq P o ρ K

theorem evInt_ok {P : Program} {o : Oper} {ρ : Operand → Value} {op : BinOp} {t yt : Nat} {x y : Operand} (ho : o.op = .binOp op t x y yt)
    {k : IntKind} {a : Int} {k' : IntKind} {b : Int} (hx : ρ x = .int k a) (hy : ρ y = .int k' b) {K : Value → Prop}
    (h : evInt P o ρ op k a k' b K) : UOk P o ρ K := by
  have hex : execOp ρ o = (do pure (.value (← (do eqGuard op t x y (.int k a) (.int k' b); binOp op t (.int k a) (.int k' b) : Sem Value)))) := by
    simp only [execOp, ho, hx, hy]
  cases op with
  | shl =>
    unfold evInt at h
    obtain ⟨h1, h2⟩ := h.out
    exact UOk.of_run _ hex (fun w => by simp only [eqGuard_at_int, Sem.run_bind, Sem.run_pure, Result.andThen_ok, binOp, Op.shift]; rw [if_neg (by omega)]; rfl) h2
  | shr =>
    unfold evInt at h
    obtain ⟨h1, h2⟩ := h.out
    exact UOk.of_run _ hex (fun w => by simp only [eqGuard_at_int, Sem.run_bind, Sem.run_pure, Result.andThen_ok, binOp, Op.shift]; rw [if_neg (by omega)]; rfl) h2
  | neq =>
    unfold evInt at h
    cases hk : kEq k k'
    · simp only [hk] at h
    · simp only [hk] at h
      obtain rfl := kEq_eq hk
      have e : ∀ a b : Int, decide (a ≠ b) = (a != b) := fun a b => by rw [Bool.eq_iff_iff]; simp
      rw [e] at h
      exact UOk.of_run _ hex (fun w => by simp only [eqGuard_at_int, Sem.run_bind, Sem.run_pure, Result.andThen_ok, binOp, ne_eq, not_true_eq_false, if_false, Op.intCmp]) h
  | _ =>
    unfold evInt at h
    cases hk : kEq k k'
    · simp only [hk] at h
    · simp only [hk] at h
      obtain rfl := kEq_eq hk
      first
        | exact UGenReq.out h
        | exact UOk.of_run _ hex (fun w => by simp only [eqGuard_at_int, Sem.run_bind, Sem.run_pure, Result.andThen_ok, binOp, ne_eq, not_true_eq_false, if_false, Op.intArith]) (ArReq.out h)
        | (have h := BitReq.out h
           unfold bitsOf at h
           exact UOk.of_run _ hex (fun w => by simp only [eqGuard_at_int, Sem.run_bind, Sem.run_pure, Result.andThen_ok, binOp, ne_eq, not_true_eq_false, if_false, Op.intBits]; try rfl) h)
        | (have h := DivReq.out h
           exact UOk.of_run _ hex (fun w => by simp only [eqGuard_at_int, Sem.run_bind, Sem.run_pure, Result.andThen_ok, binOp, ne_eq, not_true_eq_false, if_false, Op.intDiv, if_neg h.1]; try rfl) h.2)
        | (have h := RemReq.out h
           exact UOk.of_run _ hex (fun w => by simp only [eqGuard_at_int, Sem.run_bind, Sem.run_pure, Result.andThen_ok, binOp, ne_eq, not_true_eq_false, if_false, Op.intDiv, if_neg h.1]; try rfl) h.2)
        | exact UOk.of_run _ hex (fun w => by simp only [eqGuard_at_int, Sem.run_bind, Sem.run_pure, Result.andThen_ok, binOp, ne_eq, not_true_eq_false, if_false, Op.intCmp]; try rfl) h

theorem run_eq_bool {P : Program} {t : Nat} (hu : P.underlying t = some .bool) (a b : Bool) (w : World) : (Op.equal t (.bool a) (.bool b)).run P w = .ok (a == b) w := by
  have h : ∀ d : Nat, (Op.equalIn (d + 1) t (.bool a) (.bool b)).run P w = .ok (a == b) w := fun d => by simp [Op.equalIn, run_underlying hu]
  exact h 9999
theorem run_eq_nil {P : Program} {t e : Nat} (hu : P.underlying t = some (.slice e)) (a : Option Addr) (n m n' m' : Nat) (w : World) :
    (Op.equal t (.slice a n m) (.slice none n' m')).run P w = .ok a.isNone w := by
  have h : ∀ d : Nat, (Op.equalIn (d + 1) t (.slice a n m) (.slice none n' m')).run P w = .ok a.isNone w := fun d => by cases a <;> simp [Op.equalIn, run_underlying hu]
  exact h 9999

theorem evBin_ok {P : Program} {X : Tab} (hX : TabsOk P X) {o : Oper} {ρ : Operand → Value} {op : BinOp} {t yt : Nat} {x y : Operand} (ho : o.op = .binOp op t x y yt)
    {K : Value → Prop} (h : evBin P X o ρ op t (ρ x) (ρ y) K) : UOk P o ρ K := by
  unfold evBin at h
  have hex : ∀ u v, ρ x = u → ρ y = v → execOp ρ o = (do pure (.value (← (do eqGuard op t x y u v; binOp op t u v : Sem Value)))) := by
    intro u v hu hv
    simp only [execOp, ho, hu, hv]
  split at h
  · rename_i hx hy; exact evInt_ok ho hx hy h
  · rename_i a b hx hy
    split at h
    · obtain ⟨ti, ht, h⟩ := tyK_out hX h
      split at h
      · rename_i hd
        exact UOk.of_run _ (hex _ _ hx hy) (fun w => by simp only [eqGuard_at_bool, Sem.run_bind, Sem.run_pure, Result.andThen_ok, binOp, run_eq_bool (td_bool ht hd)]) h
      · exact h.elim
    · obtain ⟨ti, ht, h⟩ := tyK_out hX h
      split at h
      · rename_i hd
        exact UOk.of_run _ (hex _ _ hx hy) (fun w => by simp only [eqGuard_at_bool, Sem.run_bind, Sem.run_pure, Result.andThen_ok, binOp, run_eq_bool (td_bool ht hd)]) h
      · exact h.elim
    · exact UGenReq.out h
  · rename_i a _ _ _ _ hx hy
    split at h
    · obtain ⟨ti, ht, h⟩ := tyK_out hX h
      split at h
      · rename_i hd
        exact UOk.of_run _ (hex _ _ hx hy) (fun w => by simp only [eqGuard_at_slice, Sem.run_bind, Sem.run_pure, Result.andThen_ok, binOp, run_eq_nil (td_slice ht hd)]) h
      · exact h.elim
    · obtain ⟨ti, ht, h⟩ := tyK_out hX h
      split at h
      · rename_i hd
        exact UOk.of_run _ (hex _ _ hx hy) (fun w => by simp only [eqGuard_at_slice, Sem.run_bind, Sem.run_pure, Result.andThen_ok, binOp, run_eq_nil (td_slice ht hd)]) h
      · exact h.elim
    · exact UGenReq.out h
  · exact UGenReq.out h

end Go.Ev
