/- A verified evaluator of conditions, part 17: calls through an interface. Conditions: none; over any program. -/
import Derived.Test.YtphgaomacnkfoaaDoorEvP
namespace Go.Ev
open Go

/-- The method of that name, of a struct's value itself. -/
def mth (P : Program) (t : Nat) (name : String) : Option Nat := match P.info? t, P.underlying t with
  | some i, some (.struct _) => match i.methods.find? (·.name == name) with
    | some m => match m.func, m.path.toList with
      | some (f, false), [] => some f
      | _, _ => none
    | none => none
  | _, _ => none

section
variable {P : Program} {X : Tab} {N : Nat} {m0 m : Mem} {S : List Nat} {w0 w : World} {L : Own}

theorem run_method_val {t f : Nat} {name : String} {v : Value} (h : mth P t name = some f) (n : Nat) (w : World) : (method (n + 1) t v name).run P w = .ok (f, v) w := by
  unfold mth at h
  split at h
  · rename_i i fs hi hu
    split at h
    · rename_i mm hm
      split at h
      · rename_i g hf hp
        cases h
        simp only [method, Sem.run_bind, run_typeInfo hi, Result.andThen_ok, hm, hp, follow, Sem.run_pure, hf, receiverAt, run_underlying hu, Place.get]
      · cases h
    · cases h
  · cases h

theorem GenReq.invoke (hX : TabsOk P X) {o : Oper} {ρ : Operand → Value} {c : Call} {recv : Operand} {name : String} {t f : Nat} {v : Value} {args : List Value} {K : Value → World → Prop}
    (ho : o.op = .call c) (hc : c.callee = .invoke recv name) (hr : ρ recv = .iface t v) (ha : c.args.toList.map ρ = args) (hm : mth P t name = some f) (hg : look X.G f = some true)
    (h : CallReq P f (toArr (v :: args)) w K) : GenReq P o ρ w K := by
  obtain ⟨fnd, h1, h2, h3⟩ := hX.g f hg
  constructor
  unfold OpOk
  have hargs : #[v] ++ (c.args.map ρ) = toArr (v :: args) := by
    apply Array.ext'; rw [Array.toList_append, Array.toList_map, ha]; simp [toArr]
  have hex : execOp ρ o = callMethod (.iface t v) name (c.args.map ρ) := by
    have e0 : (#[Value.iface t v] ++ c.args.map ρ)[0]? = some (.iface t v) := by rw [← Array.getElem?_toList, Array.toList_append]; rfl
    have e1 : (#[Value.iface t v] ++ c.args.map ρ).extract 1 (#[Value.iface t v] ++ c.args.map ρ).size = c.args.map ρ := by
      apply Array.ext'; simp [List.take_of_length_le]
    simp [execOp, ho, resolve, hc, hr]
    unfold Go.invoke
    simp only [e0, e1]
  have hn : ∃ n, P.types.size + Made.depth = n + 1 := ⟨P.types.size + (Made.depth - 1), by unfold Made.depth; omega⟩
  obtain ⟨n, hn⟩ := hn
  have : (callMethod (.iface t v) name (c.args.map ρ)).run P w = .ok (.enter f (toArr (v :: args))) w := by
    have h2' : fnd.body.isNone = false := by cases hb : fnd.body <;> simp_all
    simp only [callMethod, Sem.run_bind, run_program, Result.andThen_ok, hn, run_method_val hm n w, callFunc, h1, h3, h2', Bool.false_eq_true, if_false, Sem.run_pure, hargs]
  rw [hex, this]
  exact h.out

theorem td_ptr {t e : Nat} {ti : TI} (h : tiOf P t = some ti) (hd : ti.d = .ptr e) : P.underlying t = some (.pointer e) := by
  obtain ⟨i, d, z, _, hu, _, rfl⟩ := tiOf_info h
  cases d <;> simp_all [tdOf]
theorem run_eq_nilPtr {t e : Nat} (hu : P.underlying t = some (.pointer e)) (a : Option Addr) (w : World) : (Op.equal t (.pointer a) (.pointer none)).run P w = .ok a.isNone w := by
  have h : ∀ d : Nat, (Op.equalIn (d + 1) t (.pointer a) (.pointer none)).run P w = .ok a.isNone w := fun d => by cases a <;> simp [Op.equalIn, run_underlying hu]
  exact h 9999
/-- Whether a pointer is nil. -/
theorem UGenReq.nilPtr (hX : TabsOk P X) {o : Oper} {ρ : Operand → Value} {t yt : Nat} {x y : Operand} {a : Option Addr} {e : Nat} {ti : TI} {K : Value → Prop} (ho : o.op = .binOp .eql t x y yt) (hx : ρ x = .pointer a) (hy : ρ y = .pointer none)
    (ht : look X.T t = some (some ti)) (hd : ti.d = .ptr e) (h : K (.bool a.isNone)) : UGenReq P o ρ K := by
  have hex : execOp ρ o = (do pure (.value (← (do eqGuard .eql t x y (.pointer a) (.pointer none); binOp .eql t (.pointer a) (.pointer none) : Sem Value)))) := by
    simp only [execOp, ho, hx, hy]
  have hg : eqGuard .eql t x y (.pointer a) (.pointer none) = pure () := by simp [eqGuard]
  refine ⟨UOk.of_run (.bool a.isNone) hex (fun w => ?_) h⟩
  rw [hg]
  simp only [Sem.run_bind, Sem.run_pure, Result.andThen_ok, binOp, run_eq_nilPtr (td_ptr (hX.t _ _ ht) hd)]

theorem GenReq.iface (hX : TabsOk P X) {o : Oper} {ρ : Operand → Value} {x : Operand} {t : Nat} {ti : TI} {fs : List (Nat × Nat)} {v : Value} {K : Value → World → Prop} (ho : o.op = .makeInterface t x) (ht : look X.T t = some (some ti)) (hd : ti.d = .struct fs) (hx : ρ x = v)
    (h : K (.iface t v) w) : GenReq P o ρ w K := by
  obtain ⟨F, hu, _⟩ := td_struct (hX.t _ _ ht) hd
  constructor
  unfold OpOk
  simp only [execOp, ho, hx, Instr.makeInterface, Sem.run_bind, run_underlying hu, Result.andThen_ok, Sem.run_pure, upon]
  exact h
end
end Go.Ev
