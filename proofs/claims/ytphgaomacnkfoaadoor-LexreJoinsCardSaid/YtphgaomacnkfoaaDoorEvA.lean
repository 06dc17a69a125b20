/- A verified evaluator of conditions: what is asked of a world, so that a body of code runs to its end. Part 1: words. Conditions: none; over any program. -/
import Derived.OrdersHeld
import Derived.Tactics
import Derived.Below
import Derived.Laws.Entries
namespace Go.Ev
open Go

abbrev Env := Nat → Value
def put (d : Nat) (v : Value) (e : Env) : Env := fun i => cond (Nat.beq i d) v (e i)
def putO (d : Option Nat) (v : Value) (e : Env) : Env := match d with | none => e | some d => put d v e
def rd (N : Nat) (e : Env) : Operand → Value
  | .tmp t => cond (Nat.blt t N) (e t) undef
  | .const v => v
  | .global g => .pointer (some ⟨g, 0, none⟩)
  | .func f => .func (.func f) #[] #[]

/-- The value is reckoned out before the rest goes on: it makes the terms small, and says nothing. -/
def force (v : Value) (k : Value → Prop) : Prop := match v with
  | .bool x0 => k (.bool x0)
  | .int x0 x1 => k (.int x0 x1)
  | .float x0 x1 => k (.float x0 x1)
  | .complex x0 x1 x2 => k (.complex x0 x1 x2)
  | .string x0 => k (.string x0)
  | .pointer x0 => k (.pointer x0)
  | .slice x0 x1 x2 => k (.slice x0 x1 x2)
  | .map x0 => k (.map x0)
  | .chan x0 => k (.chan x0)
  | .func x0 x1 x2 => k (.func x0 x1 x2)
  | .nilFunc => k (.nilFunc)
  | .iface x0 x1 => k (.iface x0 x1)
  | .nilIface => k (.nilIface)
  | .agg x0 => k (.agg x0)
  | .tuple x0 => k (.tuple x0)
theorem force_eq (v : Value) (k : Value → Prop) : force v k = k v := by cases v <;> rfl
def forceL : List Value → (List Value → Prop) → Prop
  | [], k => k []
  | v :: l, k => force v fun v => forceL l fun l => k (v :: l)
theorem forceL_eq (l : List Value) : ∀ k : List Value → Prop, forceL l k = k l := by
  induction l with
  | nil => intro k; rfl
  | cons v l ih => intro k; simp only [forceL, force_eq, ih]
def forceP : List (Nat × Value) → (List (Nat × Value) → Prop) → Prop
  | [], k => k []
  | (i, x) :: l, k => force x fun v => forceP l fun l => k ((i, v) :: l)
theorem forceP_eq (l : List (Nat × Value)) : ∀ k : List (Nat × Value) → Prop, forceP l k = k l := by
  induction l with
  | nil => intro k; rfl
  | cons v l ih => obtain ⟨i, x⟩ := v; intro k; simp only [forceP, force_eq, ih]

structure Agree (N : Nat) (e : Env) (a : Act) : Prop where
  size : a.tmps.size = N
  at_ : ∀ i, i < N → a.tmps[i]? = some (e i)
  defers : a.defers = []

theorem Agree.eval {N : Nat} {e : Env} {a : Act} (h : Agree N e a) : a.eval = rd N e := by
  funext x
  cases x with
  | tmp t =>
    simp only [Act.eval, rd]
    by_cases ht : t < N
    · have h1 : Nat.blt t N = true := by simpa [Nat.blt_eq] using ht
      simp [Array.getD_eq_getD_getElem?, h.at_ t ht, h1]
    · have h1 : Nat.blt t N = false := by
        rw [Bool.eq_false_iff]; intro hc; exact ht (by simpa [Nat.blt_eq] using hc)
      have hs := h.size
      have : a.tmps[t]? = none := Array.getElem?_eq_none (hs ▸ Nat.le_of_not_lt ht)
      simp [Array.getD_eq_getD_getElem?, this, h1]
  | const v => rfl
  | global g => rfl
  | func f => rfl

theorem Agree.put {N : Nat} {e : Env} {a : Act} (h : Agree N e a) (d : Option Nat) (v : Value) : Agree N (putO d v e) (a.put d v) := by
  cases d with
  | none => exact h
  | some d =>
    refine ⟨by simpa [Act.put] using h.size, fun i hi => ?_, h.defers⟩
    simp only [Act.put, putO, Ev.put, Array.getElem?_setIfInBounds]
    by_cases hd : d = i
    · subst hd
      have hs := h.size
      simp [hs, hi]
    · have hb : Nat.beq i d = false := by
        rw [Bool.eq_false_iff]; intro hc; exact hd (Nat.eq_of_beq_eq_true hc).symm
      simp [hd, hb, h.at_ i hi]

/-! ### types -/
inductive TD where
  | bool
  | int (k : IntKind)
  | str
  | ptr (e : Nat)
  | slice (e : Nat)
  | array (n e : Nat)
  | struct (fs : List (Nat × Nat))
  | map (k v : Nat)
  | func
  | iface
  | other

structure TI where
  d : TD
  size : Nat
  bytes : Nat
  zero : List Value

def tdOf : TypeDesc → TD
  | .bool => .bool
  | .int k => .int k
  | .string => .str
  | .pointer e => .ptr e
  | .slice e => .slice e
  | .array n e => .array n e
  | .struct fs => .struct (fs.toList.map fun f => (f.offset, f.type))
  | .map k v => .map k v
  | .func _ _ _ => .func
  | .interface _ => .iface
  | _ => .other

def badD : TypeDesc → Bool
  | .struct fs => fs.toList.any (fun f => f.name == "_")
  | _ => false

def tiOf (P : Program) (t : Nat) : Option TI :=
  match P.info? t, P.underlying t with
  | some i, some d => match i.zero, badD d with
    | some z, false => some { d := tdOf d, size := i.size, bytes := i.bytes, zero := z.cells.toList }
    | _, _ => none
  | _, _ => none

def look {α : Type} : List α → Nat → Option α
  | [], _ => none
  | x :: _, 0 => some x
  | _ :: l, n + 1 => look l n

theorem look_eq {α : Type} (l : List α) (n : Nat) : look l n = l[n]? := by
  induction l generalizing n with
  | nil => simp [look]
  | cons x l ih => cases n with
    | zero => simp [look]
    | succ n => simpa [look] using ih n

def TD.isAgg : TD → Bool
  | .struct _ => true
  | .array _ _ => true
  | _ => false

/-- The table is the program's. -/
def TabOk (P : Program) (T : List (Option TI)) : Prop := ∀ t ti, look T t = some (some ti) → tiOf P t = some ti

def FnsOk (P : Program) (G : List Bool) : Prop := ∀ f, look G f = some true → ∃ fn, P.funcs[f]? = some fn ∧ fn.body.isSome = true ∧ (fn.name == "runtime.NumGoroutine") = false

def tabAll (P : Program) : Nat → List (Option TI) → Prop
  | _, [] => True
  | i, none :: l => tabAll P (i + 1) l
  | i, some ti :: l => tiOf P i = some ti ∧ tabAll P (i + 1) l
theorem tabAll_ok {P : Program} : ∀ (l : List (Option TI)) (i : Nat), tabAll P i l → ∀ t ti, look l t = some (some ti) → tiOf P (i + t) = some ti
  | [], _, _, t, ti, h => by simp [look] at h
  | none :: l, i, ha, t, ti, h => by
    cases t with
    | zero => simp [look] at h
    | succ t => have := tabAll_ok l (i + 1) ha t ti h; rwa [show i + (t + 1) = i + 1 + t from by omega]
  | some x :: l, i, ha, t, ti, h => by
    cases t with
    | zero => simp [look] at h; subst h; exact ha.1
    | succ t => have := tabAll_ok l (i + 1) ha.2 t ti h; rwa [show i + (t + 1) = i + 1 + t from by omega]
def fnOne (P : Program) (f : Nat) : Prop := ∃ fn, P.funcs[f]? = some fn ∧ fn.body.isSome = true ∧ (fn.name == "runtime.NumGoroutine") = false
def fnAll (P : Program) : Nat → List Bool → Prop
  | _, [] => True
  | i, false :: l => fnAll P (i + 1) l
  | i, true :: l => fnOne P i ∧ fnAll P (i + 1) l
theorem fnAll_ok {P : Program} : ∀ (l : List Bool) (i : Nat), fnAll P i l → ∀ f, look l f = some true → fnOne P (i + f)
  | [], _, _, f, h => by simp [look] at h
  | false :: l, i, ha, f, h => by
    cases f with
    | zero => simp [look] at h
    | succ f => have := fnAll_ok l (i + 1) ha f h; rwa [show i + (f + 1) = i + 1 + f from by omega]
  | true :: l, i, ha, f, h => by
    cases f with
    | zero => exact ha.1
    | succ f => have := fnAll_ok l (i + 1) ha.2 f h; rwa [show i + (f + 1) = i + 1 + f from by omega]

structure Tab where
  T : List (Option TI)
  G : List Bool

def heldOne (P : Program) (i : Nat) : TD → Prop
  | .struct _ => P.stoodInHeld i = false
  | _ => True
def heldAll (P : Program) : Nat → List (Option TI) → Prop
  | _, [] => True
  | i, none :: l => heldAll P (i + 1) l
  | i, some ti :: l => heldOne P i ti.d ∧ heldAll P (i + 1) l
theorem heldAll_ok {P : Program} : ∀ (l : List (Option TI)) (i : Nat), heldAll P i l → ∀ t ti, look l t = some (some ti) → heldOne P (i + t) ti.d
  | [], _, _, t, ti, h => by simp [look] at h
  | none :: l, i, ha, t, ti, h => by
    cases t with
    | zero => simp [look] at h
    | succ t => have := heldAll_ok l (i + 1) ha t ti h; rwa [show i + (t + 1) = i + 1 + t from by omega]
  | some x :: l, i, ha, t, ti, h => by
    cases t with
    | zero => simp [look] at h; subst h; exact ha.1
    | succ t => have := heldAll_ok l (i + 1) ha.2 t ti h; rwa [show i + (t + 1) = i + 1 + t from by omega]

structure TabsOk (P : Program) (X : Tab) : Prop where
  t : TabOk P X.T
  g : FnsOk P X.G
  held : ∀ t ti, look X.T t = some (some ti) → heldOne P t ti.d
  mixed : P.follows .mixedOrders = true

def ty (X : Tab) (t : Nat) (K : TI → Prop) : Prop := match look X.T t with | some (some ti) => K ti | _ => False
def tyO (X : Tab) (t : Nat) : Option TI := match look X.T t with | some (some ti) => some ti | _ => none

/-! ### what is asked -/
structure LdReq (P : Program) (t : Nat) (w : World) (a : Addr) (K : Value → Prop) : Prop where
  of ::
  out : ∃ v, (loadVar t a).run P w = .ok v w ∧ K v
structure StReq (P : Program) (t : Nat) (w : World) (a : Addr) (v : Value) (K : World → Prop) : Prop where
  of ::
  out : ∃ w', (storeVar t a v).run P w = .ok () w' ∧ K w'
structure NewReq (w : World) (o : Obj) (K : Nat → World → Prop) : Prop where
  of ::
  out : K w.heap.size (w.alloc o)
structure RunReq (P : Program) (s : Sem Value) (w : World) (K : Value → World → Prop) : Prop where
  of ::
  out : ∃ v w', s.run P w = .ok v w' ∧ K v w'
structure RunUReq (P : Program) (s : Sem Unit) (w : World) (K : World → Prop) : Prop where
  of ::
  out : ∃ w', s.run P w = .ok () w' ∧ K w'
structure ArReq (k : IntKind) (n : Int) (K : Int → Prop) : Prop where
  of ::
  out : K (k.wrap n)
structure DivReq (k : IntKind) (a b : Int) (K : Int → Prop) : Prop where
  of ::
  out : b ≠ 0 ∧ K (k.wrap (a.tdiv b))
structure RemReq (a b : Int) (K : Int → Prop) : Prop where
  of ::
  out : b ≠ 0 ∧ K (a.tmod b)
structure ShlReq (k : IntKind) (a b : Int) (K : Int → Prop) : Prop where
  of ::
  out : 0 ≤ b ∧ K (k.wrap (a * 2 ^ (min b.toNat k.bits)))
structure ShrReq (k : IntKind) (a b : Int) (K : Int → Prop) : Prop where
  of ::
  out : 0 ≤ b ∧ K (a.fdiv (2 ^ (min b.toNat k.bits)))
def bitsOf (op : BinOp) (k : IntKind) (x y : Int) : Int :=
  let a := BitVec.ofInt k.bits x
  let b := BitVec.ofInt k.bits y
  match op with
  | .and => k.wrap ((a &&& b).toNat : Int)
  | .or => k.wrap ((a ||| b).toNat : Int)
  | .xor => k.wrap ((a ^^^ b).toNat : Int)
  | .andNot => k.wrap ((a &&& ~~~b).toNat : Int)
  | _ => 0
structure BitReq (op : BinOp) (k : IntKind) (a b : Int) (K : Int → Prop) : Prop where
  of ::
  out : K (bitsOf op k a b)
structure BrQ (A B : Prop) (b : Bool) : Prop where
  of ::
  out : (b = true → A) ∧ (b = false → B)
abbrev BrReq (b : Bool) (A B : Prop) : Prop := BrQ A B b
structure CallReq (P : Program) (f : Nat) (args : Array Value) (w : World) (K : Value → World → Prop) : Prop where
  of ::
  out : Calls P f args w fun e w' => match e with | .returned v => K v w' | _ => False
structure IdxReq (i : Int) (n : Nat) (K : Nat → Prop) : Prop where
  of ::
  out : ∃ j : Nat, i = (j : Int) ∧ j < n ∧ K j
structure SlReq (lo hi : Int) (n : Nat) (K : Nat → Nat → Prop) : Prop where
  of ::
  out : ∃ l h : Nat, lo = (l : Int) ∧ hi = (h : Int) ∧ l ≤ h ∧ h ≤ n ∧ K l h
structure StrIdxReq (s : ByteArray) (i : Int) (K : Nat → Prop) : Prop where
  of ::
  out : ∃ (j : Nat) (b : UInt8), i = (j : Int) ∧ s.data[j]? = some b ∧ K b.toNat
structure OptReq (x : Option Value) (K : Value → Prop) : Prop where
  of ::
  out : ∃ v, x = some v ∧ K v

/-- The whole of an operation. -/
def upon (P : Program) (K : Value → World → Prop) : Result Next → Prop
  | .ok (.value v) w' => K v w'
  | .ok .skip w' => K undef w'
  | .ok (.enter f args) w' => Calls P f args w' fun e w'' => match e with | .returned v => K v w'' | _ => False
  | _ => False
def OpOk (P : Program) (o : Oper) (ρ : Operand → Value) (w : World) (K : Value → World → Prop) : Prop := upon P K ((execOp ρ o).run P w)
structure GenReq (P : Program) (o : Oper) (ρ : Operand → Value) (w : World) (K : Value → World → Prop) : Prop where
  of ::
  out : OpOk P o ρ w K

/-- An operation that yields one value, in every world, and does nothing else. -/
def UOk (P : Program) (o : Oper) (ρ : Operand → Value) (K : Value → Prop) : Prop := ∃ v, (∀ w, (execOp ρ o).run P w = .ok (.value v) w) ∧ K v
structure UGenReq (P : Program) (o : Oper) (ρ : Operand → Value) (K : Value → Prop) : Prop where
  of ::
  out : UOk P o ρ K
theorem UOk.of_run {P : Program} {o : Oper} {ρ : Operand → Value} {K : Value → Prop} {s : Sem Value} (v : Value) (ho : execOp ρ o = (do pure (.value (← s)))) (hr : ∀ w, s.run P w = .ok v w) (h : K v) : UOk P o ρ K := by
  refine ⟨v, fun w => ?_, h⟩
  rw [ho]
  simp only [Sem.run_bind, hr w, Result.andThen_ok, Sem.run_pure]

theorem OpOk.mono {P : Program} {o : Oper} {ρ : Operand → Value} {w : World} {K K' : Value → World → Prop} (h : OpOk P o ρ w K) (hk : ∀ v w, K v w → K' v w) : OpOk P o ρ w K' := by
  unfold OpOk at *
  generalize (execOp ρ o).run P w = r at *
  cases r with
  | ok n w' =>
    cases n <;> simp only [upon] at h ⊢
    case value v => exact hk _ _ h
    case skip => exact hk _ _ h
    case enter f args => exact h.mono fun e w'' he => by cases e <;> first | exact hk _ _ he | exact he.elim
  | halt x w' => simp only [upon] at h

theorem OpOk.wp {P : Program} {o : Oper} {a : Act} {w : World} {next : Act → World → Prop} {Q : Exit → Act → World → Prop}
    (h : OpOk P o a.eval w fun v w' => next (a.put o.dst v) w') : o.wp P a w next Q := by
  unfold OpOk at h
  unfold Oper.wp
  generalize (execOp a.eval o).run P w = r at *
  cases r with
  | ok n w' =>
    cases n <;> simp only [upon] at h <;> simp only [Oper.upon]
    case value v => exact h
    case skip => exact h
    case enter f args => exact h.mono fun e w'' he => by cases e <;> first | exact he | exact he.elim
    all_goals exact h.elim
  | halt x w' => simp only [upon] at h

end Go.Ev
