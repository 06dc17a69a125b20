/- ToolRefuses: part 1 of 10 of the proof. Conditions: none. -/
import Derived.OrdersHeld
import Derived.Tactics
import Derived.Below
import Derived.Laws.Entries
import Derived.Deep.LoopGhost
import Derived.Laws.AppendOwn
import Derived.Laws.MakeOwn
import Derived.ProofKit
import Derived.Deep.Slices
import Derived.ShutString
import Derived.OpenShut
import Derived.SizedLaws
import Derived.Maps.AppendAt
import Derived.Laws.StructEq
import Derived.ChangeKeysEq
import Derived.MapKept
import Derived.Maps.RangeRun
import Derived.Laws.IdiomStrings
import Derived.Laws.Strings
namespace Go.Ev
open Go
abbrev Env := Nat → Value
def put (d : Nat) (v : Value) (e : Env) : Env := fun i => cond (Nat.beq i d) v (e i)
def putO (d : Option Nat) (v : Value) (e : Env) : Env := match d with | none => e | some d => put d v e
def rd (N : Nat) (e : Env) : Operand → Value
  | .tmp t => cond (Nat.blt t N) (e t) undef
  | .const v => v
  | .global g => .pointer (some ⟨g, 0, none⟩)
  | .func f => .func (.func f) #[] #[]
def force (v : Value) (k : Value → Prop) : Prop := match v with
  | .bool x0 => k (.bool x0)
  | .int x0 x1 => k (.int x0 x1)
  | .float x0 x1 => k (.float x0 x1)
  | .complex x0 x1 x2 => k (.complex x0 x1 x2)
  | .string x0 => k (.string x0)
  | .pointer x0 => k (.pointer x0)
  | .slice x0 x1 x2 => k (.slice x0 x1 x2)
  | .map x0 => k (.map x0)
  | .chan x0 => k (.chan x0)
  | .func x0 x1 x2 => k (.func x0 x1 x2)
  | .nilFunc => k (.nilFunc)
  | .iface x0 x1 => k (.iface x0 x1)
  | .nilIface => k (.nilIface)
  | .agg x0 => k (.agg x0)
  | .tuple x0 => k (.tuple x0)
theorem force_eq (v : Value) (k : Value → Prop) : force v k = k v := by cases v <;> rfl
def forceL : List Value → (List Value → Prop) → Prop
  | [], k => k []
  | v :: l, k => force v fun v => forceL l fun l => k (v :: l)
theorem forceL_eq (l : List Value) : ∀ k : List Value → Prop, forceL l k = k l := by
  induction l with
  | nil => intro k; rfl
  | cons v l ih => intro k; simp only [forceL, force_eq, ih]
def forceP : List (Nat × Value) → (List (Nat × Value) → Prop) → Prop
  | [], k => k []
  | (i, x) :: l, k => force x fun v => forceP l fun l => k ((i, v) :: l)
theorem forceP_eq (l : List (Nat × Value)) : ∀ k : List (Nat × Value) → Prop, forceP l k = k l := by
  induction l with
  | nil => intro k; rfl
  | cons v l ih => obtain ⟨i, x⟩ := v; intro k; simp only [forceP, force_eq, ih]
structure Agree (N : Nat) (e : Env) (a : Act) : Prop where
  size : a.tmps.size = N
  at_ : ∀ i, i < N → a.tmps[i]? = some (e i)
  defers : a.defers = []
theorem Agree.eval {N : Nat} {e : Env} {a : Act} (h : Agree N e a) : a.eval = rd N e := by
  funext x
  cases x with
  | tmp t =>
    simp only [Act.eval, rd]
    by_cases ht : t < N
    · have h1 : Nat.blt t N = true := by simpa [Nat.blt_eq] using ht
      simp [Array.getD_eq_getD_getElem?, h.at_ t ht, h1]
    · have h1 : Nat.blt t N = false := by
        rw [Bool.eq_false_iff]; intro hc; exact ht (by simpa [Nat.blt_eq] using hc)
      have hs := h.size
      have : a.tmps[t]? = none := Array.getElem?_eq_none (hs ▸ Nat.le_of_not_lt ht)
      simp [Array.getD_eq_getD_getElem?, this, h1]
  | const v => rfl
  | global g => rfl
  | func f => rfl
theorem Agree.put {N : Nat} {e : Env} {a : Act} (h : Agree N e a) (d : Option Nat) (v : Value) : Agree N (putO d v e) (a.put d v) := by
  cases d with
  | none => exact h
  | some d =>
    refine ⟨by simpa [Act.put] using h.size, fun i hi => ?_, h.defers⟩
    simp only [Act.put, putO, Ev.put, Array.getElem?_setIfInBounds]
    by_cases hd : d = i
    · subst hd
      have hs := h.size
      simp [hs, hi]
    · have hb : Nat.beq i d = false := by
        rw [Bool.eq_false_iff]; intro hc; exact hd (Nat.eq_of_beq_eq_true hc).symm
      simp [hd, hb, h.at_ i hi]
inductive TD where
  | bool
  | int (k : IntKind)
  | str
  | ptr (e : Nat)
  | slice (e : Nat)
  | array (n e : Nat)
  | struct (fs : List (Nat × Nat))
  | map (k v : Nat)
  | func
  | iface
  | other
structure TI where
  d : TD
  size : Nat
  bytes : Nat
  zero : List Value
def tdOf : TypeDesc → TD
  | .bool => .bool
  | .int k => .int k
  | .string => .str
  | .pointer e => .ptr e
  | .slice e => .slice e
  | .array n e => .array n e
  | .struct fs => .struct (fs.toList.map fun f => (f.offset, f.type))
  | .map k v => .map k v
  | .func _ _ _ => .func
  | .interface _ => .iface
  | _ => .other
def badD : TypeDesc → Bool
  | .struct fs => fs.toList.any (fun f => f.name == "_")
  | _ => false
def tiOf (P : Program) (t : Nat) : Option TI :=
  match P.info? t, P.underlying t with
  | some i, some d => match i.zero with
    | some z => some { d := tdOf d, size := i.size, bytes := i.bytes, zero := z.cells.toList }
    | _ => none
  | _, _ => none
def blankD (P : Program) (t : Nat) : Bool := match P.underlying t with
  | some d => badD d
  | none => false
def look {α : Type} : List α → Nat → Option α
  | [], _ => none
  | x :: _, 0 => some x
  | _ :: l, n + 1 => look l n
theorem look_eq {α : Type} (l : List α) (n : Nat) : look l n = l[n]? := by
  induction l generalizing n with
  | nil => simp [look]
  | cons x l ih => cases n with
    | zero => simp [look]
    | succ n => simpa [look] using ih n
def TD.isAgg : TD → Bool
  | .struct _ => true
  | .array _ _ => true
  | _ => false
def TabOk (P : Program) (T : List (Option TI)) : Prop := ∀ t ti, look T t = some (some ti) → tiOf P t = some ti
def FnsOk (P : Program) (G : List Bool) : Prop := ∀ f, look G f = some true → ∃ fn, P.funcs[f]? = some fn ∧ fn.body.isSome = true ∧ (fn.name == "runtime.NumGoroutine") = false
def tabAll (P : Program) : Nat → List (Option TI) → Prop
  | _, [] => True
  | i, none :: l => tabAll P (i + 1) l
  | i, some ti :: l => tiOf P i = some ti ∧ tabAll P (i + 1) l
theorem tabAll_ok {P : Program} : ∀ (l : List (Option TI)) (i : Nat), tabAll P i l → ∀ t ti, look l t = some (some ti) → tiOf P (i + t) = some ti
  | [], _, _, t, ti, h => by simp [look] at h
  | none :: l, i, ha, t, ti, h => by
    cases t with
    | zero => simp [look] at h
    | succ t => have := tabAll_ok l (i + 1) ha t ti h; rwa [show i + (t + 1) = i + 1 + t from by omega]
  | some x :: l, i, ha, t, ti, h => by
    cases t with
    | zero => simp [look] at h; subst h; exact ha.1
    | succ t => have := tabAll_ok l (i + 1) ha.2 t ti h; rwa [show i + (t + 1) = i + 1 + t from by omega]
def fnOne (P : Program) (f : Nat) : Prop := ∃ fn, P.funcs[f]? = some fn ∧ fn.body.isSome = true ∧ (fn.name == "runtime.NumGoroutine") = false
def fnAll (P : Program) : Nat → List Bool → Prop
  | _, [] => True
  | i, false :: l => fnAll P (i + 1) l
  | i, true :: l => fnOne P i ∧ fnAll P (i + 1) l
theorem fnAll_ok {P : Program} : ∀ (l : List Bool) (i : Nat), fnAll P i l → ∀ f, look l f = some true → fnOne P (i + f)
  | [], _, _, f, h => by simp [look] at h
  | false :: l, i, ha, f, h => by
    cases f with
    | zero => simp [look] at h
    | succ f => have := fnAll_ok l (i + 1) ha f h; rwa [show i + (f + 1) = i + 1 + f from by omega]
  | true :: l, i, ha, f, h => by
    cases f with
    | zero => exact ha.1
    | succ f => have := fnAll_ok l (i + 1) ha.2 f h; rwa [show i + (f + 1) = i + 1 + f from by omega]
structure Tab where
  T : List (Option TI)
  G : List Bool
  E : List Nat
def inE (E : List Nat) (t : Nat) : Bool := E.any fun i => Nat.beq i t
def heldOne (P : Program) (i : Nat) : TD → Prop
  | .struct _ => P.stoodInHeld i = false ∧ blankD P i = false
  | _ => True
def heldAll (P : Program) (E : List Nat) : Nat → List (Option TI) → Prop
  | _, [] => True
  | i, none :: l => heldAll P E (i + 1) l
  | i, some ti :: l => (inE E i = false → heldOne P i ti.d) ∧ heldAll P E (i + 1) l
theorem heldAll_ok {P : Program} {E : List Nat} : ∀ (l : List (Option TI)) (i : Nat), heldAll P E i l → ∀ t ti, look l t = some (some ti) → inE E (i + t) = false → heldOne P (i + t) ti.d
  | [], _, _, t, ti, h => by simp [look] at h
  | none :: l, i, ha, t, ti, h => by
    cases t with
    | zero => simp [look] at h
    | succ t => have := heldAll_ok l (i + 1) ha t ti h; rwa [show i + (t + 1) = i + 1 + t from by omega]
  | some x :: l, i, ha, t, ti, h => by
    cases t with
    | zero => simp [look] at h; subst h; exact ha.1
    | succ t => have := heldAll_ok l (i + 1) ha.2 t ti h; rwa [show i + (t + 1) = i + 1 + t from by omega]
structure TabsOk (P : Program) (X : Tab) : Prop where
  t : TabOk P X.T
  g : FnsOk P X.G
  held : ∀ t ti, look X.T t = some (some ti) → inE X.E t = false → heldOne P t ti.d
  mixed : P.follows .mixedOrders = true
def ty (X : Tab) (t : Nat) (K : TI → Prop) : Prop := match look X.T t with | some (some ti) => K ti | _ => False
def tyO (X : Tab) (t : Nat) : Option TI := match look X.T t with | some (some ti) => some ti | _ => none
structure LdReq (P : Program) (t : Nat) (w : World) (a : Addr) (K : Value → Prop) : Prop where
  of ::
  out : ∃ v, (loadVar t a).run P w = .ok v w ∧ K v
structure StReq (P : Program) (t : Nat) (w : World) (a : Addr) (v : Value) (K : World → Prop) : Prop where
  of ::
  out : ∃ w', (storeVar t a v).run P w = .ok () w' ∧ K w'
structure NewReq (w : World) (o : Obj) (K : Nat → World → Prop) : Prop where
  of ::
  out : K w.heap.size (w.alloc o)
structure RunReq (P : Program) (s : Sem Value) (w : World) (K : Value → World → Prop) : Prop where
  of ::
  out : ∃ v w', s.run P w = .ok v w' ∧ K v w'
structure RunUReq (P : Program) (s : Sem Unit) (w : World) (K : World → Prop) : Prop where
  of ::
  out : ∃ w', s.run P w = .ok () w' ∧ K w'
structure ArReq (k : IntKind) (n : Int) (K : Int → Prop) : Prop where
  of ::
  out : K (k.wrap n)
structure DivReq (k : IntKind) (a b : Int) (K : Int → Prop) : Prop where
  of ::
  out : b ≠ 0 ∧ K (k.wrap (a.tdiv b))
structure RemReq (a b : Int) (K : Int → Prop) : Prop where
  of ::
  out : b ≠ 0 ∧ K (a.tmod b)
structure ShlReq (k : IntKind) (a b : Int) (K : Int → Prop) : Prop where
  of ::
  out : 0 ≤ b ∧ K (k.wrap (a * 2 ^ (min b.toNat k.bits)))
structure ShrReq (k : IntKind) (a b : Int) (K : Int → Prop) : Prop where
  of ::
  out : 0 ≤ b ∧ K (a.fdiv (2 ^ (min b.toNat k.bits)))
def bitsOf (op : BinOp) (k : IntKind) (x y : Int) : Int :=
  let a := BitVec.ofInt k.bits x
  let b := BitVec.ofInt k.bits y
  match op with
  | .and => k.wrap ((a &&& b).toNat : Int)
  | .or => k.wrap ((a ||| b).toNat : Int)
  | .xor => k.wrap ((a ^^^ b).toNat : Int)
  | .andNot => k.wrap ((a &&& ~~~b).toNat : Int)
  | _ => 0
structure BitReq (op : BinOp) (k : IntKind) (a b : Int) (K : Int → Prop) : Prop where
  of ::
  out : K (bitsOf op k a b)
structure BrQ (A B : Prop) (b : Bool) : Prop where
  of ::
  out : (b = true → A) ∧ (b = false → B)
abbrev BrReq (b : Bool) (A B : Prop) : Prop := BrQ A B b
structure CallReq (P : Program) (f : Nat) (args : Array Value) (w : World) (K : Value → World → Prop) : Prop where
  of ::
  out : Calls P f args w fun e w' => match e with | .returned v => K v w' | _ => False
structure IdxReq (i : Int) (n : Nat) (K : Nat → Prop) : Prop where
  of ::
  out : ∃ j : Nat, i = (j : Int) ∧ j < n ∧ K j
structure SlReq (lo hi : Int) (n : Nat) (K : Nat → Nat → Prop) : Prop where
  of ::
  out : ∃ l h : Nat, lo = (l : Int) ∧ hi = (h : Int) ∧ l ≤ h ∧ h ≤ n ∧ K l h
structure StrIdxReq (s : ByteArray) (i : Int) (K : Nat → Prop) : Prop where
  of ::
  out : ∃ (j : Nat) (b : UInt8), i = (j : Int) ∧ s.data[j]? = some b ∧ K b.toNat
structure OptReq (x : Option Value) (K : Value → Prop) : Prop where
  of ::
  out : ∃ v, x = some v ∧ K v
def upon (P : Program) (K : Value → World → Prop) : Result Next → Prop
  | .ok (.value v) w' => K v w'
  | .ok .skip w' => K undef w'
  | .ok (.enter f args) w' => Calls P f args w' fun e w'' => match e with | .returned v => K v w'' | _ => False
  | _ => False
def OpOk (P : Program) (o : Oper) (ρ : Operand → Value) (w : World) (K : Value → World → Prop) : Prop := upon P K ((execOp ρ o).run P w)
structure GenReq (P : Program) (o : Oper) (ρ : Operand → Value) (w : World) (K : Value → World → Prop) : Prop where
  of ::
  out : OpOk P o ρ w K
def UOk (P : Program) (o : Oper) (ρ : Operand → Value) (K : Value → Prop) : Prop := ∃ v, (∀ w, (execOp ρ o).run P w = .ok (.value v) w) ∧ K v
structure UGenReq (P : Program) (o : Oper) (ρ : Operand → Value) (K : Value → Prop) : Prop where
  of ::
  out : UOk P o ρ K
theorem UOk.of_run {P : Program} {o : Oper} {ρ : Operand → Value} {K : Value → Prop} {s : Sem Value} (v : Value) (ho : execOp ρ o = (do pure (.value (← s)))) (hr : ∀ w, s.run P w = .ok v w) (h : K v) : UOk P o ρ K := by
  refine ⟨v, fun w => ?_, h⟩
  rw [ho]
  simp only [Sem.run_bind, hr w, Result.andThen_ok, Sem.run_pure]
theorem OpOk.mono {P : Program} {o : Oper} {ρ : Operand → Value} {w : World} {K K' : Value → World → Prop} (h : OpOk P o ρ w K) (hk : ∀ v w, K v w → K' v w) : OpOk P o ρ w K' := by
  unfold OpOk at *
  generalize (execOp ρ o).run P w = r at *
  cases r with
  | ok n w' =>
    cases n <;> simp only [upon] at h ⊢
    case value v => exact hk _ _ h
    case skip => exact hk _ _ h
    case enter f args => exact h.mono fun e w'' he => by cases e <;> first | exact hk _ _ he | exact he.elim
  | halt x w' => simp only [upon] at h
theorem OpOk.wp {P : Program} {o : Oper} {a : Act} {w : World} {next : Act → World → Prop} {Q : Exit → Act → World → Prop}
    (h : OpOk P o a.eval w fun v w' => next (a.put o.dst v) w') : o.wp P a w next Q := by
  unfold OpOk at h
  unfold Oper.wp
  generalize (execOp a.eval o).run P w = r at *
  cases r with
  | ok n w' =>
    cases n <;> simp only [upon] at h <;> simp only [Oper.upon]
    case value v => exact h
    case skip => exact h
    case enter f args => exact h.mono fun e w'' he => by cases e <;> first | exact he | exact he.elim
    all_goals exact h.elim
  | halt x w' => simp only [upon] at h
end Go.Ev
namespace Go.Ev
open Go
def rdl (N : Nat) (e : Env) : List Operand → List Value
  | [] => []
  | x :: l => rd N e x :: rdl N e l
theorem rdl_eq (N : Nat) (e : Env) (l : List Operand) : rdl N e l = l.map (rd N e) := by
  induction l with
  | nil => rfl
  | cons x l ih => simp [rdl, ih]
def kn : IntKind → Nat
  | .i8 => 0 | .i16 => 1 | .i32 => 2 | .i64 => 3 | .u8 => 4 | .u16 => 5 | .u32 => 6 | .u64 => 7
def kEq (a b : IntKind) : Bool := Nat.beq (kn a) (kn b)
theorem kEq_eq {a b : IntKind} (h : kEq a b = true) : a = b := by
  cases a <;> cases b <;> first | rfl | (simp [kEq, kn] at h)
section
variable {P : Program} {X : Tab}
theorem tiOf_info {t : Nat} {ti : TI} (h : tiOf P t = some ti) : ∃ i d z, P.info? t = some i ∧ P.underlying t = some d ∧ i.zero = some z ∧ ti = { d := tdOf d, size := i.size, bytes := i.bytes, zero := z.cells.toList } := by
  unfold tiOf at h
  cases hi : P.info? t with
  | none => simp [hi] at h
  | some i =>
    cases hd : P.underlying t with
    | none => simp [hi, hd] at h
    | some d =>
      cases hz : i.zero with
      | none => simp [hi, hd, hz] at h
      | some z =>
        simp [hi, hd, hz] at h
        exact ⟨i, d, z, rfl, rfl, hz, h.symm⟩
theorem td_names {t : Nat} (hb : blankD P t = false) {F : Array Field} (hu : P.underlying t = some (.struct F)) : ∀ f ∈ F.toList, f.name ≠ "_" := by
  intro f hf hc
  simp only [blankD, hu, badD] at hb
  rw [Bool.eq_false_iff] at hb
  exact hb (List.any_eq_true.2 ⟨f, hf, by simp [hc]⟩)
theorem run_typeInfo {t : Nat} {i : TypeInfo} (h : P.info? t = some i) (w : World) : (typeInfo t).run P w = .ok i w := by
  simp [typeInfo, h]
theorem run_sizeOf {t : Nat} {ti : TI} (h : tiOf P t = some ti) (w : World) : (sizeOf t).run P w = .ok ti.size w := by
  obtain ⟨i, d, z, hi, _, _, rfl⟩ := tiOf_info h
  simp [sizeOf, run_typeInfo hi]
theorem run_isAgg {t : Nat} {ti : TI} (h : tiOf P t = some ti) (w : World) : (isAgg t).run P w = .ok ti.d.isAgg w := by
  obtain ⟨i, d, z, _, hd, _, rfl⟩ := tiOf_info h
  simp only [isAgg, Sem.run_bind, run_underlying hd, Result.andThen_ok]
  cases d <;> rfl
theorem run_zeroValue {t : Nat} {ti : TI} (h : tiOf P t = some ti) : ∃ z : Value, (∀ w, (zeroValue t).run P w = .ok z w) ∧ z.cells.toList = ti.zero := by
  obtain ⟨i, d, z, hi, _, hz, rfl⟩ := tiOf_info h
  exact ⟨z, fun w => by simp [zeroValue, run_typeInfo hi, hz], rfl⟩
theorem td_slice {t e : Nat} {ti : TI} (h : tiOf P t = some ti) (hd : ti.d = .slice e) : P.underlying t = some (.slice e) := by
  obtain ⟨i, d, z, _, hu, _, rfl⟩ := tiOf_info h
  cases d <;> simp_all [tdOf]
theorem td_array {t n e : Nat} {ti : TI} (h : tiOf P t = some ti) (hd : ti.d = .array n e) : P.underlying t = some (.array n e) := by
  obtain ⟨i, d, z, _, hu, _, rfl⟩ := tiOf_info h
  cases d <;> simp_all [tdOf]
theorem td_str {t : Nat} {ti : TI} (h : tiOf P t = some ti) (hd : ti.d = .str) : P.underlying t = some .string := by
  obtain ⟨i, d, z, _, hu, _, rfl⟩ := tiOf_info h
  cases d <;> simp_all [tdOf]
theorem td_bool {t : Nat} {ti : TI} (h : tiOf P t = some ti) (hd : ti.d = .bool) : P.underlying t = some .bool := by
  obtain ⟨i, d, z, _, hu, _, rfl⟩ := tiOf_info h
  cases d <;> simp_all [tdOf]
theorem td_int {t : Nat} {k : IntKind} {ti : TI} (h : tiOf P t = some ti) (hd : ti.d = .int k) : P.underlying t = some (.int k) := by
  obtain ⟨i, d, z, _, hu, _, rfl⟩ := tiOf_info h
  cases d <;> simp_all [tdOf]
theorem td_map {t k v : Nat} {ti : TI} (h : tiOf P t = some ti) (hd : ti.d = .map k v) : P.underlying t = some (.map k v) := by
  obtain ⟨i, d, z, _, hu, _, rfl⟩ := tiOf_info h
  cases d <;> simp_all [tdOf]
theorem td_struct {t : Nat} {fs : List (Nat × Nat)} {ti : TI} (h : tiOf P t = some ti) (hd : ti.d = .struct fs) :
    ∃ F : Array Field, P.underlying t = some (.struct F) ∧ fs = F.toList.map fun f => (f.offset, f.type) := by
  obtain ⟨i, d, z, _, hu, _, rfl⟩ := tiOf_info h
  cases d <;> simp_all [tdOf]
end
def tyK (X : Tab) (t : Nat) (K : TI → Prop) : Prop := match look X.T t with | some (some ti) => K ti | _ => False
theorem tyK_out {P : Program} {X : Tab} (hX : TabsOk P X) {t : Nat} {K : TI → Prop} (h : tyK X t K) : ∃ ti, tiOf P t = some ti ∧ K ti := by
  unfold tyK at h
  split at h
  · rename_i ti hl; exact ⟨ti, hX.t t ti hl, h⟩
  · exact h.elim
def partL (X : Tab) (t : Nat) (l : List Value) (off : Nat) (K : Value → Prop) : Prop :=
  tyK X t fun ti => match ti.d.isAgg with
    | true => K (.agg ((l.drop off).take ti.size).toArray)
    | false => OptReq (look l off) K
theorem partL_run {P : Program} {X : Tab} (hX : TabsOk P X) {t : Nat} {cs : Array Value} {off : Nat} {K : Value → Prop} (h : partL X t cs.toList off K) :
    ∃ v, (∀ w, (part t cs off).run P w = .ok v w) ∧ K v := by
  obtain ⟨ti, ht, h⟩ := tyK_out hX h
  cases hb : ti.d.isAgg
  · simp only [hb] at h
    replace h := h.out
    obtain ⟨v, hv, hk⟩ := h
    rw [look_eq] at hv
    have : cs[off]? = some v := by simpa using hv
    exact ⟨v, fun w => by simp only [part, Sem.run_bind, run_isAgg ht, Result.andThen_ok, hb, Bool.false_eq_true, if_false, this, Sem.run_pure], hk⟩
  · simp only [hb] at h
    refine ⟨.agg (cs.extract off (off + ti.size)), fun w => by simp only [part, Sem.run_bind, run_isAgg ht, Result.andThen_ok, hb, if_true, run_sizeOf ht, Sem.run_pure], ?_⟩
    have : cs.extract off (off + ti.size) = ((cs.toList.drop off).take ti.size).toArray := by
      apply Array.ext'
      rw [Array.toList_extract]
      show List.take _ (List.drop _ _) = _
      simp
    rw [this]; exact h
def evInt (P : Program) (o : Oper) (ρ : Operand → Value) (op : BinOp) (k : IntKind) (a : Int) (k' : IntKind) (b : Int) (K : Value → Prop) : Prop :=
  match op with
  | .shl => ShlReq k a b fun n => K (.int k n)
  | .shr => ShrReq k a b fun n => K (.int k n)
  | op => match kEq k k' with
    | false => False
    | true => match op with
      | .add => ArReq k (a + b) fun n => K (.int k n)
      | .sub => ArReq k (a - b) fun n => K (.int k n)
      | .mul => ArReq k (a * b) fun n => K (.int k n)
      | .quo => DivReq k a b fun n => K (.int k n)
      | .rem => RemReq a b fun n => K (.int k n)
      | .and => BitReq .and k a b fun n => K (.int k n)
      | .or => BitReq .or k a b fun n => K (.int k n)
      | .xor => BitReq .xor k a b fun n => K (.int k n)
      | .andNot => BitReq .andNot k a b fun n => K (.int k n)
      | .eql => K (.bool (decide (a = b)))
      | .neq => K (.bool (decide (a ≠ b)))
      | .lss => K (.bool (decide (a < b)))
      | .leq => K (.bool (decide (a ≤ b)))
      | .gtr => K (.bool (decide (b < a)))
      | .geq => K (.bool (decide (b ≤ a)))
      | _ => UGenReq P o ρ K
def evBin (P : Program) (X : Tab) (o : Oper) (ρ : Operand → Value) (op : BinOp) (t : Nat) (x y : Value) (K : Value → Prop) : Prop :=
  match x, y with
  | .int k a, .int k' b => evInt P o ρ op k a k' b K
  | .bool a, .bool b => match op with
    | .eql => tyK X t fun ti => match ti.d with | .bool => K (.bool (a == b)) | _ => False
    | .neq => tyK X t fun ti => match ti.d with | .bool => K (.bool (!(a == b))) | _ => False
    | _ => UGenReq P o ρ K
  | .slice a _ _, .slice none _ _ => match op with
    | .eql => tyK X t fun ti => match ti.d with | .slice _ => K (.bool a.isNone) | _ => False
    | .neq => tyK X t fun ti => match ti.d with | .slice _ => K (.bool (!a.isNone)) | _ => False
    | _ => UGenReq P o ρ K
  | _, _ => UGenReq P o ρ K
theorem evInt_ok {P : Program} {o : Oper} {ρ : Operand → Value} {op : BinOp} {t yt : Nat} {x y : Operand} (ho : o.op = .binOp op t x y yt)
    {k : IntKind} {a : Int} {k' : IntKind} {b : Int} (hx : ρ x = .int k a) (hy : ρ y = .int k' b) {K : Value → Prop}
    (h : evInt P o ρ op k a k' b K) : UOk P o ρ K := by
  have hex : execOp ρ o = (do pure (.value (← (do eqGuard op t x y (.int k a) (.int k' b); binOp op t (.int k a) (.int k' b) : Sem Value)))) := by
    simp only [execOp, ho, hx, hy]
  cases op with
  | shl =>
    unfold evInt at h
    obtain ⟨h1, h2⟩ := h.out
    exact UOk.of_run _ hex (fun w => by simp only [eqGuard_at_int, Sem.run_bind, Sem.run_pure, Result.andThen_ok, binOp, Op.shift]; rw [if_neg (by omega)]; rfl) h2
  | shr =>
    unfold evInt at h
    obtain ⟨h1, h2⟩ := h.out
    exact UOk.of_run _ hex (fun w => by simp only [eqGuard_at_int, Sem.run_bind, Sem.run_pure, Result.andThen_ok, binOp, Op.shift]; rw [if_neg (by omega)]; rfl) h2
  | neq =>
    unfold evInt at h
    cases hk : kEq k k'
    · simp only [hk] at h
    · simp only [hk] at h
      obtain rfl := kEq_eq hk
      have e : ∀ a b : Int, decide (a ≠ b) = (a != b) := fun a b => by rw [Bool.eq_iff_iff]; simp
      rw [e] at h
      exact UOk.of_run _ hex (fun w => by simp only [eqGuard_at_int, Sem.run_bind, Sem.run_pure, Result.andThen_ok, binOp, ne_eq, not_true_eq_false, if_false, Op.intCmp]) h
  | _ =>
    unfold evInt at h
    cases hk : kEq k k'
    · simp only [hk] at h
    · simp only [hk] at h
      obtain rfl := kEq_eq hk
      first
        | exact UGenReq.out h
        | exact UOk.of_run _ hex (fun w => by simp only [eqGuard_at_int, Sem.run_bind, Sem.run_pure, Result.andThen_ok, binOp, ne_eq, not_true_eq_false, if_false, Op.intArith]) (ArReq.out h)
        | (have h := BitReq.out h
           unfold bitsOf at h
           exact UOk.of_run _ hex (fun w => by simp only [eqGuard_at_int, Sem.run_bind, Sem.run_pure, Result.andThen_ok, binOp, ne_eq, not_true_eq_false, if_false, Op.intBits]; try rfl) h)
        | (have h := DivReq.out h
           exact UOk.of_run _ hex (fun w => by simp only [eqGuard_at_int, Sem.run_bind, Sem.run_pure, Result.andThen_ok, binOp, ne_eq, not_true_eq_false, if_false, Op.intDiv, if_neg h.1]; try rfl) h.2)
        | (have h := RemReq.out h
           exact UOk.of_run _ hex (fun w => by simp only [eqGuard_at_int, Sem.run_bind, Sem.run_pure, Result.andThen_ok, binOp, ne_eq, not_true_eq_false, if_false, Op.intDiv, if_neg h.1]; try rfl) h.2)
        | exact UOk.of_run _ hex (fun w => by simp only [eqGuard_at_int, Sem.run_bind, Sem.run_pure, Result.andThen_ok, binOp, ne_eq, not_true_eq_false, if_false, Op.intCmp]; try rfl) h
theorem run_eq_bool {P : Program} {t : Nat} (hu : P.underlying t = some .bool) (a b : Bool) (w : World) : (Op.equal t (.bool a) (.bool b)).run P w = .ok (a == b) w := by
  have h : ∀ d : Nat, (Op.equalIn (d + 1) t (.bool a) (.bool b)).run P w = .ok (a == b) w := fun d => by simp [Op.equalIn, run_underlying hu]
  exact h 9999
theorem run_eq_nil {P : Program} {t e : Nat} (hu : P.underlying t = some (.slice e)) (a : Option Addr) (n m n' m' : Nat) (w : World) :
    (Op.equal t (.slice a n m) (.slice none n' m')).run P w = .ok a.isNone w := by
  have h : ∀ d : Nat, (Op.equalIn (d + 1) t (.slice a n m) (.slice none n' m')).run P w = .ok a.isNone w := fun d => by cases a <;> simp [Op.equalIn, run_underlying hu]
  exact h 9999
theorem evBin_ok {P : Program} {X : Tab} (hX : TabsOk P X) {o : Oper} {ρ : Operand → Value} {op : BinOp} {t yt : Nat} {x y : Operand} (ho : o.op = .binOp op t x y yt)
    {K : Value → Prop} (h : evBin P X o ρ op t (ρ x) (ρ y) K) : UOk P o ρ K := by
  unfold evBin at h
  have hex : ∀ u v, ρ x = u → ρ y = v → execOp ρ o = (do pure (.value (← (do eqGuard op t x y u v; binOp op t u v : Sem Value)))) := by
    intro u v hu hv
    simp only [execOp, ho, hu, hv]
  split at h
  · rename_i hx hy; exact evInt_ok ho hx hy h
  · rename_i a b hx hy
    split at h
    · obtain ⟨ti, ht, h⟩ := tyK_out hX h
      split at h
      · rename_i hd
        exact UOk.of_run _ (hex _ _ hx hy) (fun w => by simp only [eqGuard_at_bool, Sem.run_bind, Sem.run_pure, Result.andThen_ok, binOp, run_eq_bool (td_bool ht hd)]) h
      · exact h.elim
    · obtain ⟨ti, ht, h⟩ := tyK_out hX h
      split at h
      · rename_i hd
        exact UOk.of_run _ (hex _ _ hx hy) (fun w => by simp only [eqGuard_at_bool, Sem.run_bind, Sem.run_pure, Result.andThen_ok, binOp, run_eq_bool (td_bool ht hd)]) h
      · exact h.elim
    · exact UGenReq.out h
  · rename_i a _ _ _ _ hx hy
    split at h
    · obtain ⟨ti, ht, h⟩ := tyK_out hX h
      split at h
      · rename_i hd
        exact UOk.of_run _ (hex _ _ hx hy) (fun w => by simp only [eqGuard_at_slice, Sem.run_bind, Sem.run_pure, Result.andThen_ok, binOp, run_eq_nil (td_slice ht hd)]) h
      · exact h.elim
    · obtain ⟨ti, ht, h⟩ := tyK_out hX h
      split at h
      · rename_i hd
        exact UOk.of_run _ (hex _ _ hx hy) (fun w => by simp only [eqGuard_at_slice, Sem.run_bind, Sem.run_pure, Result.andThen_ok, binOp, run_eq_nil (td_slice ht hd)]) h
      · exact h.elim
    · exact UGenReq.out h
  · exact UGenReq.out h
end Go.Ev
namespace Go.Ev
open Go
structure Idx2Req (i : Int) (n : Nat) (base : Option Addr) (K : Nat → Addr → Prop) : Prop where
  of ::
  out : ∃ (j : Nat) (a : Addr), i = (j : Int) ∧ j < n ∧ base = some a ∧ K j a
def scale (j : Nat) (s : Nat) : Nat := match s with | 1 => j | s => j * s
theorem scale_eq (j s : Nat) : scale j s = j * s := by unfold scale; split <;> simp
def toArr (l : List Value) : Array Value := l.toArray
def spliceL (cells : List Value) (off : Nat) : List Value → List Value
  | [] => cells
  | v :: r => spliceL (cells.set off v) (off + 1) r
theorem splice_eq (vs : List Value) : ∀ (cells : Array Value) (off j : Nat),
    (List.foldl (fun (cs : Array Value) (x : Value × Nat) => cs.setIfInBounds (off + x.2) x.1) cells (vs.zipIdx j)).toList = spliceL cells.toList (off + j) vs := by
  induction vs with
  | nil => intro cells off j; simp [spliceL]
  | cons v r ih =>
    intro cells off j
    simp only [List.zipIdx_cons, List.foldl_cons, spliceL]
    rw [ih]
    simp [Nat.add_assoc]
def fillL (X : Tab) (pl : Nat → (Nat → Nat → Prop) → Prop) (cells : List Value) : List (Nat × Value) → (List Value → Prop) → Prop
  | [], K => K cells
  | (i, v) :: rest, K => pl i fun off size =>
    match Nat.beq v.cells.size size && Nat.ble (off + size) cells.length with
    | true => fillL X pl (spliceL cells off v.cells.toList) rest K
    | false => False
theorem fillL_ok {X : Tab} {pl : Nat → (Nat → Nat → Prop) → Prop} {place : Nat → Option (Nat × Nat)} (hp : ∀ i K, pl i K → ∃ off size, place i = some (off, size) ∧ K off size) (parts : List (Nat × Value)) :
    ∀ (cells : Array Value) (K : List Value → Prop), fillL X pl cells.toList parts K → ∃ cs, Instr.fill place cells parts = some cs ∧ K cs.toList := by
  induction parts with
  | nil => intro cells K h; exact ⟨cells, rfl, h⟩
  | cons p rest ih =>
    obtain ⟨i, v⟩ := p
    intro cells K h
    simp only [fillL] at h
    obtain ⟨off, size, h1, h2⟩ := hp _ _ h
    split at h2
    · rename_i hb
      simp only [Bool.and_eq_true, Nat.ble_eq] at hb
      obtain ⟨b1, b2⟩ := hb
      have b1 := Nat.eq_of_beq_eq_true b1
      have e := splice_eq v.cells.toList cells off 0
      simp only [Nat.add_zero] at e
      rw [← e] at h2
      obtain ⟨cs, g1, g2⟩ := ih _ _ h2
      refine ⟨cs, ?_, g2⟩
      simp only [Instr.fill, h1]
      have hc : (decide (v.cells.size ≠ size) || decide (off + v.cells.size > cells.size)) = false := by
        have e1 : cells.toList.length = cells.size := by simp
        rw [e1] at b2
        rw [b1, decide_eq_false (by simp), decide_eq_false (by omega)]
        rfl
      simp only [hc, Bool.false_eq_true, if_false]
      rw [← g1]
      congr 1
      rw [← Array.foldl_toList]
      simp [Array.toList_zipIdx]
    · exact h2.elim
def structPl (X : Tab) (fs : List (Nat × Nat)) (i : Nat) (K : Nat → Nat → Prop) : Prop :=
  match look fs i with
  | some (off, ft) => tyK X ft fun tf => K off tf.size
  | none => False
def allTy (X : Tab) : List (Nat × Nat) → Prop → Prop
  | [], K => K
  | f :: l, K => tyK X f.2 fun _ => allTy X l K
theorem allTy_out {P : Program} {X : Tab} (hX : TabsOk P X) : ∀ {l : List (Nat × Nat)} {K : Prop}, allTy X l K → (∀ f ∈ l, ∃ ti, tiOf P f.2 = some ti) ∧ K
  | [], K, h => ⟨by simp, h⟩
  | f :: l, K, h => by
    obtain ⟨ti, ht, h⟩ := tyK_out hX h
    obtain ⟨h1, h2⟩ := allTy_out hX h
    exact ⟨fun g hg => by
      rcases List.mem_cons.1 hg with rfl | hg
      · exact ⟨ti, ht⟩
      · exact h1 g hg, h2⟩
def evBuild (X : Tab) (t : Nat) (parts : List (Nat × Value)) (K : Value → Prop) : Prop :=
  tyK X t fun ti => match ti.d with
    | .struct fs => allTy X fs (fillL X (structPl X fs) ti.zero parts fun l => K (.agg (toArr l)))
    | .array _ el => tyK X el fun te => fillL X (fun i K => K (i * te.size) te.size) ti.zero parts fun l => K (.agg (toArr l))
    | _ => False
theorem run_places {P : Program} : ∀ (fields : List Field), (∀ f ∈ fields, ∃ ti, tiOf P f.type = some ti) →
    ∃ pl : List (Nat × Nat), (∀ w, (fields.mapM (fun f : Field => (do pure (f.offset, ← sizeOf f.type) : Sem (Nat × Nat)))).run P w = .ok pl w) ∧ pl.length = fields.length ∧
      ∀ (i : Nat) (f : Field), fields[i]? = some f → ∃ ti, tiOf P f.type = some ti ∧ pl[i]? = some (f.offset, ti.size)
  | [], _ => ⟨[], fun w => by simp, rfl, by simp⟩
  | f :: l, h => by
    obtain ⟨ti, ht⟩ := h f (by simp)
    obtain ⟨pl, h1, h2, h3⟩ := run_places l (fun g hg => h g (by simp [hg]))
    refine ⟨(f.offset, ti.size) :: pl, fun w => by simp only [List.mapM_cons, Sem.run_bind, run_sizeOf ht, Result.andThen_ok, Sem.run_pure, h1], by simp [h2], fun i g hg => ?_⟩
    cases i with
    | zero => simp at hg; subst hg; exact ⟨ti, ht, by simp⟩
    | succ i => simpa using h3 i g (by simpa using hg)
theorem evBuild_run {P : Program} {X : Tab} (hX : TabsOk P X) {t : Nat} {parts : List (Nat × Value)} {K : Value → Prop} (h : evBuild X t parts K) :
    ∃ v, (∀ w, (Instr.build t parts.toArray).run P w = .ok v w) ∧ K v := by
  obtain ⟨ti, ht, h⟩ := tyK_out hX h
  obtain ⟨z, hz, hzc⟩ := run_zeroValue ht
  have hz' : ti.zero = z.cells.toList := hzc.symm
  split at h
  · rename_i fs hd
    obtain ⟨F, hu, hF⟩ := td_struct ht hd
    obtain ⟨ha, h⟩ := allTy_out hX h
    rw [hz'] at h
    obtain ⟨pl, p1, p2, p3⟩ := run_places (P := P) F.toList (fun f hf => ha (f.offset, f.type) (by rw [hF]; exact List.mem_map.2 ⟨f, hf, rfl⟩))
    have hp : ∀ i K, structPl X fs i K → ∃ off size, pl.toArray[i]? = some (off, size) ∧ K off size := by
      intro i K hK
      unfold structPl at hK
      split at hK
      · rename_i off ft hl
        obtain ⟨tf, htf, hK2⟩ := tyK_out hX hK
        rw [look_eq, hF, List.getElem?_map] at hl
        cases hi : F.toList[i]? with
        | none => simp [hi] at hl
        | some f =>
          simp [hi] at hl
          obtain ⟨rfl, rfl⟩ := hl
          obtain ⟨ti', h1, h2⟩ := p3 i f hi
          rw [htf] at h1
          injection h1 with h1
          subst h1
          exact ⟨_, _, by simpa using h2, hK2⟩
      · exact hK.elim
    obtain ⟨cs, g1, g2⟩ := fillL_ok (place := fun i => pl.toArray[i]?) hp parts z.cells _ h
    refine ⟨.agg cs, fun w => ?_, by simpa [toArr] using g2⟩
    have pm : ∀ w, (F.mapM (fun f : Field => (do pure (f.offset, ← sizeOf f.type) : Sem (Nat × Nat)))).run P w = .ok pl.toArray w := by
      intro w
      rw [← Array.toArray_toList (xs := F), List.mapM_toArray]
      simp only [Sem.run_map, p1, Result.andThen_ok]
    simp only [Instr.build, Sem.run_bind, hz, Result.andThen_ok, run_underlying hu, pm]
    rw [g1]
    rfl
  · rename_i n el hd
    have hu := td_array ht hd
    obtain ⟨te, hte, h⟩ := tyK_out hX h
    rw [hz'] at h
    obtain ⟨cs, g1, g2⟩ := fillL_ok (place := fun i => some (i * te.size, te.size)) (fun i K hK => ⟨_, _, rfl, hK⟩) parts z.cells _ h
    refine ⟨.agg cs, fun w => ?_, by simpa [toArr] using g2⟩
    simp only [Instr.build, Sem.run_bind, hz, Result.andThen_ok, run_underlying hu, run_sizeOf hte]
    rw [g1]
    rfl
  · exact h.elim
def zerosL (n : Nat) (z : List Value) : List Value := match n with | 0 => [] | n + 1 => z ++ zerosL n z
def evBuildSlice (X : Tab) (t len : Nat) (parts : List (Nat × Value)) (K : Nat → List Value → Prop) : Prop :=
  tyK X t fun ti => match ti.d with
    | .slice el => tyK X el fun te => match Nat.ble (len * te.size) 16777216 && Nat.beq te.zero.length te.size with
      | true => fillL X (fun i K => K (i * te.size) te.size) (zerosL len te.zero) parts fun l => K el l
      | false => False
    | _ => False
theorem length_zerosL (n : Nat) (z : List Value) : (zerosL n z).length = n * z.length := by
  induction n with
  | zero => simp [zerosL]
  | succ n ih => simp [zerosL, ih, Nat.add_mul]; omega
theorem getElem?_zerosL (z : List Value) : ∀ (n i : Nat), i < n * z.length → (zerosL n z)[i]? = z[i % z.length]?
  | 0, i, h => by simp at h
  | n + 1, i, h => by
    simp only [zerosL]
    rw [List.getElem?_append]
    split
    · rename_i hlt; rw [Nat.mod_eq_of_lt hlt]
    · rename_i hge
      have hge : z.length ≤ i := Nat.le_of_not_lt hge
      rw [getElem?_zerosL z n (i - z.length) (by rw [Nat.add_mul] at h; omega), ← Nat.mod_eq_sub_mod hge]
theorem zeros_eq (z : Array Value) (n : Nat) : ((Array.range (n * z.size)).map (z[· % z.size]!)).toList = zerosL n z.toList := by
  apply List.ext_getElem?
  intro i
  simp only [Array.toList_map, Array.toList_range, List.getElem?_map]
  by_cases hi : i < n * z.size
  · have hz : 0 < z.size := by rcases Nat.eq_zero_or_pos z.size with h | h; · rw [h] at hi; simp at hi
                               · exact h
    have hm : i % z.size < z.size := Nat.mod_lt _ hz
    rw [getElem?_zerosL z.toList n i (by simpa using hi)]
    simp [hi, hm, getElem!_pos]
  · rw [List.getElem?_eq_none (by simp; omega), List.getElem?_eq_none (by rw [length_zerosL]; simp; omega)]
    rfl
theorem evBuildSlice_run {P : Program} {X : Tab} (hX : TabsOk P X) {t len : Nat} {parts : List (Nat × Value)} {K : Nat → List Value → Prop} (h : evBuildSlice X t len parts K) :
    ∃ el l, (∀ w, (Instr.buildSlice t len parts.toArray).run P w = .ok (.slice (some ⟨w.heap.size, 0, none⟩) len len) { w with heap := w.heap.push (.cells (toArr l) el) }) ∧ K el l := by
  obtain ⟨ti, ht, h⟩ := tyK_out hX h
  split at h
  · rename_i el hd
    obtain ⟨te, hte, h⟩ := tyK_out hX h
    split at h
    · rename_i hb
      simp only [Bool.and_eq_true, Nat.ble_eq] at hb
      obtain ⟨b1, b2⟩ := hb
      have b2 := Nat.eq_of_beq_eq_true b2
      obtain ⟨z, hz, hzc⟩ := run_zeroValue hte
      have hzs : z.cells.size = te.size := by rw [← b2, ← hzc]; simp
      have e0 : zerosL len te.zero = ((Array.range (len * te.size)).map (z.cells[· % z.cells.size]!)).toList := by
        rw [← hzs, zeros_eq, hzc]
      rw [e0] at h
      obtain ⟨cs, g1, g2⟩ := fillL_ok (place := fun i => some (i * te.size, te.size)) (fun i K hK => ⟨_, _, rfl, hK⟩) parts _ _ h
      refine ⟨el, cs.toList, fun w => ?_, g2⟩
      have hcs : toArr cs.toList = cs := by simp [toArr]
      rw [hcs]
      by_cases h0 : len * te.size = 0
      · rw [h0, Array.range_zero', Array.map_empty] at g1
        simp only [Instr.buildSlice, Sem.run_bind, run_underlying (td_slice ht hd), Result.andThen_ok, run_sizeOf hte, h0, show ¬ 0 > 2 ^ 24 from by omega, if_false, if_true, Sem.run_pure, Array.range_zero', Array.map_empty, g1]
        rfl
      · simp only [Instr.buildSlice, Sem.run_bind, run_underlying (td_slice ht hd), Result.andThen_ok, run_sizeOf hte, show ¬ len * te.size > 2 ^ 24 from by omega, if_false, h0, hz, Sem.run_pure]
        rw [g1]
        rfl
    · exact h.elim
  · exact h.elim
end Go.Ev
namespace Go.Ev
open Go
def pairs (N : Nat) (e : Env) : List (Nat × Operand) → List (Nat × Value)
  | [] => []
  | (i, x) :: l => (i, rd N e x) :: pairs N e l
theorem pairs_eq (N : Nat) (e : Env) (l : List (Nat × Operand)) : pairs N e l = l.map fun (i, x) => (i, rd N e x) := by
  induction l with
  | nil => rfl
  | cons p l ih => obtain ⟨i, x⟩ := p; simp [pairs, ih]
def evLen (P : Program) (X : Tab) (o : Oper) (ρ : Operand → Value) (ats : List Nat) (xs : List Value) (K : Value → Prop) : Prop :=
  match ats, xs with
  | t :: _, x :: _ => tyK X t fun ti => match ti.d, x with
    | .slice _, .slice _ n _ => K (.int .i64 n)
    | .str, .string s => K (.int .i64 s.size)
    | .array n _, _ => K (.int .i64 n)
    | _, _ => UGenReq P o ρ K
  | _, _ => UGenReq P o ρ K
def evMax (P : Program) (o : Oper) (ρ : Operand → Value) (xs : List Value) (K : Value → Prop) : Prop :=
  match xs with
  | [.int k x, .int _ y] => K (.int k (max x y))
  | _ => UGenReq P o ρ K
def evMin (P : Program) (o : Oper) (ρ : Operand → Value) (xs : List Value) (K : Value → Prop) : Prop :=
  match xs with
  | [.int k x, .int _ y] => K (.int k (min x y))
  | _ => UGenReq P o ρ K
def exS (s : ByteArray) (l h : Nat) : ByteArray := ⟨((s.data.toList.take h).drop l).toArray⟩
theorem exS_eq (s : ByteArray) (i j : Nat) : exS s i j = s.extract i j := by
  have h : (s.extract i j).data = (exS s i j).data := by
    rw [ByteArray.data_extract]
    apply Array.ext'
    simp only [exS, Array.toList_extract, List.extract_eq_take_drop]
    rw [List.drop_take]
  cases h' : s.extract i j with
  | mk d => rw [h'] at h; exact congrArg ByteArray.mk h.symm
def evSlice (P : Program) (X : Tab) (o : Oper) (ρ : Operand → Value) (t : Nat) (x : Value) (lo hi : Option Value) (K : Value → Prop) : Prop :=
  tyK X t fun ti => match ti.d, x with
    | .slice el, .slice a len cap => tyK X el fun te =>
      match lo, hi with
      | none, none => SlReq 0 len cap fun l h => K (.slice (if cap = l then a else a.map (·.add (scale l te.size))) (h - l) (cap - l))
      | none, some (.int _ h) => SlReq 0 h cap fun l h => K (.slice (if cap = l then a else a.map (·.add (scale l te.size))) (h - l) (cap - l))
      | some (.int _ l), none => SlReq l len cap fun l h => K (.slice (if cap = l then a else a.map (·.add (scale l te.size))) (h - l) (cap - l))
      | some (.int _ l), some (.int _ h) => SlReq l h cap fun l h => K (.slice (if cap = l then a else a.map (·.add (scale l te.size))) (h - l) (cap - l))
      | _, _ => UGenReq P o ρ K
    | .str, .string s =>
      match lo, hi with
      | none, none => SlReq 0 s.size s.size fun l h => K (.string (exS s l h))
      | none, some (.int _ h) => SlReq 0 h s.size fun l h => K (.string (exS s l h))
      | some (.int _ l), none => SlReq l s.size s.size fun l h => K (.string (exS s l h))
      | some (.int _ l), some (.int _ h) => SlReq l h s.size fun l h => K (.string (exS s l h))
      | _, _ => UGenReq P o ρ K
    | _, _ => UGenReq P o ρ K
def evU (P : Program) (X : Tab) (N : Nat) (o : Oper) (e : Env) (K : Value → Prop) : Prop :=
  match o.op with
  | .move x => K (rd N e x)
  | .assign x => K (rd N e x)
  | .pick c a b => match rd N e c with
    | .bool b' => BrReq b' (K (rd N e a)) (K (rd N e b))
    | _ => False
  | .build t parts => forceP (pairs N e parts.toList) fun ps => evBuild X t ps K
  | .binOp op t x y _ => evBin P X o (rd N e) op t (rd N e x) (rd N e y) K
  | .unOp op _ x => match op, rd N e x with
    | .not, .bool b => K (.bool (!b))
    | .neg, .int k n => ArReq k (0 - n) fun n => K (.int k n)
    | .xor, .int k n => BitReq .xor k (if k.signed then -1 else k.max) n fun n => K (.int k n)
    | _, _ => UGenReq P o (rd N e) K
  | .convert src dst x => tyK X src fun _ => tyK X dst fun td => match td.d, rd N e x with
    | .int k, .int _ n => ArReq k n fun n => K (.int k n)
    | .str, .string s => K (.string s)
    | _, _ => UGenReq P o (rd N e) K
  | .slice t x lo hi none => evSlice P X o (rd N e) t (rd N e x) (lo.map (rd N e)) (hi.map (rd N e)) K
  | .fieldAddr s x f => tyK X s fun ti => match ti.d with
    | .struct fs => match look fs f with
      | some (off, ft) => tyK X ft fun tf => match tf.size with
        | 0 => False
        | _ + 1 => match rd N e x with
          | .pointer (some a) => K (.pointer (some (a.add off)))
          | _ => UGenReq P o (rd N e) K
      | none => False
    | _ => UGenReq P o (rd N e) K
  | .field t x f => tyK X t fun ti => match ti.d with
    | .struct fs => match look fs f with
      | some (off, ft) => match rd N e x with
        | .agg cs => partL X ft cs.toList off K
        | _ => UGenReq P o (rd N e) K
      | none => False
    | _ => UGenReq P o (rd N e) K
  | .indexAddr t x ix => tyK X t fun ti => match ti.d, rd N e x, rd N e ix with
    | .slice el, .slice base len _, .int _ i => tyK X el fun te => Idx2Req i len base fun j a => K (.pointer (some (a.add (scale j te.size))))
    | .array n el, .pointer (some a), .int _ i => tyK X el fun te => IdxReq i n fun j => K (.pointer (some (a.add (scale j te.size))))
    | _, _, _ => UGenReq P o (rd N e) K
  | .index t x ix => tyK X t fun ti => match ti.d, rd N e x, rd N e ix with
    | .array n el, .agg cs, .int _ i => tyK X el fun te => IdxReq i n fun j => partL X el cs.toList (scale j te.size) K
    | .str, .string s, .int _ i => StrIdxReq s i fun b => K (.int .u8 b)
    | _, _, _ => UGenReq P o (rd N e) K
  | .extract t ix => match rd N e t with
    | .tuple vs => match look vs.toList ix with
      | some v => K v
      | none => False
    | _ => UGenReq P o (rd N e) K
  | .makeFunc fn first captured => forceL (rdl N e first.toList) fun l1 => forceL (rdl N e captured.toList) fun l2 => K (.func fn (toArr l1) (toArr l2))
  | .nilCheck x => match rd N e x with
    | .pointer (some a) => K (.pointer (some a))
    | .func (.func f) a c => K (.func (.func f) a c)
    | _ => UGenReq P o (rd N e) K
  | .call c => match c.callee with
    | .builtin .len => evLen P X o (rd N e) c.argTypes.toList (rdl N e c.args.toList) K
    | .builtin .max => evMax P o (rd N e) (rdl N e c.args.toList) K
    | .builtin .min => evMin P o (rd N e) (rdl N e c.args.toList) K
    | _ => UGenReq P o (rd N e) K
  | _ => UGenReq P o (rd N e) K
def plainTy (X : Tab) (t : Nat) : Bool := match look X.T t with
  | some (some ti) => match ti.d with | .int _ => true | .str => true | _ => false
  | _ => false
def isPure (X : Tab) : Op → Bool
  | .move _ => true
  | .assign _ => true
  | .pick _ _ _ => true
  | .build _ _ => true
  | .binOp _ _ _ _ _ => true
  | .unOp _ _ _ => true
  | .convert s d _ => plainTy X s && plainTy X d
  | .slice _ _ _ _ none => true
  | .fieldAddr _ _ _ => true
  | .field _ _ _ => true
  | .indexAddr _ _ _ => true
  | .index _ _ _ => true
  | .extract _ _ => true
  | .makeFunc _ _ _ => true
  | .nilCheck _ => true
  | .call c => match c.callee with | .builtin .len => (match c.argTypes.toList with | t :: _ => (match look X.T t with | some (some ti) => (match ti.d with | .map _ _ => false | _ => true) | _ => false) | [] => false) | .builtin .max => true | .builtin .min => true | _ => false
  | _ => false
def evCall (P : Program) (X : Tab) (N : Nat) (o : Oper) (c : Call) (e : Env) (w : World) (K : Value → World → Prop) : Prop :=
  match c.callee with
  | .builtin b => match b with
    | .append => forceL (rdl N e c.args.toList) fun l => RunReq P (Builtin.append_ c.argTypes o.type (toArr l)) w K
    | .copy => forceL (rdl N e c.args.toList) fun l => RunReq P (Builtin.copy_ c.argTypes o.type (toArr l)) w K
    | _ => GenReq P o (rd N e) w K
  | .value f => match rd N e f with
    | .func fn first captured => match fn with
      | .func g => match look X.G g with
        | some true => forceL (first.toList ++ rdl N e c.args.toList ++ captured.toList) fun l => CallReq P g (toArr l) w K
        | _ => GenReq P o (rd N e) w K
      | _ => GenReq P o (rd N e) w K
    | _ => GenReq P o (rd N e) w K
  | _ => GenReq P o (rd N e) w K
def evOp (P : Program) (X : Tab) (N : Nat) (o : Oper) (e : Env) (w : World) (K : Value → World → Prop) : Prop :=
  match isPure X o.op with
  | true => evU P X N o e fun v => K v w
  | false => match o.op with
    | .alloc t => tyK X t fun ti => NewReq w (.cells (toArr ti.zero) t) fun b w' => K (.pointer (some ⟨b, 0, none⟩)) w'
    | .box t x => force (rd N e x) fun v => NewReq w (.cells v.cells t) fun b w' => K (.pointer (some ⟨b, 0, none⟩)) w'
    | .buildSlice t len parts => forceP (pairs N e parts.toList) fun ps => evBuildSlice X t len ps fun el l => NewReq w (.cells (toArr l) el) fun b w' => K (.slice (some ⟨b, 0, none⟩) len len) w'
    | .load t a => match rd N e a with
      | .pointer (some a) => LdReq P t w a fun v => K v w
      | _ => GenReq P o (rd N e) w K
    | .store t a x => match rd N e a with
      | .pointer (some a) => force (rd N e x) fun v => StReq P t w a v fun w' => K undef w'
      | _ => GenReq P o (rd N e) w K
    | .convert src dst x => force (rd N e x) fun v => RunReq P (convert src dst v) w K
    | .makeSlice t l c => force (rd N e l) fun v1 => force (rd N e c) fun v2 => RunReq P (Instr.makeSlice t v1 v2) w K
    | .makeMap t r => RunReq P (Instr.makeMap t (r.map (rd N e))) w K
    | .lookup t x ix ok => RunReq P (Instr.lookup t (rd N e x) (rd N e ix) ok) w K
    | .mapUpdate t m k x => RunUReq P (Instr.mapUpdate t (rd N e m) (rd N e k) (rd N e x)) w fun w' => K undef w'
    | .insert t m k x => RunUReq P (Instr.mapUpdate t (rd N e m) (rd N e k) (rd N e x)) w fun w' => K undef w'
    | .range t x => RunReq P (Instr.range t (rd N e x)) w K
    | .next it s => RunReq P (Instr.next (rd N e it) s o.type) w K
    | .call c => evCall P X N o c e w K
    | _ => GenReq P o (rd N e) w K
section
variable {P : Program} {X : Tab} {N : Nat} {o : Oper} {e : Env}
theorem toArr_rdl (args : Array Operand) : toArr (rdl N e args.toList) = args.map (rd N e) := by
  apply Array.ext'; simp [toArr, rdl_eq]
section
variable {K : Value → Prop}
theorem evSlice_ok (hX : TabsOk P X) {t : Nat} {x : Operand} {lo hi : Option Operand} (ho : o.op = .slice t x lo hi none)
    (h : evSlice P X o (rd N e) t (rd N e x) (lo.map (rd N e)) (hi.map (rd N e)) K) : UOk P o (rd N e) K := by
  have hex : execOp (rd N e) o = (do pure (.value (← Instr.sliceAt t (rd N e x) (lo.map (rd N e)) (hi.map (rd N e)) none))) := by simp [execOp, ho]
  unfold evSlice at h
  replace h := tyK_out hX h
  obtain ⟨ti, ht, h⟩ := h
  generalize rd N e x = xv at *
  generalize lo.map (rd N e) = lov at *
  generalize hi.map (rd N e) = hiv at *
  split at h
  · rename_i el a len cap hd
    obtain ⟨te, hte, h⟩ := tyK_out hX h
    have hu := td_slice ht hd
    have key : ∀ (l h' : Nat), l ≤ h' → h' ≤ cap → (∀ w, (Instr.sliceBounds true len cap lov hiv none).run P w = .ok (l, h', cap) w) →
        K (.slice (if cap = l then a else a.map (·.add (scale l te.size))) (h' - l) (cap - l)) → UOk P o (rd N e) K := by
      intro l h' _ _ hb hk
      refine UOk.of_run _ hex (fun w => ?_) hk
      simp only [Instr.sliceAt, Instr.slice, Sem.run_bind, run_underlying hu, Result.andThen_ok, hb, run_sizeOf hte, scale_eq]
      rfl
    split at h
    · replace h := h.out
      obtain ⟨l, h', e1, e2, e3, e4, hk⟩ := h
      have l0 : l = 0 := by omega
      have hh : h' = len := by omega
      subst l0 hh
      exact key _ _ e3 e4 (fun w => by simp [Instr.sliceBounds]) hk
    · replace h := h.out
      obtain ⟨l, h', e1, e2, e3, e4, hk⟩ := h
      have l0 : l = 0 := by omega
      subst l0 e2
      exact key _ _ e3 e4 (fun w => by simp [Instr.sliceBounds, Instr.sliceBound, asIntOf, e4]) hk
    · replace h := h.out
      obtain ⟨l, h', e1, e2, e3, e4, hk⟩ := h
      have hh : h' = len := by omega
      subst hh e1
      exact key _ _ e3 e4 (fun w => by simp [Instr.sliceBounds, Instr.sliceBound, asIntOf, e3]) hk
    · replace h := h.out
      obtain ⟨l, h', e1, e2, e3, e4, hk⟩ := h
      subst e1 e2
      exact key _ _ e3 e4 (fun w => by simp [Instr.sliceBounds, Instr.sliceBound, asIntOf, e3, e4]) hk
    · exact UGenReq.out h
  · rename_i s hd
    have hu := td_str ht hd
    have key : ∀ (l h' : Nat), l ≤ h' → h' ≤ s.size → (∀ w, (Instr.sliceBounds false s.size s.size lov hiv none).run P w = .ok (l, h', s.size) w) →
        K (.string (exS s l h')) → UOk P o (rd N e) K := by
      intro l h' _ _ hb hk
      rw [exS_eq] at hk
      refine UOk.of_run _ hex (fun w => ?_) hk
      simp only [Instr.sliceAt, Instr.slice, Sem.run_bind, run_underlying hu, Result.andThen_ok, Option.isSome_none, Bool.false_eq_true, if_false, hb, Sem.run_pure]
    split at h
    · replace h := h.out
      obtain ⟨l, h', e1, e2, e3, e4, hk⟩ := h
      have l0 : l = 0 := by omega
      have hh : h' = s.size := by omega
      subst l0 hh
      exact key _ _ e3 e4 (fun w => by simp [Instr.sliceBounds]) hk
    · replace h := h.out
      obtain ⟨l, h', e1, e2, e3, e4, hk⟩ := h
      have l0 : l = 0 := by omega
      subst l0 e2
      exact key _ _ e3 e4 (fun w => by simp [Instr.sliceBounds, Instr.sliceBound, asIntOf, e4]) hk
    · replace h := h.out
      obtain ⟨l, h', e1, e2, e3, e4, hk⟩ := h
      have hh : h' = s.size := by omega
      subst hh e1
      exact key _ _ e3 e4 (fun w => by simp [Instr.sliceBounds, Instr.sliceBound, asIntOf, e3]) hk
    · replace h := h.out
      obtain ⟨l, h', e1, e2, e3, e4, hk⟩ := h
      subst e1 e2
      exact key _ _ e3 e4 (fun w => by simp [Instr.sliceBounds, Instr.sliceBound, asIntOf, e3, e4]) hk
    · exact UGenReq.out h
  · exact UGenReq.out h
theorem evLen_ok (hX : TabsOk P X) {c : Call} (ho : o.op = .call c) (hc : c.callee = .builtin .len)
    (h : evLen P X o (rd N e) c.argTypes.toList (rdl N e c.args.toList) K) : UOk P o (rd N e) K := by
  have hex : execOp (rd N e) o = (do pure (.value (← Builtin.len_ c.argTypes o.type (c.args.map (rd N e))))) := by simp [execOp, ho, resolve, hc, invoke, builtin]
  unfold evLen at h
  split at h
  · rename_i t ats x xs h1 h2
    have g1 : c.argTypes[0]? = some t := by rw [← Array.getElem?_toList, h1]; rfl
    have g2 : (c.args.map (rd N e))[0]? = some x := by
      rw [← Array.getElem?_toList, Array.toList_map, ← rdl_eq, h2]; rfl
    replace h := tyK_out hX h
    obtain ⟨ti, ht, h⟩ := h
    clear h1 h2
    split at h
    · rename_i hd
      refine UOk.of_run _ hex (fun w => ?_) h
      simp only [Builtin.len_, g1, g2, Sem.run_bind, run_underlying (td_slice ht hd), Result.andThen_ok]
      rfl
    · rename_i hd
      refine UOk.of_run _ hex (fun w => ?_) h
      simp only [Builtin.len_, g1, g2, Sem.run_bind, run_underlying (td_str ht hd), Result.andThen_ok]
      rfl
    · rename_i hd
      refine UOk.of_run _ hex (fun w => ?_) h
      simp only [Builtin.len_, g1, g2, Sem.run_bind, run_underlying (td_array ht hd), Result.andThen_ok]
      rfl
    · exact UGenReq.out h
  · exact UGenReq.out h
theorem evU_ok (hX : TabsOk P X) (h : evU P X N o e K) : UOk P o (rd N e) K := by
  unfold evU at h
  split at h
  · rename_i x ho; exact ⟨_, fun w => by simp only [execOp, ho]; rfl, h⟩
  · rename_i x ho; exact ⟨_, fun w => by simp only [execOp, ho]; rfl, h⟩
  · rename_i c a b ho
    split at h
    · rename_i b' hb
      replace h := h.out
      cases b'
      · exact ⟨_, fun w => by simp only [execOp, ho, Sem.run_bind, hb, asBool, Sem.run_pure, Result.andThen_ok]; rfl, h.2 rfl⟩
      · exact ⟨_, fun w => by simp only [execOp, ho, Sem.run_bind, hb, asBool, Sem.run_pure, Result.andThen_ok]; rfl, h.1 rfl⟩
    · exact h.elim
  · rename_i t parts ho
    rw [forceP_eq] at h
    obtain ⟨v, h1, h2⟩ := evBuild_run hX h
    have e1 : (parts.map fun (i, x) => (i, rd N e x)) = (pairs N e parts.toList).toArray := by apply Array.ext'; simp [pairs_eq]
    exact UOk.of_run (s := Instr.build t (parts.map fun (i, x) => (i, rd N e x))) v (by simp [execOp, ho]) (fun w => by rw [e1]; exact h1 w) h2
  · rename_i op t x y yt ho
    exact evBin_ok hX ho h
  · rename_i op t x ho
    split at h
    · rename_i b hb
      exact UOk.of_run (s := Op.unary .not (rd N e x)) _ (by simp [execOp, ho]) (fun w => by simp [hb, Op.unary]) h
    · rename_i k n hb
      exact UOk.of_run (s := Op.unary .neg (rd N e x)) _ (by simp [execOp, ho]) (fun w => by simp only [hb, Op.unary, Op.intArith, Sem.run_pure]) h.out
    · rename_i k n hb
      replace h := h.out
      unfold bitsOf at h
      exact UOk.of_run (s := Op.unary .xor (rd N e x)) _ (by simp [execOp, ho]) (fun w => by simp only [hb, Op.unary, Op.intBits, Sem.run_pure]) h
    · exact UGenReq.out h
  · rename_i src dst x ho
    obtain ⟨ts, hts, h⟩ := tyK_out hX h
    obtain ⟨td, htd, h⟩ := tyK_out hX h
    obtain ⟨is, ds, zs, _, hus, _, _⟩ := tiOf_info hts
    split at h
    · rename_i k _ n hd hx
      refine UOk.of_run (s := convert src dst (rd N e x)) _ (by simp [execOp, ho]) (fun w => ?_) h.out
      simp only [hx, convert, Sem.run_bind, run_underlying hus, run_underlying (td_int htd hd), Result.andThen_ok, Conv.intToInt]
      cases ds <;> rfl
    · rename_i s hd hx
      refine UOk.of_run (s := convert src dst (rd N e x)) _ (by simp [execOp, ho]) (fun w => ?_) h
      simp only [hx, convert, Sem.run_bind, run_underlying hus, run_underlying (td_str htd hd), Result.andThen_ok]
      cases ds <;> rfl
    · exact UGenReq.out h
  · rename_i t x lo hi ho
    exact evSlice_ok hX ho h
  · rename_i s x f ho
    replace h := tyK_out hX h
    obtain ⟨ti, ht, h⟩ := h
    split at h
    · rename_i fs hd
      obtain ⟨F, hu, hF⟩ := td_struct ht hd
      split at h
      · rename_i off ft hl
        replace h := tyK_out hX h
        obtain ⟨tf, htf, h⟩ := h
        split at h
        · exact h.elim
        · rename_i sz hsz
          split at h
          · rename_i y a hy
            refine UOk.of_run (s := Instr.fieldAt s (rd N e x) f) _ (by simp [execOp, ho]) (fun w => ?_) h
            rw [look_eq, hF, List.getElem?_map] at hl
            cases hi : F.toList[f]? with
            | none => simp [hi] at hl
            | some g =>
              simp [hi] at hl
              obtain ⟨rfl, rfl⟩ := hl
              have hi' : F[f]? = some g := by simpa using hi
              have hne : (tf.size = 0) = False := by simp [hsz]
              simp only [hy, Instr.fieldAt, Sem.run_bind, run_underlying hu, Result.andThen_ok, hi', Instr.sureAddr, Sem.run_pure, fieldPlace, run_sizeOf htf, hne, if_false]
          · exact UGenReq.out h
      · exact h.elim
    · exact UGenReq.out h
  · rename_i t x f ho
    replace h := tyK_out hX h
    obtain ⟨ti, ht, h⟩ := h
    split at h
    · rename_i fs hd
      obtain ⟨F, hu, hF⟩ := td_struct ht hd
      split at h
      · rename_i off ft hl
        split at h
        · rename_i cs hy
          obtain ⟨v, h1, h2⟩ := partL_run hX h
          refine UOk.of_run (s := Instr.field t (rd N e x) f) v (by simp [execOp, ho]) (fun w => ?_) h2
          rw [look_eq, hF, List.getElem?_map] at hl
          cases hi : F.toList[f]? with
          | none => simp [hi] at hl
          | some g =>
            simp [hi] at hl
            obtain ⟨rfl, rfl⟩ := hl
            have hi' : F[f]? = some g := by simpa using hi
            simp only [hy, Instr.field, Sem.run_bind, run_underlying hu, Result.andThen_ok, hi', asAgg, Sem.run_pure, h1]
        · exact UGenReq.out h
      · exact h.elim
    · exact UGenReq.out h
  · rename_i t x ix ho
    replace h := tyK_out hX h
    obtain ⟨ti, ht, h⟩ := h
    split at h
    · rename_i el base len cap k i hd hx hix
      replace h := tyK_out hX h
      obtain ⟨te, hte, h⟩ := h
      replace h := h.out
      obtain ⟨j, a, e1, e2, e3, h⟩ := h
      refine UOk.of_run (s := Instr.indexAt t (rd N e x) (rd N e ix)) _ (by simp [execOp, ho]) (fun w => ?_) h
      subst e1 e3
      have h0 : (0 : Int) ≤ (j : Int) ∧ (j : Int) < (len : Int) := by omega
      simp only [hx, hix, Instr.indexAt, asIntOf, Sem.run_bind, Sem.run_pure, Result.andThen_ok, run_underlying (td_slice ht hd), if_pos h0, run_sizeOf hte, Int.toNat_natCast, scale_eq]
    · rename_i n el a k i hd hx hix
      replace h := tyK_out hX h
      obtain ⟨te, hte, h⟩ := h
      replace h := h.out
      obtain ⟨j, e1, e2, h⟩ := h
      refine UOk.of_run (s := Instr.indexAt t (rd N e x) (rd N e ix)) _ (by simp [execOp, ho]) (fun w => ?_) h
      subst e1
      have h0 : (0 : Int) ≤ (j : Int) ∧ (j : Int) < (n : Int) := by omega
      simp only [hx, hix, Instr.indexAt, asIntOf, Sem.run_bind, Sem.run_pure, Result.andThen_ok, run_underlying (td_array ht hd), Instr.sureAddr, if_pos h0, run_sizeOf hte, Int.toNat_natCast, scale_eq]
    · exact UGenReq.out h
  · rename_i t x ix ho
    replace h := tyK_out hX h
    obtain ⟨ti, ht, h⟩ := h
    split at h
    · rename_i n el cs k i hd hx hix
      replace h := tyK_out hX h
      obtain ⟨te, hte, h⟩ := h
      replace h := h.out
      obtain ⟨j, e1, e2, h⟩ := h
      rw [scale_eq] at h
      obtain ⟨v, h1, h2⟩ := partL_run hX h
      refine UOk.of_run (s := Instr.index t (rd N e x) (rd N e ix)) v (by simp [execOp, ho]) (fun w => ?_) h2
      subst e1
      have h0 : (0 : Int) ≤ (j : Int) ∧ (j : Int) < (n : Int) := by omega
      simp only [hx, hix, Instr.index, asIntOf, Sem.run_bind, Sem.run_pure, Result.andThen_ok, run_underlying (td_array ht hd), if_pos h0, run_sizeOf hte, Int.toNat_natCast, h1]
    · rename_i s k i hd hx hix
      replace h := h.out
      obtain ⟨j, b, e1, e2, h⟩ := h
      refine UOk.of_run (s := Instr.index t (rd N e x) (rd N e ix)) _ (by simp [execOp, ho]) (fun w => ?_) h
      subst e1
      have h0 : (0 : Int) ≤ (j : Int) := by omega
      have e3 : s[j]? = some b := by
        have hl : j < s.data.size := (Array.getElem?_eq_some_iff.1 e2).1
        have hl' : j < s.size := hl
        rw [getElem?_pos s j hl']
        have := (Array.getElem?_eq_some_iff.1 e2).2
        exact congrArg some this
      simp only [hx, hix, Instr.index, asIntOf, Sem.run_bind, Sem.run_pure, Result.andThen_ok, run_underlying (td_str ht hd), if_pos h0, Int.toNat_natCast, e3]
    · exact UGenReq.out h
  · rename_i t ix ho
    split at h
    · rename_i vs hx
      split at h
      · rename_i v hl
        refine UOk.of_run (s := Instr.extract (rd N e t) ix) v (by simp [execOp, ho]) (fun w => ?_) h
        rw [look_eq] at hl
        have hl' : vs[ix]? = some v := by simpa using hl
        simp only [hx, Instr.extract, hl', Sem.run_pure]
      · exact h.elim
    · exact UGenReq.out h
  · rename_i fn first captured ho
    rw [forceL_eq, forceL_eq, toArr_rdl, toArr_rdl] at h
    exact UOk.of_run (s := Instr.makeFunc fn (first.map (rd N e)) (captured.map (rd N e))) _ (by simp [execOp, ho]) (fun w => by simp [Instr.makeFunc]) h
  · rename_i x ho
    split at h
    · rename_i y a hx
      exact ⟨_, fun w => by simp only [execOp, ho, hx]; rfl, h⟩
    · rename_i f a c hx
      exact ⟨_, fun w => by simp only [execOp, ho, hx]; rfl, h⟩
    · exact UGenReq.out h
  · rename_i c ho
    split at h
    · rename_i hc
      exact evLen_ok hX ho hc h
    · rename_i hc
      unfold evMax at h
      split at h
      · rename_i k x k' y hl
        refine UOk.of_run (s := Builtin.max_ c.argTypes o.type (c.args.map (rd N e))) _ (by simp [execOp, ho, resolve, hc, invoke, builtin]) (fun w => ?_) h
        have : (c.args.map (rd N e)).toList = [.int k x, .int k' y] := by rw [Array.toList_map, ← rdl_eq, hl]
        simp only [Builtin.max_, this, List.foldlM_cons, List.foldlM_nil, Builtin.max2, Sem.run_bind, Sem.run_pure, Result.andThen_ok]
        rw [Int.max_def]
        congr 2
        split <;> split <;> omega
      · exact UGenReq.out h
    · rename_i hc
      unfold evMin at h
      split at h
      · rename_i k x k' y hl
        refine UOk.of_run (s := Builtin.min_ c.argTypes o.type (c.args.map (rd N e))) _ (by simp [execOp, ho, resolve, hc, invoke, builtin]) (fun w => ?_) h
        have : (c.args.map (rd N e)).toList = [.int k x, .int k' y] := by rw [Array.toList_map, ← rdl_eq, hl]
        simp only [Builtin.min_, this, List.foldlM_cons, List.foldlM_nil, Builtin.min2, Sem.run_bind, Sem.run_pure, Result.andThen_ok]
        rw [Int.min_def]
        congr 2
        split <;> split <;> omega
      · exact UGenReq.out h
    · exact UGenReq.out h
  · exact UGenReq.out h
end
variable {w : World} {K : Value → World → Prop}
theorem gen_ok (h : GenReq P o (rd N e) w K) : OpOk P o (rd N e) w K := by exact h.out
theorem opOk_of_run {s : Sem Value} (ho : execOp (rd N e) o = (do pure (.value (← s)))) (h : ∃ v w', s.run P w = .ok v w' ∧ K v w') : OpOk P o (rd N e) w K := by
  obtain ⟨v, w', h1, h2⟩ := h
  unfold OpOk
  rw [ho]
  simp only [Sem.run_bind, h1, Result.andThen_ok, Sem.run_pure]
  exact h2
theorem opOk_of_runU {s : Sem Unit} (ho : execOp (rd N e) o = (do s; pure .skip)) (h : ∃ w', s.run P w = .ok () w' ∧ K undef w') : OpOk P o (rd N e) w K := by
  obtain ⟨w', h1, h2⟩ := h
  unfold OpOk
  rw [ho]
  simp only [Sem.run_bind, h1, Result.andThen_ok, Sem.run_pure]
  exact h2
theorem evCall_ok (hX : TabsOk P X) {c : Call} (ho : o.op = .call c) (h : evCall P X N o c e w K) : OpOk P o (rd N e) w K := by
  unfold evCall at h
  split at h
  · rename_i b hc
    split at h
    · rw [forceL_eq, toArr_rdl] at h
      exact opOk_of_run (by simp [execOp, ho, resolve, hc, invoke, builtin]) h.out
    · rw [forceL_eq, toArr_rdl] at h
      exact opOk_of_run (by simp [execOp, ho, resolve, hc, invoke, builtin]) h.out
    · exact gen_ok h
  · rename_i f hc
    split at h
    · rename_i fn first captured hf
      split at h
      · rename_i g
        split at h
        · rename_i hg
          obtain ⟨fnd, h1, h2, h3⟩ := hX.g g hg
          rw [forceL_eq] at h
          replace h := h.out
          have e1 : toArr (first.toList ++ rdl N e c.args.toList ++ captured.toList) = first ++ c.args.map (rd N e) ++ captured := by
            apply Array.ext'; simp [toArr, rdl_eq]
          rw [e1] at h
          unfold OpOk
          have hex : execOp (rd N e) o = callFunc g (first ++ c.args.map (rd N e) ++ captured) := by
            simp [execOp, ho, resolve, hc, hf, Deferred.ofValue, invoke]
          rw [hex]
          have : (callFunc g (first ++ c.args.map (rd N e) ++ captured)).run P w = .ok (.enter g (first ++ c.args.map (rd N e) ++ captured)) w := by
            have h2' : fnd.body.isNone = false := by cases hb : fnd.body <;> simp_all
            simp only [callFunc, Sem.run_bind, run_program, Result.andThen_ok, h1, h3, h2', Bool.false_eq_true, if_false, Sem.run_pure]
          rw [this]
          exact h
        · exact gen_ok h
      · exact gen_ok h
    · exact gen_ok h
  · exact gen_ok h
theorem evOp_ok (hX : TabsOk P X) (h : evOp P X N o e w K) : OpOk P o (rd N e) w K := by
  unfold evOp at h
  split at h
  · obtain ⟨v, h1, h2⟩ := evU_ok hX h
    unfold OpOk
    rw [h1 w]
    exact h2
  split at h
  · rename_i t ho
    obtain ⟨ti, ht, h⟩ := tyK_out hX h
    obtain ⟨z, hz, hzc⟩ := run_zeroValue ht
    refine opOk_of_run (s := Instr.alloc t true (.tuple #[])) (by simp [execOp, ho]) ⟨_, _, ?_, h.out⟩
    have : z.cells = toArr ti.zero := by apply Array.ext'; simp [toArr, hzc]
    simp only [Instr.alloc, Sem.run_bind, hz, Result.andThen_ok, newVar, newRow, run_newObj, Sem.run_pure, this]
    rfl
  · rename_i t x ho
    rw [force_eq] at h
    refine opOk_of_run (s := Instr.box t (rd N e x)) (by simp [execOp, ho]) ⟨_, _, ?_, h.out⟩
    simp only [Instr.box, Sem.run_bind, Result.andThen_ok, newVar, newRow, run_newObj, Sem.run_pure]
    rfl
  · rename_i t len parts ho
    have : (parts.map fun (i, x) => (i, rd N e x)) = (pairs N e parts.toList).toArray := by apply Array.ext'; simp [pairs_eq]
    rw [forceP_eq] at h
    obtain ⟨el, l, h1, h2⟩ := evBuildSlice_run hX h
    exact opOk_of_run (s := Instr.buildSlice t len (parts.map fun (i, x) => (i, rd N e x))) (by simp [execOp, ho]) ⟨_, _, by rw [this]; exact h1 w, h2.out⟩
  · rename_i t a ho
    split at h
    · rename_i x ad hx
      obtain ⟨v, h1, h2⟩ := h.out
      refine opOk_of_run (s := Instr.loadAt t (rd N e a)) (by simp [execOp, ho]) ⟨v, w, ?_, h2⟩
      simp only [hx, Instr.loadAt, Instr.sureAddr, Sem.run_bind, Sem.run_pure, Result.andThen_ok, h1]
    · exact gen_ok h
  · rename_i t a x ho
    split at h
    · rename_i y ad hy
      rw [force_eq] at h
      obtain ⟨w', h1, h2⟩ := h.out
      refine opOk_of_runU (s := Instr.storeAt t (rd N e a) (rd N e x)) (by simp [execOp, ho]) ⟨w', ?_, h2⟩
      simp only [hy, Instr.storeAt, Instr.sureAddr, Sem.run_bind, Sem.run_pure, Result.andThen_ok, h1]
    · exact gen_ok h
  · rename_i src dst x ho
    rw [force_eq] at h
    exact opOk_of_run (by simp [execOp, ho]) h.out
  · rename_i t l c ho
    rw [force_eq, force_eq] at h
    exact opOk_of_run (by simp [execOp, ho]) h.out
  · rename_i t r ho
    exact opOk_of_run (by simp [execOp, ho]) h.out
  · rename_i t x ix ok ho
    exact opOk_of_run (by simp [execOp, ho]) h.out
  · rename_i t m k x ho
    exact opOk_of_runU (s := Instr.mapUpdate t (rd N e m) (rd N e k) (rd N e x)) (by simp [execOp, ho]) h.out
  · rename_i t m k x ho
    exact opOk_of_runU (s := Instr.mapUpdate t (rd N e m) (rd N e k) (rd N e x)) (by simp [execOp, ho]) h.out
  · rename_i t x ho
    exact opOk_of_run (by simp [execOp, ho]) h.out
  · rename_i it s ho
    exact opOk_of_run (by simp [execOp, ho]) h.out
  · rename_i c ho
    exact evCall_ok hX ho h
  · exact gen_ok h
end
end Go.Ev
namespace Go.Ev
open Go
def dstAt (all : List Oper) (j : Nat) : Option Nat := match look all j with | some o => o.dst | none => none
def evGuard (N : Nat) (all : List Oper) (g : Option (Nat × Bool)) (e : Env) (A B : Env → Prop) : Prop :=
  match g with
  | none => A e
  | some (j, want) => match dstAt all j with
    | none => B e
    | some d => match Nat.blt d N with
      | false => B e
      | true => match e d with
        | .bool b => BrReq b
          (match want with | true => A (put d (.bool true) e) | false => B (put d (.bool true) e))
          (match want with | true => B (put d (.bool false) e) | false => A (put d (.bool false) e))
        | _ => B e
def evOps (P : Program) (X : Tab) (N : Nat) (all : List Oper) (l : List Oper) : (Env → World → Prop) → Env → World → Prop :=
  List.rec (motive := fun _ => (Env → World → Prop) → Env → World → Prop) (fun k e w => k e w)
    (fun o _ ih k e w => evGuard N all o.guard e
      (fun e => evOp P X N o e w fun v w' => force v fun v => ih k (putO o.dst v e) w')
      (fun e => ih k (putO o.dst undef e) w)) l
theorem evOps_cons {P : Program} {X : Tab} {N : Nat} {all : List Oper} {o : Oper} {rest : List Oper} {k : Env → World → Prop} {e : Env} {w : World} : evOps P X N all (o :: rest) k e w = evGuard N all o.guard e
      (fun e => evOp P X N o e w fun v w' => force v fun v => evOps P X N all rest k (putO o.dst v e) w')
      (fun e => evOps P X N all rest k (putO o.dst undef e) w) := rfl
structure LoopReq (P : Program) (_X : Tab) (N : Nat) (c : Code) (k : Env → World → Prop) (kx : Nat → Env → World → Prop) (kr : Env → World → Prop) (e : Env) (w : World) : Prop where
  of ::
  out : ∀ a, Agree N e a → (Code.loop c).wp P (fun ex a w => match ex with | .normal => ∃ e, Agree N e a ∧ k e w | .exit id => ∃ e, Agree N e a ∧ kx id e w | .ret => ∃ e, Agree N e a ∧ kr e w | _ => False) a w
structure DrawReq (P : Program) (_X : Tab) (N : Nat) (ops : Array Oper) (k : Env → World → Prop) (e : Env) (w : World) : Prop where
  of ::
  out : ∀ a id, Agree N e a → (Code.region id ops true).wp P (fun ex a w => match ex with | .normal => ∃ e, Agree N e a ∧ k e w | _ => False) a w
structure SeqReq (P : Program) (_X : Tab) (N : Nat) (x y : Code) (k : Env → World → Prop) (kx : Nat → Env → World → Prop) (kr : Env → World → Prop) (e : Env) (w : World) : Prop where
  of ::
  out : ∀ a, Agree N e a → (Code.seq x y).wp P (fun ex a w => match ex with | .normal => ∃ e, Agree N e a ∧ k e w | .exit id => ∃ e, Agree N e a ∧ kx id e w | .ret => ∃ e, Agree N e a ∧ kr e w | _ => False) a w
def putB (x : Operand) (b : Bool) (e : Env) : Env := match x with | .tmp t => put t (.bool b) e | _ => e
abbrev EvT : Type := (Env → World → Prop) → (Nat → Env → World → Prop) → (Env → World → Prop) → Env → World → Prop
def ev (P : Program) (X : Tab) (N : Nat) (c : Code) : EvT :=
  Code.rec (motive := fun _ => EvT)
    (fun k _ _ e w => k e w)
    (fun _ ops draw k _ _ e w => match draw with
      | false => evOps P X N ops.toList ops.toList k e w
      | true => DrawReq P X N ops k e w)
    (fun a b _ ihb k kx kr e w => match a with
      | .region _ ops false => evOps P X N ops.toList ops.toList (fun e w => ihb k kx kr e w) e w
      | .region _ ops true => DrawReq P X N ops (fun e w => ihb k kx kr e w) e w
      | _ => SeqReq P X N a b k kx kr e w)
    (fun c _ _ iht ihf k kx kr e w => match rd N e c with
      | .bool b => BrReq b (iht k kx kr (putB c true e) w) (ihf k kx kr (putB c false e) w)
      | _ => False)
    (fun id _ ih k kx kr e w => ih k (fun j e w => match Nat.beq j id with | true => k e w | false => kx j e w) kr e w)
    (fun c _ k kx kr e w => LoopReq P X N c k kx kr e w)
    (fun _ _ _ _ _ _ _ _ _ _ _ => False)
    (fun id _ kx _ e w => kx id e w)
    (fun _ _ _ _ _ _ _ => False)
    (fun _ k _ _ e w => k e w)
    (fun _ _ _ _ _ _ => False)
    (fun _ _ kr e w => kr e w)
    (fun _ _ _ _ _ _ => False) c
def Qof (N : Nat) (k : Env → World → Prop) (kx : Nat → Env → World → Prop) (kr : Env → World → Prop) : Exit → Act → World → Prop :=
  fun ex a w => match ex with | .normal => ∃ e, Agree N e a ∧ k e w | .exit id => ∃ e, Agree N e a ∧ kx id e w | .ret => ∃ e, Agree N e a ∧ kr e w | _ => False
section
variable {P : Program} {X : Tab} {N : Nat}
theorem agree_same {e : Env} {a : Act} (h : Agree N e a) {d : Nat} {v : Value} (hd : d < N) (hv : e d = v) : Agree N (put d v e) a := by
  refine ⟨h.size, fun i hi => ?_, h.defers⟩
  rw [h.at_ i hi]
  unfold put
  cases hb : Nat.beq i d with
  | false => rfl
  | true => have := Nat.eq_of_beq_eq_true hb; subst this; simp [hv]
theorem blt_lt {a b : Nat} (h : Nat.blt a b = true) : a < b := by simpa [Nat.blt_eq] using h
theorem agree_putB {e : Env} {a : Act} (h : Agree N e a) {x : Operand} {b : Bool} (hv : rd N e x = .bool b) : Agree N (putB x b e) a := by
  cases x with
  | tmp t =>
    simp only [rd] at hv
    cases hb : Nat.blt t N with
    | false => rw [hb] at hv; cases hv
    | true => rw [hb] at hv; exact agree_same h (blt_lt hb) hv
  | const v => exact h
  | global g => exact h
  | func f => exact h
theorem yielded_eq {ops : Array Oper} {e : Env} {a : Act} (h : Agree N e a) (j : Nat) :
    yielded ops a.tmps j = match dstAt ops.toList j with
      | none => none
      | some d => match Nat.blt d N with | false => none | true => match e d with | .bool b => some b | _ => none := by
  unfold yielded dstAt
  rw [look_eq, Array.getElem?_toList]
  cases ho : ops[j]? with
  | none => rfl
  | some o =>
    simp only [Option.bind_some]
    cases hd : o.dst with
    | none => rfl
    | some d =>
      simp only [Option.bind_some]
      cases hb : Nat.blt d N with
      | false =>
        have : a.tmps[d]? = none := Array.getElem?_eq_none (by
          rw [h.size]
          exact Nat.le_of_not_lt fun hlt => by
            have : Nat.blt d N = true := by simpa [Nat.blt_eq] using hlt
            rw [this] at hb; cases hb)
        simp [this]
      | true =>
        rw [h.at_ d (blt_lt hb)]
        cases e d <;> rfl
theorem evGuard_ok {ops : Array Oper} {o : Oper} {e : Env} {a : Act} {A B : Env → Prop} (h : Agree N e a) (hg : evGuard N ops.toList o.guard e A B) :
    (Region.wanted o (yielded ops a.tmps) = true ∧ ∃ e', Agree N e' a ∧ A e') ∨ (Region.wanted o (yielded ops a.tmps) = false ∧ ∃ e', Agree N e' a ∧ B e') := by
  unfold evGuard at hg
  unfold Region.wanted
  cases hn : o.guard with
  | none => rw [hn] at hg; left; exact ⟨rfl, e, h, hg⟩
  | some p =>
    obtain ⟨j, want⟩ := p
    rw [hn] at hg
    simp only at hg ⊢
    rw [yielded_eq h j]
    cases hd : dstAt ops.toList j with
    | none => rw [hd] at hg; right; exact ⟨rfl, e, h, hg⟩
    | some d =>
      rw [hd] at hg
      simp only at hg ⊢
      cases hb : Nat.blt d N with
      | false => rw [hb] at hg; right; exact ⟨rfl, e, h, hg⟩
      | true =>
        rw [hb] at hg
        simp only at hg ⊢
        cases hv : e d with
        | bool b =>
          rw [hv] at hg
          simp only at hg ⊢
          replace hg := hg.out
          cases b with
          | true =>
            have h1 := hg.1 rfl
            have ha := agree_same h (blt_lt hb) hv
            cases want
            · right; exact ⟨rfl, _, ha, h1⟩
            · left; exact ⟨rfl, _, ha, h1⟩
          | false =>
            have h1 := hg.2 rfl
            have ha := agree_same h (blt_lt hb) hv
            cases want
            · left; exact ⟨rfl, _, ha, h1⟩
            · right; exact ⟨rfl, _, ha, h1⟩
        | _ => rw [hv] at hg; right; exact ⟨rfl, e, h, hg⟩
theorem evOps_ok (hX : TabsOk P X) {ops : Array Oper} {k : Env → World → Prop} {Q : Exit → Act → World → Prop} (hQ : ∀ e a w, Agree N e a → k e w → Q .normal a w) :
    ∀ (l : List Oper) (e : Env) (a : Act) (w : World), Agree N e a → evOps P X N ops.toList l k e w → wpList P ops Q l a w
  | [], e, a, w, ha, h => hQ e a w ha h
  | o :: rest, e, a, w, ha, h => by
    rw [evOps_cons] at h
    unfold wpList
    rcases evGuard_ok ha h with ⟨hw, e', ha', h⟩ | ⟨hw, e', ha', h⟩
    · rw [if_pos hw]
      left
      have h1 := evOp_ok hX h
      rw [← ha'.eval] at h1
      refine OpOk.wp (OpOk.mono h1 fun v w' hk => ?_)
      rw [force_eq] at hk
      exact evOps_ok hX hQ rest _ _ _ (ha'.put _ _) hk
    · rw [if_neg (by rw [hw]; simp)]
      exact evOps_ok hX hQ rest _ _ _ (ha'.put _ _) h
theorem ev_ok (hX : TabsOk P X) : ∀ (c : Code) (k : Env → World → Prop) (kx : Nat → Env → World → Prop) (kr : Env → World → Prop) (e : Env) (a : Act) (w : World),
    Agree N e a → ev P X N c k kx kr e w → c.wp P (Qof N k kx kr) a w := by
  intro c
  induction c with
  | skip => intro k kx kr e a w ha h; exact wp_skip ⟨e, ha, h⟩
  | region id ops draw =>
    intro k kx kr e a w ha h
    cases draw with
    | false => exact wp_region_list (evOps_ok hX (fun e a w ha hk => ⟨e, ha, hk⟩) _ e a w ha h)
    | true =>
      have h : DrawReq P X N ops k e w := h
      replace h := h.out
      exact wp_mono (h a id ha) fun ex a w hq => by cases ex <;> first | exact hq | exact hq.elim
  | seq x y ihx ihy =>
    intro k kx kr e a w ha h
    have key : ev P X N x (fun e w => ev P X N y k kx kr e w) kx kr e w → (Code.seq x y).wp P (Qof N k kx kr) a w := by
      intro h
      refine wp_seq (wp_mono (ihx _ kx kr e a w ha h) fun ex a w hq => ?_)
      cases ex with
      | normal => obtain ⟨e, ha, hk⟩ := hq; exact ihy k kx kr e a w ha hk
      | _ => exact hq
    cases x with
    | region id ops draw =>
      cases draw with
      | false => exact key h
      | true => exact key h
    | _ =>
      have h : SeqReq P X N _ y k kx kr e w := h
      replace h := h.out
      exact h a ha
  | cond c t f iht ihf =>
    intro k kx kr e a w ha h
    have h : (match rd N e c with
      | .bool b => BrReq b (ev P X N t k kx kr (putB c true e) w) (ev P X N f k kx kr (putB c false e) w)
      | _ => False) := h
    split at h
    · rename_i b hb
      have he : a.eval c = .bool b := by rw [ha.eval]; exact hb
      replace h := h.out
      cases b with
      | true => exact wp_cond_true he (iht k kx kr _ a w (agree_putB ha hb) (h.1 rfl))
      | false => exact wp_cond_false he (ihf k kx kr _ a w (agree_putB ha hb) (h.2 rfl))
    · exact h.elim
  | block id c ih =>
    intro k kx kr e a w ha h
    refine wp_block (wp_mono (ih k _ kr e a w ha h) fun ex a w hq => ?_)
    cases ex with
    | exit j =>
      obtain ⟨e, ha, hk⟩ := hq
      simp only [Exit.inBlock]
      cases hb : Nat.beq j id with
      | true =>
        rw [hb] at hk
        rw [if_pos (Nat.eq_of_beq_eq_true hb)]
        exact ⟨e, ha, hk⟩
      | false =>
        rw [hb] at hk
        rw [if_neg (fun he => by subst he; simp at hb)]
        exact ⟨e, ha, hk⟩
    | _ => exact hq
  | loop c ih =>
    intro k kx kr e a w ha h
    have h : LoopReq P X N c k kx kr e w := h
    replace h := h.out
    exact h a ha
  | rangeFunc f ps a b _ _ => intro k kx kr e a w ha h; exact h.elim
  | exit id => intro k kx kr e a w ha h; exact wp_exit ⟨e, ha, h⟩
  | scope b _ => intro k kx kr e a w ha h; exact h.elim
  | label l => intro k kx kr e a w ha h; exact wp_label ⟨e, ha, h⟩
  | goto l => intro k kx kr e a w ha h; exact h.elim
  | ret => intro k kx kr e a w ha h; exact wp_ret ⟨e, ha, h⟩
  | refuse s => intro k kx kr e a w ha h; exact h.elim
theorem SeqReq.go (hX : TabsOk P X) {x y : Code} {k : Env → World → Prop} {kx : Nat → Env → World → Prop} {kr : Env → World → Prop} {e : Env} {w : World}
    (h : ev P X N x (fun e w => ev P X N y k kx kr e w) kx kr e w) : SeqReq P X N x y k kx kr e w := by
  constructor
  intro a ha
  refine wp_seq (wp_mono (ev_ok hX x _ kx kr e a w ha h) fun ex a w hq => ?_)
  cases ex with
  | normal => obtain ⟨e, ha, hk⟩ := hq; exact ev_ok hX y k kx kr e a w ha hk
  | _ => exact hq
def lkp : List (Nat × Value) → Nat → Option Value
  | [], _ => none
  | p :: l, i => match Nat.beq i p.1 with | true => some p.2 | false => lkp l i
def elemN : Nat → List Nat → Bool
  | _, [] => false
  | i, j :: l => match Nat.beq i j with | true => true | false => elemN i l
def over (vs : List (Nat × Value)) (keep : List Nat) (f e : Env) : Env := fun i =>
  match lkp vs i with
  | some v => v
  | none => match elemN i keep with | true => e i | false => f i
def Match : List (Nat × Value) → Env → Prop
  | [], _ => True
  | p :: l, e => e p.1 = p.2 ∧ Match l e
def Keep : List Nat → Env → Env → Prop
  | [], _, _ => True
  | i :: l, e', e => e' i = e i ∧ Keep l e' e
theorem over_same {vs : List (Nat × Value)} {keep : List Nat} {e' e : Env} (hm : Match vs e') (hk : Keep keep e' e) : over vs keep e' e = e' := by
  have h1 : ∀ vs : List (Nat × Value), Match vs e' → ∀ i v, lkp vs i = some v → v = e' i := by
    intro vs
    induction vs with
    | nil => intro _ i v h; simp [lkp] at h
    | cons p l ih =>
      intro hm i v h
      simp only [lkp] at h
      split at h
      · rename_i hb; cases h; have := Nat.eq_of_beq_eq_true hb; subst this; exact hm.1.symm
      · exact ih hm.2 i v h
  have h2 : ∀ keep : List Nat, Keep keep e' e → ∀ i, elemN i keep = true → e i = e' i := by
    intro keep
    induction keep with
    | nil => intro _ i h; simp [elemN] at h
    | cons j l ih =>
      intro hk i h
      simp only [elemN] at h
      split at h
      · rename_i hb; have := Nat.eq_of_beq_eq_true hb; subst this; exact hk.1.symm
      · exact ih hk.2 i h
  funext i
  unfold over
  cases hl : lkp vs i with
  | some v => exact h1 vs hm i v hl
  | none =>
    cases he : elemN i keep with
    | true => exact h2 keep hk i he
    | false => rfl
theorem over_start {vs : List (Nat × Value)} {keep : List Nat} {e : Env} (hm : Match vs e) : over vs keep e e = e := by
  refine over_same hm ?_
  induction keep with
  | nil => trivial
  | cons i l ih => exact ⟨rfl, ih⟩
theorem SeqReq.cut (hX : TabsOk P X) {σ : Type} (vars : σ → List (Nat × Value)) (keep : List Nat) (I : σ → World → Prop)
    {x y : Code} {k : Env → World → Prop} {kx : Nat → Env → World → Prop} {kr : Env → World → Prop} {e : Env} {w : World}
    (h1 : ev P X N x (fun e' w' => ∃ s, I s w' ∧ Match (vars s) e' ∧ Keep keep e' e) kx kr e w)
    (h2 : ∀ s w' f, I s w' → ev P X N y k kx kr (over (vars s) keep f e) w') : SeqReq P X N x y k kx kr e w := by
  constructor
  intro a ha
  refine wp_seq (wp_mono (ev_ok hX x _ kx kr e a w ha h1) fun ex a w hq => ?_)
  cases ex with
  | normal =>
    obtain ⟨e', ha, s, hI, hm, hk⟩ := hq
    have := h2 s w e' hI
    rw [over_same hm hk] at this
    exact ev_ok hX y k kx kr e' a w ha this
  | _ => exact hq
theorem LoopReq.inv (hX : TabsOk P X) {σ : Type} (vars : σ → List (Nat × Value)) (keep : List Nat) (I : σ → World → Prop) (μ : σ → Nat) (s0 : σ)
    {c : Code} {k : Env → World → Prop} {kx : Nat → Env → World → Prop} {kr : Env → World → Prop} {e : Env} {w : World}
    (h0 : I s0 w) (hv : Match (vars s0) e)
    (round : ∀ s w f, I s w → ev P X N c (fun e' w' => ∃ s', I s' w' ∧ μ s' < μ s ∧ Match (vars s') e' ∧ Keep keep e' e) kx kr (over (vars s) keep f e) w) :
    LoopReq P X N c k kx kr e w := by
  constructor
  intro a ha
  refine wp_loop_ghost (fun n a w => ∃ s f, μ s = n ∧ I s w ∧ Agree N (over (vars s) keep f e) a) (μ s0) ⟨s0, e, rfl, h0, by rw [over_start hv]; exact ha⟩ ?_
  rintro n a w ⟨s, f, rfl, hI, ha⟩
  refine wp_mono (ev_ok hX c _ kx kr _ a w ha (round s w f hI)) fun ex a w hq => ?_
  cases ex with
  | normal =>
    obtain ⟨e', ha, s', hI, hlt, hm, hk⟩ := hq
    refine ⟨μ s', hlt, s', e', rfl, hI, ?_⟩
    rw [over_same hm hk]
    exact ha
  | _ => exact hq
end
end Go.Ev
namespace Go.Ev
open Go
abbrev Mem := Nat → Option Obj
abbrev Own := List (Nat × Obj)
def keys : Own → List Nat
  | [] => []
  | x :: l => x.1 :: keys l
theorem keys_append (a b : Own) : keys (a ++ b) = keys a ++ keys b := by
  induction a with
  | nil => rfl
  | cons x l ih => simp [keys, ih]
theorem mem_keys {b : Nat} {L : Own} : b ∈ keys L ↔ ∃ o, (b, o) ∈ L := by
  induction L with
  | nil => simp [keys]
  | cons x l ih =>
    obtain ⟨c, o⟩ := x
    simp only [keys, List.mem_cons, ih, Prod.mk.injEq]
    constructor
    · rintro (rfl | ⟨o', h⟩)
      · exact ⟨o, .inl ⟨rfl, rfl⟩⟩
      · exact ⟨o', .inr h⟩
    · rintro ⟨o', (⟨rfl, rfl⟩ | h)⟩
      · exact .inl rfl
      · exact .inr ⟨o', h⟩
theorem keys_map (L : Own) : keys L = L.map (·.1) := by
  induction L with
  | nil => rfl
  | cons x l ih => simp [keys, ih]
def Mem.Le (m m' : Mem) : Prop := ∀ b o, m b = some o → m' b = some o
theorem Mem.Le.refl (m : Mem) : Mem.Le m m := fun _ _ h => h
theorem Mem.Le.trans {a b c : Mem} (h : Mem.Le a b) (k : Mem.Le b c) : Mem.Le a c := fun x o hx => k x o (h x o hx)
structure Loc (m0 : Mem) (S : List Nat) (w0 : World) (m : Mem) (L : Own) (w : World) : Prop where
  os : w.os = w0.os
  tape : w.tape = w0.tape
  output : w.output = w0.output
  size : w0.heap.size ≤ w.heap.size
  fr : ∀ k, k < w0.heap.size → k ∉ S → w.heap[k]? = w0.heap[k]?
  sub : ∀ b o, m b = some o → w.heap[b]? = some o
  apart : ∀ b o, m b = some o → b ∉ keys L
  own : ∀ x ∈ L, w.heap[x.1]? = some x.2
  nodup : (keys L).Nodup
  new : ∀ b ∈ keys L, w0.heap.size ≤ b ∨ b ∈ S
  le : Mem.Le m0 m
  mnew : ∀ b o, m b = some o → m0 b = some o ∨ w0.heap.size ≤ b ∨ b ∈ S
structure Pre (m : Mem) (L : Own) (w : World) : Prop where
  sub : ∀ b o, m b = some o → w.heap[b]? = some o
  apart : ∀ b o, m b = some o → b ∉ keys L
  own : ∀ x ∈ L, w.heap[x.1]? = some x.2
  nodup : (keys L).Nodup
theorem Pre.loc {m : Mem} {L : Own} {w : World} (h : Pre m L w) : Loc m (keys L) w m L w :=
  ⟨rfl, rfl, rfl, Nat.le_refl _, fun _ _ _ => rfl, h.sub, h.apart, h.own, h.nodup, fun _ hb => .inr hb, Mem.Le.refl m, fun _ _ h => .inl h⟩
section
variable {P : Program} {X : Tab} {N : Nat} {m0 m : Mem} {S : List Nat} {w0 w : World} {L : Own}
theorem heap_lt {w : World} {b : Nat} {o : Obj} (h : w.heap[b]? = some o) : b < w.heap.size := (Array.getElem?_eq_some_iff.1 h).1
theorem Loc.drew (h : Loc m0 S w0 m L w) : Loc m0 S w0 m L w.drew :=
  ⟨h.os, h.tape, h.output, h.size, h.fr, h.sub, h.apart, h.own, h.nodup, h.new, h.le, h.mnew⟩
theorem Loc.alloc (h : Loc m0 S w0 m L w) (o : Obj) : Loc m0 S w0 m ((w.heap.size, o) :: L) (w.alloc o) := by
  have old : ∀ b, b < w.heap.size → (w.alloc o).heap[b]? = w.heap[b]? := fun b hb => by first | exact heap_alloc_old w o b hb | exact heap_alloc_old w o hb
  refine ⟨h.os, h.tape, h.output, Nat.le_trans h.size (by simp), fun k hk hs => (old k (Nat.lt_of_lt_of_le hk h.size)).trans (h.fr k hk hs), fun b o' hb => ?_, fun b o' hb => ?_, fun x hx => ?_, ?_, fun b hb => ?_, h.le, h.mnew⟩
  · have := h.sub b o' hb; rw [old b (heap_lt this)]; exact this
  · have h1 := heap_lt (h.sub b o' hb)
    simp only [keys, List.mem_cons, not_or]
    exact ⟨by omega, h.apart b o' hb⟩
  · rcases List.mem_cons.1 hx with rfl | hx
    · exact heap_alloc_new w o
    · have := h.own x hx; rw [old x.1 (heap_lt this)]; exact this
  · simp only [keys, List.nodup_cons]
    refine ⟨fun hc => ?_, h.nodup⟩
    obtain ⟨o', ho⟩ := mem_keys.1 hc
    have := heap_lt (h.own _ ho)
    simp at this
  · simp only [keys, List.mem_cons] at hb
    rcases hb with rfl | hb
    · exact .inl h.size
    · exact h.new b hb
def Mem.add (m : Mem) (b : Nat) (o : Obj) : Mem := fun c => match Nat.beq c b with | true => some o | false => m c
theorem Mem.add_same (m : Mem) (b : Nat) (o : Obj) : Mem.add m b o b = some o := by simp [Mem.add]
theorem Mem.add_other (m : Mem) {b c : Nat} (o : Obj) (h : c ≠ b) : Mem.add m b o c = m c := by
  have : Nat.beq c b = false := by rw [Bool.eq_false_iff]; intro hc; exact h (Nat.eq_of_beq_eq_true hc)
  simp [Mem.add, this]
theorem Loc.le_add {b : Nat} {o : Obj} (h : Loc m0 S w0 m ((b, o) :: L) w) : Mem.Le m (m.add b o) := fun c o' hc => by
  have : c ≠ b := fun e => by subst e; exact h.apart c o' hc (by simp [keys])
  rw [Mem.add_other _ _ this]; exact hc
theorem Loc.freeze {b : Nat} {o : Obj} (h : Loc m0 S w0 m ((b, o) :: L) w) : Loc m0 S w0 (m.add b o) L w := by
  have hn := h.nodup
  simp only [keys, List.nodup_cons] at hn
  have cs : ∀ c o', m.add b o c = some o' → (c = b ∧ o' = o) ∨ m c = some o' := fun c o' hc => by
    by_cases e : c = b
    · subst e; rw [Mem.add_same] at hc; injection hc with hc; exact .inl ⟨rfl, hc.symm⟩
    · rw [Mem.add_other _ _ e] at hc; exact .inr hc
  refine ⟨h.os, h.tape, h.output, h.size, h.fr, fun c o' hc => ?_, fun c o' hc => ?_, fun x hx => h.own x (List.mem_cons_of_mem _ hx), hn.2, fun c hc => h.new c (by simp [keys, hc]), h.le.trans h.le_add, fun c o' hc => ?_⟩
  · rcases cs c o' hc with ⟨rfl, rfl⟩ | hc
    · exact h.own (c, o') List.mem_cons_self
    · exact h.sub c o' hc
  · rcases cs c o' hc with ⟨rfl, rfl⟩ | hc
    · exact hn.1
    · have := h.apart c o' hc; simp only [keys, List.mem_cons, not_or] at this; exact this.2
  · rcases cs c o' hc with ⟨rfl, rfl⟩ | hc
    · exact .inr (h.new c (by simp [keys]))
    · exact h.mnew c o' hc
theorem Loc.drop {x : Nat × Obj} (h : Loc m0 S w0 m (x :: L) w) : Loc m0 S w0 m L w := by
  have hn := h.nodup
  simp only [keys, List.nodup_cons] at hn
  exact ⟨h.os, h.tape, h.output, h.size, h.fr, h.sub, fun c o' hc => by have := h.apart c o' hc; simp only [keys, List.mem_cons, not_or] at this; exact this.2,
    fun x hx => h.own x (List.mem_cons_of_mem _ hx), hn.2, fun c hc => h.new c (by simp [keys, hc]), h.le, h.mnew⟩
theorem Loc.dropN {L1 : Own} (h : Loc m0 S w0 m (L1 ++ L) w) : Loc m0 S w0 m L w := by
  induction L1 with
  | nil => exact h
  | cons x l ih => exact ih h.drop
theorem keys_perm {L L' : Own} (h : L.Perm L') : (keys L).Perm (keys L') := by
  induction h with
  | nil => exact .nil
  | cons x _ ih => exact .cons _ ih
  | swap x y l => exact .swap _ _ _
  | trans _ _ ih1 ih2 => exact ih1.trans ih2
theorem Loc.perm {L' : Own} (h : Loc m0 S w0 m L w) (hp : L.Perm L') : Loc m0 S w0 m L' w := by
  have hk := keys_perm hp
  exact ⟨h.os, h.tape, h.output, h.size, h.fr, h.sub, fun c o hc hm => h.apart c o hc (hk.mem_iff.2 hm), fun x hx => h.own x (hp.mem_iff.2 hx), hk.nodup_iff.1 h.nodup,
    fun c hc => h.new c (hk.mem_iff.2 hc), h.le, h.mnew⟩
theorem Loc.weaken {m' : Mem} (h : Loc m0 S w0 m' L w) (hl : Mem.Le m m') (h0 : Mem.Le m0 m) : Loc m0 S w0 m L w :=
  ⟨h.os, h.tape, h.output, h.size, h.fr, fun b o hb => h.sub b o (hl b o hb), fun b o hb => h.apart b o (hl b o hb), h.own, h.nodup, h.new, h0, fun b o hb => h.mnew b o (hl b o hb)⟩
def ocell (o : Option Obj) (i : Nat) : Option Value := match o with | some (.cells c _ _) => c[i]? | _ => none
def mcell (m : Mem) (a : Addr) : Option Value := match a.spot with | none => ocell (m a.block) a.off | some _ => none
theorem mcell_le {m m' : Mem} (h : Mem.Le m m') {a : Addr} {v : Value} (hv : mcell m a = some v) : mcell m' a = some v := by
  unfold mcell at *
  split
  · rename_i hs
    rw [hs] at hv
    simp only at hv
    cases hb : m a.block with
    | none => rw [hb] at hv; simp [ocell] at hv
    | some o => rw [h _ _ hb]; rw [hb] at hv; exact hv
  · rename_i s hs; rw [hs] at hv; cases hv
theorem cell_of_heap {w : World} {b i : Nat} {c : Array Value} {t : TypeId} {f : Nat × Nat} (h : w.heap[b]? = some (.cells c t f)) : w.cell? ⟨b, i, none⟩ = c[i]? := by
  simp [World.cell?, h]
theorem Loc.cell (h : Loc m0 S w0 m L w) {a : Addr} {v : Value} (hv : mcell m a = some v) : w.cell? a = some v := by
  unfold mcell at hv
  cases hs : a.spot with
  | some s => rw [hs] at hv; cases hv
  | none =>
    rw [hs] at hv
    simp only at hv
    cases hb : m a.block with
    | none => rw [hb] at hv; simp [ocell] at hv
    | some o =>
      have := h.sub _ _ hb
      rw [hb] at hv
      unfold ocell at hv
      split at hv
      · rename_i c t f heq
        injection heq with heq
        subst heq
        simp [World.cell?, this, hs, hv]
      · cases hv
theorem Loc.ownCell (h : Loc m0 S w0 m L w) {b i : Nat} {c : Array Value} {t : TypeId} {f : Nat × Nat} (hm : (b, Obj.cells c t f) ∈ L) : w.cell? ⟨b, i, none⟩ = c[i]? :=
  cell_of_heap (h.own _ hm)
theorem Loc.set (h : Loc m0 S w0 m L w) {i b off : Nat} {cs : List Value} {t : TypeId} {v : Value} (hi : look L i = some (b, .cells (toArr cs) t (0, 0))) :
    Loc m0 S w0 m (L.set i (b, .cells (toArr (cs.set off v)) t (0, 0))) (w.setCell ⟨b, off, none⟩ v) := by
  rw [look_eq] at hi
  have hmem : (b, Obj.cells (toArr cs) t (0, 0)) ∈ L := List.mem_of_getElem? hi
  have hb := h.own _ hmem
  have hnew : (w.setCell ⟨b, off, none⟩ v).heap[b]? = some (.cells (toArr (cs.set off v)) t (0, 0)) := by
    simp only [World.setCell, Array.getElem?_modify, if_true]
    simp only at hb
    rw [hb]
    simp [toArr]
  have hoth : ∀ k, k ≠ b → (w.setCell ⟨b, off, none⟩ v).heap[k]? = w.heap[k]? := fun k hk => by
    simp only [World.setCell, Array.getElem?_modify]
    rw [if_neg (fun e => hk e.symm)]
  have hkeys : keys (L.set i (b, .cells (toArr (cs.set off v)) t (0, 0))) = keys L := by
    clear hmem hb hnew hoth h
    induction L generalizing i with
    | nil => simp
    | cons x l ih =>
      cases i with
      | zero => simp at hi; subst hi; simp [keys]
      | succ i => simp only [List.set_cons_succ, keys]; rw [ih (by simpa using hi)]
  have hbk : b ∈ keys L := mem_keys.2 ⟨_, hmem⟩
  refine ⟨h.os, h.tape, h.output, by simpa using h.size, fun k hk hs => ?_, fun c o hc => ?_, fun c o hc => hkeys ▸ h.apart c o hc, fun x hx => ?_, hkeys ▸ h.nodup, fun c hc => h.new c (hkeys ▸ hc), h.le, h.mnew⟩
  · have : k ≠ b := fun e => by
      subst e
      rcases h.new k hbk with h1 | h1
      · omega
      · exact hs h1
    rw [hoth k this]; exact h.fr k hk hs
  · have : c ≠ b := fun e => by subst e; exact h.apart c o hc hbk
    rw [hoth c this]; exact h.sub c o hc
  · obtain ⟨j, hj⟩ := List.getElem?_of_mem hx
    rw [List.getElem?_set] at hj
    split at hj
    · split at hj
      · injection hj with hj; subst hj; exact hnew
      · cases hj
    · rename_i hij
      have hxm := List.mem_of_getElem? hj
      have hne : x.1 ≠ b := fun e => by
        have h1 : (keys L)[i]? = some b := by rw [keys_map, List.getElem?_map, hi]; rfl
        have h2 : (keys L)[j]? = some b := by rw [keys_map, List.getElem?_map, hj]; simp [e]
        have hl1 := (List.getElem?_eq_some_iff.1 h1).1
        exact hij ((List.getElem?_inj hl1 h.nodup).1 (h1.trans h2.symm))
      rw [hoth _ hne]; exact h.own _ hxm
def Fn (P : Program) (f : Nat) (args : List Value) (m : Mem) (L : Own) (Post : Mem → Own → Value → Prop) : Prop :=
  ∀ w, Pre m L w → Calls P f (toArr args) w fun e w' => ∃ v m' L', e = .returned v ∧ Loc m (keys L) w m' L' w' ∧ Post m' L' v
theorem Fn.mono {f : Nat} {args : List Value} {Post Post' : Mem → Own → Value → Prop} (h : Fn P f args m L Post) (hp : ∀ m' L' v, Mem.Le m m' → Post m' L' v → Post' m' L' v) : Fn P f args m L Post' :=
  fun w hw => (h w hw).mono fun _ _ ⟨v, m', L', he, hl, hq⟩ => ⟨v, m', L', he, hl, hp _ _ _ hl.le hq⟩
structure RetReq (m0 : Mem) (S : List Nat) (w0 : World) (Post : Mem → Own → Value → Prop) (v : Value) (w : World) : Prop where
  of ::
  out : ∃ m L, Loc m0 S w0 m L w ∧ Post m L v
theorem RetReq.mk {Post : Mem → Own → Value → Prop} {v : Value} (hL : Loc m0 S w0 m L w) (hp : Post m L v) : RetReq m0 S w0 Post v w := by
  exact ⟨⟨m, L, hL, hp⟩⟩
def envOf (l : List Value) : Env := fun i => match look l i with | some v => v | none => undef
def evRes (P : Program) (N : Nat) (e : Env) (w : World) : List ResultVar → (List Value → Prop) → Prop
  | [], K => K []
  | .tmp t :: l, K => evRes P N e w l fun vs => K (rd N e (.tmp t) :: vs)
  | .cell a t :: l, K => match rd N e (.tmp a) with
    | .pointer (some a) => LdReq P t w a fun v => evRes P N e w l fun vs => K (v :: vs)
    | _ => False
def resV : List Value → Value
  | [v] => v
  | l => .tuple (toArr l)
def resOne (tmps : Array Value) : ResultVar → Sem Value
  | .tmp t => pure (tmps.getD t undef)
  | .cell a t => do loadVar t (← asAddr (tmps.getD a undef))
theorem run_results {e : Env} {a : Act} (ha : Agree N e a) : ∀ (l : List ResultVar) (K : List Value → Prop), evRes P N e w l K →
    ∃ vs, (l.mapM (resOne a.tmps)).run P w = .ok vs w ∧ K vs
  | [], K, h => ⟨[], by simp, h⟩
  | .tmp t :: l, K, h => by
    obtain ⟨vs, h1, h2⟩ := run_results ha l _ h
    have he : a.tmps.getD t undef = rd N e (.tmp t) := by rw [← ha.eval]; rfl
    refine ⟨rd N e (.tmp t) :: vs, ?_, h2⟩
    simp only [List.mapM_cons, Sem.run_bind, resOne, Sem.run_pure, Result.andThen_ok, h1, he]
  | .cell a' t :: l, K, h => by
    have he : a.tmps.getD a' undef = rd N e (.tmp a') := by rw [← ha.eval]; rfl
    simp only [evRes] at h
    split at h
    · rename_i x ad hx
      replace h := h.out
      obtain ⟨v, hv, h⟩ := h
      obtain ⟨vs, h1, h2⟩ := run_results ha l _ h
      refine ⟨v :: vs, ?_, h2⟩
      simp only [List.mapM_cons, Sem.run_bind, resOne, Sem.run_pure, Result.andThen_ok, h1, he, hx, asAddr, hv]
    · exact h.elim
theorem Fn.enter (hX : TabsOk P X) {f : Nat} {fn : Func} {c : Code} {args : List Value} {Post : Mem → Own → Value → Prop}
    (hf : P.funcs[f]? = some fn) (hb : fn.body = some c) (hN : fn.ntmps = N) (hl : args.length ≤ N)
    (h : ∀ w, Loc m (keys L) w m L w → ev P X N c (fun e w' => evRes P N e w' fn.results.toList fun vs => RetReq m (keys L) w Post (resV vs) w') (fun _ _ _ => False)
      (fun e w' => evRes P N e w' fn.results.toList fun vs => RetReq m (keys L) w Post (resV vs) w') (envOf args) w) :
    Fn P f args m L Post := by
  intro w hw
  have h := h w hw.loc
  have ha : Agree N (envOf args) { tmps := toArr args ++ Array.replicate (fn.ntmps - (toArr args).size) undef, defers := [] } := by
    have hs : (toArr args).size = args.length := by simp [toArr]
    refine ⟨by simp [hs, hN]; omega, fun i hi => ?_, rfl⟩
    simp only [envOf, look_eq]
    rw [Array.getElem?_append]
    by_cases hlt : i < args.length
    · rw [if_pos (by omega)]
      simp [toArr, hlt]
    · rw [if_neg (by omega), Array.getElem?_replicate, if_pos (by omega)]
      simp [List.getElem?_eq_none (Nat.le_of_not_lt hlt)]
  refine calls_of_wp hf hb (wp_mono (ev_ok hX c _ _ _ _ _ w ha h) fun ex a w' hq => ?_)
  have fin : ∀ e, Agree N e a → (evRes P N e w' fn.results.toList fun vs => RetReq m (keys L) w Post (resV vs) w') →
      a.defers = [] ∧ ∃ v, (results fn a.tmps).run P w' = .ok v w' ∧ ∃ v' m' L', Ending.returned v = .returned v' ∧ Loc m (keys L) w m' L' w' ∧ Post m' L' v' := by
    intro e ha h
    obtain ⟨vs, h1, h2⟩ := run_results ha _ _ h
    replace h2 := h2.out
    obtain ⟨m', L', h3, h4⟩ := h2
    refine ⟨ha.defers, resV vs, ?_, resV vs, m', L', rfl, h3, h4⟩
    have hm : (fn.results.mapM (resOne a.tmps)).run P w' = .ok vs.toArray w' := by
      rw [← Array.toArray_toList (xs := fn.results), List.mapM_toArray]
      simp only [Sem.run_map, h1, Result.andThen_ok]
    show (do let vs ← fn.results.mapM (resOne a.tmps); pure (if h : vs.size = 1 then vs[0] else .tuple vs) : Sem Value).run P w' = _
    simp only [Sem.run_bind, hm, Result.andThen_ok, Sem.run_pure]
    match vs with
    | [] => rfl
    | [v] => rfl
    | v :: u :: l => simp [resV, toArr]
  cases ex with
  | normal => obtain ⟨e, ha, h⟩ := hq; exact fin e ha h
  | ret => obtain ⟨e, ha, h⟩ := hq; exact fin e ha h
  | exit id => obtain ⟨e, ha, h⟩ := hq; exact h.elim
  | goto l => exact hq.elim
  | panic ch => exact hq.elim
  | outgrown => exact hq.elim
theorem BrReq.tt {A B : Prop} (h : A) : BrReq true A B := by exact ⟨⟨fun _ => h, fun h => by cases h⟩⟩
theorem BrReq.ff {A B : Prop} (h : B) : BrReq false A B := by exact ⟨⟨fun h => (by cases h), fun _ => h⟩⟩
theorem BrReq.t {b : Bool} {A B : Prop} (hb : b = true) (h : A) : BrReq b A B := by subst hb; exact .tt h
theorem BrReq.f {b : Bool} {A B : Prop} (hb : b = false) (h : B) : BrReq b A B := by subst hb; exact .ff h
theorem BrReq.dec {p : Prop} [Decidable p] {A B : Prop} (h1 : p → A) (h2 : ¬ p → B) : BrReq (decide p) A B := by
  exact ⟨⟨fun h => h1 (of_decide_eq_true h), fun h => h2 (of_decide_eq_false h)⟩⟩
theorem BrReq.yes {p : Prop} [Decidable p] {A B : Prop} (hp : p) (h : A) : BrReq (decide p) A B := .t (decide_eq_true hp) h
theorem BrReq.no {p : Prop} [Decidable p] {A B : Prop} (hp : ¬ p) (h : B) : BrReq (decide p) A B := .f (decide_eq_false hp) h
theorem BrReq.bool {b : Bool} {A B : Prop} (h1 : b = true → A) (h2 : b = false → B) : BrReq b A B := by exact ⟨⟨h1, h2⟩⟩
theorem BrReq.not {b : Bool} {A B : Prop} (h : BrReq b B A) : BrReq (!b) A B := by
  cases b
  · exact ⟨⟨fun _ => h.out.2 rfl, fun h => by cases h⟩⟩
  · exact ⟨⟨fun h => (by cases h), fun _ => h.out.1 rfl⟩⟩
theorem wrap_keep (k : IntKind) {n : Int} (h1 : k.min ≤ n) (h2 : n ≤ k.max) : k.wrap n = n := by
  cases k <;> simp only [IntKind.min, IntKind.max, IntKind.signed, IntKind.bits, IntKind.wrap] at * <;> simp at * <;> omega
theorem ArReq.keep {k : IntKind} {n : Int} {K : Int → Prop} (h1 : k.min ≤ n) (h2 : n ≤ k.max) (h : K n) : ArReq k n K := by
  constructor; rw [wrap_keep k h1 h2]; exact h
theorem ArReq.i64 {n : Int} {K : Int → Prop} (h1 : -9223372036854775808 ≤ n) (h2 : n ≤ 9223372036854775807) (h : K n) : ArReq .i64 n K := .keep h1 h2 h
theorem ArReq.u64 {n : Int} {K : Int → Prop} (h1 : 0 ≤ n) (h2 : n ≤ 18446744073709551615) (h : K n) : ArReq .u64 n K := .keep h1 h2 h
theorem ArReq.u32 {n : Int} {K : Int → Prop} (h1 : 0 ≤ n) (h2 : n ≤ 4294967295) (h : K n) : ArReq .u32 n K := .keep h1 h2 h
theorem ArReq.u8 {n : Int} {K : Int → Prop} (h1 : 0 ≤ n) (h2 : n ≤ 255) (h : K n) : ArReq .u8 n K := .keep h1 h2 h
theorem ArReq.wrap {k : IntKind} {n : Int} {K : Int → Prop} (h : K (k.wrap n)) : ArReq k n K := by exact ⟨h⟩
theorem ArReq.as {k : IntKind} {n n' : Int} {K : Int → Prop} (hn : k.wrap n = n') (h : K n') : ArReq k n K := by subst hn; exact .wrap h
theorem NewReq.mk {o : Obj} {K : Nat → World → Prop} (hL : Loc m0 S w0 m L w) (h : ∀ b w', Loc m0 S w0 m ((b, o) :: L) w' → K b w') : NewReq w o K := by
  exact ⟨h _ _ (hL.alloc o)⟩
theorem IdxReq.mk {i : Int} {n : Nat} {K : Nat → Prop} (j : Nat) (hi : i = (j : Int)) (hj : j < n) (h : K j) : IdxReq i n K := by exact ⟨⟨j, hi, hj, h⟩⟩
theorem Idx2Req.mk {i : Int} {n : Nat} {base : Option Addr} {K : Nat → Addr → Prop} (j : Nat) (a : Addr) (hi : i = (j : Int)) (hj : j < n) (ha : base = some a) (h : K j a) : Idx2Req i n base K := by
  exact ⟨⟨j, a, hi, hj, ha, h⟩⟩
theorem SlReq.mk {lo hi : Int} {n : Nat} {K : Nat → Nat → Prop} (l h : Nat) (h1 : lo = (l : Int)) (h2 : hi = (h : Int)) (h3 : l ≤ h) (h4 : h ≤ n) (hk : K l h) : SlReq lo hi n K := by
  exact ⟨⟨l, h, h1, h2, h3, h4, hk⟩⟩
theorem StrIdxReq.mk {s : ByteArray} {i : Int} {K : Nat → Prop} (j : Nat) (b : UInt8) (h1 : i = (j : Int)) (h2 : s.data[j]? = some b) (hk : K b.toNat) : StrIdxReq s i K := by
  exact ⟨⟨j, b, h1, h2, hk⟩⟩
theorem OptReq.mk {x : Option Value} {K : Value → Prop} {v : Value} (hx : x = some v) (hk : K v) : OptReq x K := by exact ⟨⟨v, hx, hk⟩⟩
theorem DivReq.mk {k : IntKind} {a b n : Int} {K : Int → Prop} (hb : b ≠ 0) (hn : k.wrap (a.tdiv b) = n) (h : K n) : DivReq k a b K := by subst hn; exact ⟨⟨hb, h⟩⟩
theorem RemReq.mk {a b n : Int} {K : Int → Prop} (hb : b ≠ 0) (hn : a.tmod b = n) (h : K n) : RemReq a b K := by subst hn; exact ⟨⟨hb, h⟩⟩
theorem ShlReq.mk {k : IntKind} {a b n : Int} {K : Int → Prop} (hb : 0 ≤ b) (hn : k.wrap (a * 2 ^ (min b.toNat k.bits)) = n) (h : K n) : ShlReq k a b K := by subst hn; exact ⟨⟨hb, h⟩⟩
theorem ShrReq.mk {k : IntKind} {a b n : Int} {K : Int → Prop} (hb : 0 ≤ b) (hn : a.fdiv (2 ^ (min b.toNat k.bits)) = n) (h : K n) : ShrReq k a b K := by subst hn; exact ⟨⟨hb, h⟩⟩
theorem BitReq.mk {op : BinOp} {k : IntKind} {a b n : Int} {K : Int → Prop} (hn : bitsOf op k a b = n) (h : K n) : BitReq op k a b K := by subst hn; exact ⟨h⟩
theorem RunReq.mk {s : Sem Value} {K : Value → World → Prop} {v : Value} {w' : World} (hr : s.run P w = .ok v w') (h : K v w') : RunReq P s w K := by exact ⟨⟨v, w', hr, h⟩⟩
theorem CallReq.mk {L1 L2 : Own} {f : Nat} {args : List Value} {Post : Mem → Own → Value → Prop} {K : Value → World → Prop} (h : Fn P f args m L1 Post) (hL : Loc m0 S w0 m (L1 ++ L2) w)
    (k : ∀ v m' L1' w', Loc m0 S w0 m' (L1' ++ L2) w' → Mem.Le m m' → Post m' L1' v → K v w') : CallReq P f (toArr args) w K := by
  constructor
  have hn := hL.nodup
  rw [keys_append, List.nodup_append] at hn
  have hp : Pre m L1 w := ⟨hL.sub, fun b o hb hm => hL.apart b o hb (by rw [keys_append]; exact List.mem_append_left _ hm), fun x hx => hL.own x (List.mem_append_left _ hx), hn.1⟩
  refine (h w hp).mono fun e w' ⟨v, m', L1', he, hl, hq⟩ => ?_
  subst he
  refine k v m' L1' w' ?_ hl.le hq
  have hL2 : ∀ x ∈ L2, w'.heap[x.1]? = some x.2 ∧ x.1 < w.heap.size ∧ x.1 ∉ keys L1 := fun x hx => by
    have h1 := hL.own x (List.mem_append_right _ hx)
    have h2 := heap_lt h1
    have h3 : x.1 ∉ keys L1 := fun hc => hn.2.2 _ hc _ (mem_keys.2 ⟨x.2, hx⟩) rfl
    exact ⟨(hl.fr _ h2 h3).trans h1, h2, h3⟩
  have key2 : ∀ b ∈ keys L2, b < w.heap.size ∧ b ∉ keys L1 := fun b hb => by
    obtain ⟨o, ho⟩ := mem_keys.1 hb
    exact ⟨(hL2 _ ho).2.1, (hL2 _ ho).2.2⟩
  have disj : ∀ b, (w.heap.size ≤ b ∨ b ∈ keys L1) → b ∉ keys L2 := fun b hb hc => by
    have := key2 b hc
    rcases hb with hb | hb
    · omega
    · exact this.2 hb
  have newp : ∀ b, (w.heap.size ≤ b ∨ b ∈ keys L1) → w0.heap.size ≤ b ∨ b ∈ S := fun b hb => by
    rcases hb with hb | hb
    · exact .inl (Nat.le_trans hL.size hb)
    · exact hL.new b (by rw [keys_append]; exact List.mem_append_left _ hb)
  refine ⟨hl.os.trans hL.os, hl.tape.trans hL.tape, hl.output.trans hL.output, Nat.le_trans hL.size hl.size, fun k hk hs => ?_, hl.sub, fun b o hb => ?_, fun x hx => ?_, ?_, fun b hb => ?_, hL.le.trans hl.le, fun b o hb => ?_⟩
  · have : k ∉ keys L1 := fun hc => by
      rcases newp k (.inr hc) with h1 | h1
      · omega
      · exact hs h1
    exact (hl.fr k (Nat.lt_of_lt_of_le hk hL.size) this).trans (hL.fr k hk hs)
  · rw [keys_append, List.mem_append, not_or]
    refine ⟨hl.apart b o hb, ?_⟩
    rcases hl.mnew b o hb with h1 | h1
    · intro hc; exact hL.apart b o h1 (by rw [keys_append]; exact List.mem_append_right _ hc)
    · exact disj b h1
  · rcases List.mem_append.1 hx with hx | hx
    · exact hl.own x hx
    · exact (hL2 x hx).1
  · rw [keys_append, List.nodup_append]
    exact ⟨hl.nodup, hn.2.1, fun a ha b hb e => by subst e; exact disj a (hl.new a ha) hb⟩
  · rw [keys_append, List.mem_append] at hb
    rcases hb with hb | hb
    · exact newp b (hl.new b hb)
    · exact hL.new b (by rw [keys_append]; exact List.mem_append_right _ hb)
  · rcases hl.mnew b o hb with h1 | h1
    · exact hL.mnew b o h1
    · exact .inr (newp b h1)
def Fn0 (P : Program) (f : Nat) (args : List Value) (m : Mem) (Post : Mem → Value → Prop) : Prop := Fn P f args m [] fun m' L' v => L' = [] ∧ Post m' v
theorem CallReq.pure {f : Nat} {args : List Value} {Post : Mem → Value → Prop} {K : Value → World → Prop} (h : Fn0 P f args m Post) (hL : Loc m0 S w0 m L w)
    (k : ∀ v m' w', Loc m0 S w0 m' L w' → Mem.Le m m' → Post m' v → K v w') : CallReq P f (toArr args) w K :=
  CallReq.mk (L1 := []) h hL fun v m' L1' w' hl hle ⟨h1, h2⟩ => by subst h1; exact k v m' w' hl hle h2
def FnV (P : Program) (f : Nat) (args : List Value) (m : Mem) (v : Value) : Prop := Fn0 P f args m fun _ u => u = v
theorem CallReq.val {f : Nat} {args : List Value} {v : Value} {K : Value → World → Prop} (h : FnV P f args m v) (hL : Loc m0 S w0 m L w)
    (k : ∀ w', Loc m0 S w0 m L w' → K v w') : CallReq P f (toArr args) w K :=
  CallReq.pure h hL fun u m' w' hl hle hu => by subst hu; exact k w' (hl.weaken hle hL.le)
theorem run_loadVar_one {t : Nat} {ti : TI} (ht : tiOf P t = some ti) (hd : ti.d.isAgg = false) {a : Addr} {v : Value} (hc : w.cell? a = some v) : (loadVar t a).run P w = .ok v w := by
  simp [loadVar, run_isAgg ht, hd, hc]
theorem run_loadCellsFrom (a : Addr) : ∀ (n i : Nat) (vs : List Value) (acc : Array Value), vs.length = n → (∀ j v, vs[j]? = some v → w.cell? (a.add (i + j)) = some v) →
    (loadCellsFrom a i n acc).run P w = .ok (acc ++ vs.toArray) w
  | 0, i, vs, acc, hl, _ => by
    have : vs = [] := List.eq_nil_of_length_eq_zero hl
    subst this
    simp [loadCellsFrom]
  | n + 1, i, vs, acc, hl, h => by
    match vs, hl with
    | v :: r, hl =>
      have h0 := h 0 v rfl
      have ih := run_loadCellsFrom a n (i + 1) r (acc.push v) (by simpa using hl) (fun j u hj => by have := h (j + 1) u (by simpa using hj); rwa [show i + 1 + j = i + (j + 1) from by omega])
      simp only [Nat.add_zero] at h0
      simp only [loadCellsFrom, Sem.run_bind, run_load, h0, Result.andThen_ok, ih]
      congr 1
      simp
theorem run_loadVar_agg {t : Nat} {ti : TI} (ht : tiOf P t = some ti) (hd : ti.d.isAgg = true) {a : Addr} {vs : List Value} (hl : vs.length = ti.size) (hc : ∀ j v, vs[j]? = some v → w.cell? (a.add j) = some v) :
    (loadVar t a).run P w = .ok (.agg (toArr vs)) w := by
  have := run_loadCellsFrom (P := P) (w := w) a ti.size 0 vs #[] hl (by simpa using hc)
  simp only [loadVar, Sem.run_bind, run_isAgg ht, hd, Result.andThen_ok, if_true, run_sizeOf ht, loadCells, this, Sem.run_pure]
  simp [toArr]
theorem addr_add (b o n : Nat) : (⟨b, o, none⟩ : Addr).add n = ⟨b, o + n, none⟩ := by
  unfold Addr.add; split <;> simp_all
theorem LdReq.one (hX : TabsOk P X) {t : Nat} {ti : TI} (ht : look X.T t = some (some ti)) (hd : ti.d.isAgg = false) {a : Addr} {v : Value} {K : Value → Prop} (hL : Loc m0 S w0 m L w)
    (hv : mcell m a = some v) (h : K v) : LdReq P t w a K := by
  exact ⟨⟨v, run_loadVar_one (hX.t _ _ ht) hd (hL.cell hv), h⟩⟩
theorem LdReq.agg (hX : TabsOk P X) {t : Nat} {ti : TI} (ht : look X.T t = some (some ti)) (hd : ti.d.isAgg = true) {a : Addr} {vs : List Value} {K : Value → Prop} (hL : Loc m0 S w0 m L w)
    (hl : vs.length = ti.size) (hv : ∀ j v, vs[j]? = some v → mcell m (a.add j) = some v) (h : K (.agg (toArr vs))) : LdReq P t w a K := by
  exact ⟨⟨_, run_loadVar_agg (hX.t _ _ ht) hd hl (fun j v hj => hL.cell (hv j v hj)), h⟩⟩
theorem LdReq.own1 (hX : TabsOk P X) {t : Nat} {ti : TI} (ht : look X.T t = some (some ti)) (hd : ti.d.isAgg = false) (i : Nat) {b off : Nat} {cs : List Value} {te : TypeId} {fz : Nat × Nat} {v : Value} {K : Value → Prop}
    (hL : Loc m0 S w0 m L w) (hi : look L i = some (b, .cells (toArr cs) te fz)) (hv : look cs off = some v) (h : K v) : LdReq P t w ⟨b, off, none⟩ K := by
  rw [look_eq] at hi hv
  have hc := hL.ownCell (i := off) (List.mem_of_getElem? hi)
  constructor
  exact ⟨v, run_loadVar_one (hX.t _ _ ht) hd (hc.trans (by simpa [toArr] using hv)), h⟩
theorem LdReq.ownA (hX : TabsOk P X) {t : Nat} {ti : TI} (ht : look X.T t = some (some ti)) (hd : ti.d.isAgg = true) (i : Nat) {b off : Nat} {cs : List Value} {te : TypeId} {fz : Nat × Nat} {K : Value → Prop}
    (hL : Loc m0 S w0 m L w) (hi : look L i = some (b, .cells (toArr cs) te fz)) (hl : Nat.ble (off + ti.size) cs.length = true) (h : K (.agg (toArr ((cs.drop off).take ti.size)))) : LdReq P t w ⟨b, off, none⟩ K := by
  rw [look_eq] at hi
  have hl := Nat.le_of_ble_eq_true hl
  constructor
  refine ⟨_, run_loadVar_agg (hX.t _ _ ht) hd (by simp; omega) (fun j v hj => ?_), h⟩
  rw [addr_add]
  have hc := hL.ownCell (i := off + j) (List.mem_of_getElem? hi)
  rw [hc]
  rw [List.getElem?_take] at hj
  split at hj
  · simpa [toArr, List.getElem?_drop] using hj
  · cases hj
theorem run_storeCells (te : TypeId) : ∀ (vs : List Value) (j : Nat) {L : Own} {w : World} {i b off : Nat} {cs : List Value}, Loc m0 S w0 m L w → look L i = some (b, .cells (toArr cs) te (0, 0)) → off + j + vs.length ≤ cs.length →
    (∀ v ∈ vs, v.oneCell' = true) → ∃ w', (storeCells ⟨b, off, none⟩ vs j).run P w = .ok () w' ∧ Loc m0 S w0 m (L.set i (b, .cells (toArr (spliceL cs (off + j) vs)) te (0, 0))) w'
  | [], j, L, w, i, b, off, cs, hL, hi, _, _ => by
    refine ⟨w, by simp [storeCells], ?_⟩
    have : L.set i (b, .cells (toArr (spliceL cs (off + j) [])) te (0, 0)) = L := by
      rw [look_eq] at hi
      simp only [spliceL]
      exact List.ext_getElem? fun k => by
        rw [List.getElem?_set]
        split
        · rename_i e; subst e; split
          · exact hi.symm
          · rename_i hn; exact absurd (List.getElem?_eq_some_iff.1 hi).1 hn
        · rfl
    rw [this]; exact hL
  | v :: r, j, L, w, i, b, off, cs, hL, hi, hle, h1 => by
    have hset := hL.set (off := off + j) (v := v) hi
    have hi' : look (L.set i (b, Obj.cells (toArr (cs.set (off + j) v)) te (0, 0))) i = some (b, .cells (toArr (cs.set (off + j) v)) te (0, 0)) := by
      rw [look_eq] at hi ⊢
      rw [List.getElem?_set, if_pos rfl, if_pos (List.getElem?_eq_some_iff.1 hi).1]
    obtain ⟨w', h2, h3⟩ := run_storeCells te r (j + 1) (off := off) hset hi' (by simp at hle ⊢; omega) (fun u hu => h1 u (List.mem_cons_of_mem _ hu))
    refine ⟨w', ?_, ?_⟩
    · rw [look_eq] at hi
      have hm := hL.own _ (List.mem_of_getElem? hi)
      have hc : ∃ u, w.cell? ⟨b, off + j, none⟩ = some u := by
        have hlt : off + j < cs.length := by simp at hle; omega
        exact ⟨cs[off + j], by rw [cell_of_heap hm]; simp [toArr, hlt]⟩
      obtain ⟨u, hu⟩ := hc
      have hfz : w.frozen? ⟨b, off + j, none⟩ = false := by
        simp only at hm
        simp [World.frozen?, hm]
      simp only [storeCells, Sem.run_bind, addr_add, run_store P w _ v _ (h1 v List.mem_cons_self), hu, hfz, Bool.false_eq_true, if_false, Result.andThen_ok, h2]
    · simp only [List.set_set] at h3
      simpa [spliceL, Nat.add_assoc] using h3
theorem StReq.own (hX : TabsOk P X) {t : Nat} {ti : TI} (ht : look X.T t = some (some ti)) (i : Nat) {b off : Nat} {cs : List Value} {te : TypeId} {v : Value} {K : World → Prop}
    (hL : Loc m0 S w0 m L w) (hi : look L i = some (b, .cells (toArr cs) te (0, 0))) (hs : Nat.beq v.cells.toList.length ti.size = true) (hle : Nat.ble (off + v.cells.toList.length) cs.length = true)
    (h1 : v.cells.toList.all Value.oneCell' = true)
    (h : ∀ w', Loc m0 S w0 m (L.set i (b, .cells (toArr (spliceL cs off v.cells.toList)) te (0, 0))) w' → K w') : StReq P t w ⟨b, off, none⟩ v K := by
  have hle := Nat.le_of_ble_eq_true hle
  obtain ⟨w', h2, h3⟩ := run_storeCells (P := P) te v.cells.toList 0 hL hi (by simpa using hle) (List.all_eq_true.1 h1)
  constructor
  refine ⟨w', ?_, h w' (by simpa using h3)⟩
  have hs : v.cells.size = ti.size := by have := Nat.eq_of_beq_eq_true hs; simpa using this
  simp only [storeVar, Sem.run_bind, run_sizeOf (hX.t _ _ ht), Result.andThen_ok, hs, ne_eq, not_true_eq_false, if_false, h2]
end
end Go.Ev
namespace Go.Ev
open Go
inductive Plan where
  | done
  | fst (i : Nat) (p : Plan)
  | alt (i : Nat) (p q : Plan)
  | stop
structure QLdReq (P : Program) (t : Nat) (S : World → Prop) (a : Addr) (K : Value → Prop) : Prop where
  of ::
  out : ∃ v, (∀ w, S w → (loadVar t a).run P w = .ok v w) ∧ K v
structure SReq (A B : Prop) : Prop where
  of ::
  out : A ∧ B
structure AltQ (A B : Prop) (u : Unit) : Prop where
  of ::
  out : A ∧ B
abbrev AltReq (A B : Prop) : Prop := AltQ A B ()
def evQ (P : Program) (X : Tab) (N : Nat) (S : World → Prop) (o : Oper) (e : Env) (K : Value → Prop) : Prop :=
  match isPure X o.op with
  | true => evU P X N o e K
  | false => match o.op with
    | .load t a => match rd N e a with
      | .pointer (some a) => QLdReq P t S a K
      | _ => False
    | _ => False
def evPlan (P : Program) (X : Tab) (N : Nat) (all : List Oper) (S : World → Prop) (pl : Plan) : (Env → World → Prop) → Env → World → Prop :=
  Plan.rec (motive := fun _ => (Env → World → Prop) → Env → World → Prop)
    (fun k e w => k e w)
    (fun i _ ih k e w => match look all i with
      | some o => evGuard N all o.guard e (fun e => evQ P X N S o e fun v => force v fun v => ih k (putO o.dst v e) w) (fun e => ih k (putO o.dst undef e) w)
      | none => False)
    (fun i _ _ ihp ihq k e w => match look all i with
      | some o => AltReq
          (evGuard N all o.guard e (fun e => evOp P X N o e w fun v w' => SReq (S w') (force v fun v => ihp k (putO o.dst v e) w')) (fun e => ihp k (putO o.dst undef e) w))
          (ihq k e w)
      | none => False)
    (fun _ _ _ => True) pl
theorem evPlan_fst {P : Program} {X : Tab} {N : Nat} {all : List Oper} {S : World → Prop} {i : Nat} {p : Plan} {k : Env → World → Prop} {e : Env} {w : World} : evPlan P X N all S (.fst i p) k e w = (match look all i with
    | some o => evGuard N all o.guard e (fun e => evQ P X N S o e fun v => force v fun v => evPlan P X N all S p k (putO o.dst v e) w) (fun e => evPlan P X N all S p k (putO o.dst undef e) w)
    | none => False) := rfl
theorem evPlan_alt {P : Program} {X : Tab} {N : Nat} {all : List Oper} {S : World → Prop} {i : Nat} {p q : Plan} {k : Env → World → Prop} {e : Env} {w : World} : evPlan P X N all S (.alt i p q) k e w = (match look all i with
    | some o => AltReq
        (evGuard N all o.guard e (fun e => evOp P X N o e w fun v w' => SReq (S w') (force v fun v => evPlan P X N all S p k (putO o.dst v e) w')) (fun e => evPlan P X N all S p k (putO o.dst undef e) w))
        (evPlan P X N all S q k e w)
    | none => False) := rfl
def Plan.alts : Plan → List Nat
  | .alt i _ q => i :: q.alts
  | _ => []
def planOk (ops : Array Oper) : Plan → Nat → Bool → Array Bool → Bool
  | .done, _, true, listed => (Region.ready .any ops listed).isEmpty
  | .fst i p, n + 1, true, listed => (Region.ready .any ops listed).contains i && Region.free .any ops listed i && planOk ops p n true (listed.setIfInBounds i true)
  | .alt i p q, n + 1, true, listed => (Region.ready .any ops listed).contains i && (Region.ready .any ops listed).all (fun j => (Plan.alt i p q).alts.contains j) && planOk ops p n true (listed.setIfInBounds i true) && planOk ops q (n + 1) false listed
  | .alt i p q, n + 1, false, listed => planOk ops p n true (listed.setIfInBounds i true) && planOk ops q (n + 1) false listed
  | .stop, _, false, _ => true
  | _, _, _, _ => false
section
variable {P : Program} {X : Tab} {N : Nat} {ops : Array Oper} {S : World → Prop}
theorem evQ_ok (hX : TabsOk P X) {o : Oper} {e : Env} {K : Value → Prop} (h : evQ P X N S o e K) :
    ∃ v, (∀ w, S w → (execOp (rd N e) o).run P w = .ok (.value v) w) ∧ K v := by
  unfold evQ at h
  split at h
  · obtain ⟨v, h1, h2⟩ := evU_ok hX h
    exact ⟨v, fun w _ => h1 w, h2⟩
  · split at h
    · rename_i t a ho
      split at h
      · rename_i x ad hx
        obtain ⟨v, h1, h2⟩ := h.out
        refine ⟨v, fun w hw => ?_, h2⟩
        simp only [execOp, ho, hx, Instr.loadAt, Instr.sureAddr, Sem.run_bind, Sem.run_pure, Result.andThen_ok, h1 w hw]
      · exact h.elim
    · exact h.elim
def Qn (N : Nat) (k : Env → World → Prop) : Exit → Act → World → Prop := fun ex a w => match ex with | .normal => ∃ e, Agree N e a ∧ k e w | _ => False
theorem evPlan_ok (hX : TabsOk P X) (hns : Region.noSelect ops = true) {k : Env → World → Prop} : ∀ (pl : Plan) (n : Nat) (listed : Array Bool) (e : Env) (a : Act) (w : World), S w → Agree N e a → evPlan P X N ops.toList S pl k e w →
    (planOk ops pl n true listed = true → wpAnyH P .any ops (Qn N k) S n listed a w) ∧
    (∀ m, n = m + 1 → planOk ops pl n false listed = true → ∀ i ∈ pl.alts, wpOp P ops (Qn N k) i (fun a' w' => S w' ∧ wpAnyH P .any ops (Qn N k) S m (listed.setIfInBounds i true) a' w') a w) := by
  intro pl
  induction pl with
  | done =>
    intro n listed e a w hS ha h
    refine ⟨fun hp => ?_, fun m _ _ i hi => by simp [Plan.alts] at hi⟩
    have hr : Region.ready .any ops listed = [] := by cases n <;> simpa [planOk] using hp
    exact wpAnyH_done hr ⟨e, ha, h⟩ n
  | fst i p ih =>
    intro n listed e a w hS ha h
    refine ⟨fun hp => ?_, fun m _ hp => by cases n <;> simp [planOk] at hp⟩
    cases n with
    | zero => simp [planOk] at hp
    | succ n =>
      simp only [planOk, Bool.and_eq_true] at hp
      obtain ⟨⟨h1, h2⟩, h3⟩ := hp
      rw [evPlan_fst] at h
      split at h
      · rename_i o ho
        rw [look_eq, Array.getElem?_toList] at ho
        have hQ : ∀ (v : Value) c a w, Qn N k (.panic c) (a.put o.dst v) w → Qn N k (.panic c) a w := fun v c a w hq => hq
        rcases evGuard_ok ha h with ⟨hw, e', ha', h⟩ | ⟨hw, e', ha', h⟩
        · obtain ⟨v, h4, h5⟩ := evQ_ok hX h
          rw [force_eq] at h5
          refine wpAnyH_take ho hns h2 h1 (hQ v) (.inl ⟨hw, fun w hw => ?_⟩) hS ((ih n _ _ _ w hS (ha'.put _ _) h5).1 h3)
          rw [ha'.eval]
          exact h4 w hw
        · exact wpAnyH_take ho hns h2 h1 (hQ undef) (.inr ⟨hw, rfl⟩) hS ((ih n _ _ _ w hS (ha'.put _ _) h).1 h3)
      · exact h.elim
  | alt i p q ihp ihq =>
    intro n listed e a w hS ha h
    have one : ∀ m, n = m + 1 → planOk ops p m true (listed.setIfInBounds i true) = true → wpOp P ops (Qn N k) i (fun a' w' => S w' ∧ wpAnyH P .any ops (Qn N k) S m (listed.setIfInBounds i true) a' w') a w := by
      intro m hm hp
      rw [evPlan_alt] at h
      split at h
      · rename_i o ho
        rw [look_eq, Array.getElem?_toList] at ho
        obtain ⟨h, _⟩ := h.out
        unfold wpOp
        simp only [ho]
        rcases evGuard_ok ha h with ⟨hw, e', ha', h⟩ | ⟨hw, e', ha', h⟩
        · rw [if_pos hw]
          left
          have h1 := evOp_ok hX h
          rw [← ha'.eval] at h1
          refine OpOk.wp (OpOk.mono h1 fun v w' hk => ?_)
          obtain ⟨hS', hk⟩ := hk.out
          rw [force_eq] at hk
          exact ⟨hS', (ihp m _ _ _ w' hS' (ha'.put _ _) hk).1 hp⟩
        · rw [if_neg (by rw [hw]; simp)]
          exact ⟨hS, (ihp m _ _ _ w hS (ha'.put _ _) h).1 hp⟩
      · exact h.elim
    have hq : evPlan P X N ops.toList S q k e w := by
      rw [evPlan_alt] at h
      split at h
      · exact h.out.2
      · exact h.elim
    have all : ∀ m, n = m + 1 → planOk ops p m true (listed.setIfInBounds i true) = true → planOk ops q n false listed = true →
        ∀ j ∈ (Plan.alt i p q).alts, wpOp P ops (Qn N k) j (fun a' w' => S w' ∧ wpAnyH P .any ops (Qn N k) S m (listed.setIfInBounds j true) a' w') a w := by
      intro m hm h1 h2 j hj
      simp only [Plan.alts, List.mem_cons] at hj
      rcases hj with rfl | hj
      · exact one m hm h1
      · exact (ihq n listed e a w hS ha hq).2 m hm h2 j hj
    constructor
    · intro hp
      cases n with
      | zero => simp [planOk] at hp
      | succ n =>
        simp only [planOk, Bool.and_eq_true] at hp
        obtain ⟨⟨⟨h0, h1⟩, h2⟩, h3⟩ := hp
        have hr : ∀ j ∈ Region.ready .any ops listed, j ∈ (Plan.alt i p q).alts := fun j hj => by
          have := List.all_eq_true.1 h1 j hj
          simpa using this
        cases hrr : Region.ready .any ops listed with
        | nil =>
          rw [hrr] at h0
          simp at h0
        | cons r rs => exact wpAnyH_all hrr (by simp) (fun j hj => all n rfl h2 h3 j (hr j (hrr ▸ hj)))
    · intro m hm hp j hj
      subst hm
      simp only [planOk, Bool.and_eq_true] at hp
      exact all m rfl hp.1 hp.2 j hj
  | stop =>
    intro n listed e a w hS ha h
    exact ⟨fun hp => by cases n <;> simp [planOk] at hp, fun m _ _ i hi => by simp [Plan.alts] at hi⟩
theorem DrawReq.plan (hX : TabsOk P X) (pl : Plan) {m0 m : Mem} {S0 : List Nat} {w0 w : World} {L : Own} (L' : Own) {k : Env → World → Prop} {e : Env}
    (hns : Region.noSelect ops = true) (hp : planOk ops pl ops.size true (Array.replicate ops.size false) = true)
    (hL : Loc m0 S0 w0 m L w) (hS : Loc m0 S0 w0 m L w → Loc m0 S0 w0 m L' w)
    (h : ∀ w, Loc m0 S0 w0 m L w → evPlan P X N ops.toList (fun w => Loc m0 S0 w0 m L' w) pl k e w) : DrawReq P X N ops k e w := by
  constructor
  intro a id ha
  exact wp_region_held hX.mixed ((evPlan_ok (S := fun w => Loc m0 S0 w0 m L' w) hX hns pl ops.size _ e a w.drew (hS hL).drew ha (h _ hL.drew)).1 hp)
end
end Go.Ev
namespace Go.Ev
open Go Go.ChangeShapes Go.WideShapes Go.ChangeAt Go.RowKit
def memOf (W : World) : Mem := fun b => W.heap[b]?
theorem pre_memOf (W : World) : Pre (memOf W) [] W := ⟨fun _ _ h => h, fun _ _ _ => by simp [keys], fun x h => (by cases h), by simp [keys]⟩
theorem mcell_memOf {W : World} {a : Addr} {v : Value} (h : W.cell? a = some v) : mcell (memOf W) a = some v := by
  unfold World.cell? at h
  unfold mcell memOf ocell
  cases hb : W.heap[a.block]? with
  | none => rw [hb] at h; cases h
  | some o =>
    rw [hb] at h
    cases o with
    | cells c t f =>
      simp only at h
      cases hs : a.spot with
      | none => rw [hs] at h; simpa using h
      | some s => rw [hs] at h; simp at h
    | _ => cases h
def Cells (m : Mem) (a : Addr) (xs : List Value) : Prop := ∀ j v, xs[j]? = some v → mcell m (a.add j) = some v
theorem Cells.le {m m' : Mem} (h : Mem.Le m m') {a : Addr} {xs : List Value} (hc : Cells m a xs) : Cells m' a xs := fun j v hj => mcell_le h (hc j v hj)
def Rdf (X : Tab) (m : Mem) : Nat → Nat → List Value → Prop
  | 0, _, _ => False
  | n + 1, t, cs => match tyO X t with
    | none => True
    | some ti => match ti.d with
      | .bool => ∃ b, cs = [.bool b]
      | .int k => ∃ z, cs = [.int k z] ∧ k.min ≤ z ∧ z ≤ k.max
      | .str => ∃ s : ByteArray, cs = [.string s] ∧ s.size ≤ reachBytes
      | .slice e => match tyO X e with
        | none => True
        | some te => ∃ A len cap, cs = [.slice A len cap] ∧ len ≤ cap ∧ cap ≤ maxLen ∧ len * te.bytes ≤ reachBytes ∧ ∀ i, i < len → ∃ a cs', A = some a ∧ cs'.length = te.size ∧ Cells m (a.add (scale i te.size)) cs' ∧ Rdf X m n e cs'
      | .struct fs => cs.length = ti.size ∧ ∀ f ∈ fs, match tyO X f.2 with | none => True | some tf => Rdf X m n f.2 ((cs.drop f.1).take tf.size)
      | .array k e => cs.length = ti.size ∧ match tyO X e with | none => True | some te => ∀ i, i < k → Rdf X m n e ((cs.drop (i * te.size)).take te.size)
      | _ => True
theorem tyO_ok {P : Program} {X : Tab} (hX : TabsOk P X) {t : Nat} {ti : TI} (h : tyO X t = some ti) : tiOf P t = some ti := by
  unfold tyO at h
  split at h
  · rename_i ti' hl; cases h; exact hX.t _ _ hl
  · cases h
theorem cellsOf_eq {P : Program} {t : Nat} {ti : TI} (h : tiOf P t = some ti) : P.cellsOf t = ti.size := by
  obtain ⟨i, d, z, hi, _, _, rfl⟩ := tiOf_info h
  simp [Program.cellsOf, hi]
theorem wf_range {k : IntKind} {z : Int} (h : (Lit.int k z).wf = true) : k.min ≤ z ∧ z ≤ k.max := by
  simpa [Lit.wf] using h
theorem bytesOf_eq {P : Program} {t : Nat} {ti : TI} (h : tiOf P t = some ti) : P.bytesOf t = ti.bytes := by
  obtain ⟨i, d, z, hi, _, _, rfl⟩ := tiOf_info h
  simp [Program.bytesOf, hi]
theorem weights_all {H : Type} {P : Program} {e : TypeId} : ∀ {ds : List (DataW H)} {i : Nat} {d : DataW H}, ds[i]? = some d → ∀ n ∈ d.weights P e, n ∈ DataW.weightsAll P e ds
  | d0 :: ds, 0, d, hd, n, hn => by
    simp only [List.getElem?_cons_zero, Option.some.injEq] at hd
    subst hd
    simp only [DataW.weightsAll, List.mem_append]
    exact Or.inl hn
  | d0 :: ds, i + 1, d, hd, n, hn => by
    simp only [List.getElem?_cons_succ] at hd
    simp only [DataW.weightsAll, List.mem_append]
    exact Or.inr (weights_all hd n hn)
  | [], _, _, hd, _, _ => by simp at hd
theorem rdf_of_trod {P : Program} {X : Tab} (hX : TabsOk P X) {H : Type} {enc : TypeId × Value → H} {W : World} {base : Nat} {sp : Nat → Bool} {held : Bool} :
    ∀ (n : Nat) (t : Nat) (cs : List Value) (x : DataW H × List MemPlace), DataW.trod enc P W base sp held n t cs = some x → (∀ q ∈ x.1.weights P t, q ≤ reachBytes) → Rdf X (memOf W) n t cs := by
  intro n
  induction n with
  | zero => intro t cs x h; simp [DataW.trod] at h
  | succ n ih =>
    intro t cs x h hw
    unfold Rdf
    cases ho : tyO X t with
    | none => trivial
    | some ti =>
      have ht := tyO_ok hX ho
      simp only
      cases hd : ti.d with
      | bool => obtain ⟨b, h1, _⟩ := DataW.trod_bool (td_bool ht hd) h; exact ⟨b, h1⟩
      | int k => obtain ⟨z, h1, _, h2⟩ := DataW.trod_int (td_int ht hd) h; exact ⟨z, h1, wf_range h2⟩
      | str => obtain ⟨s, h1, rfl, h2⟩ := DataW.trod_string (td_str ht hd) h; exact ⟨s, h1, hw _ (by simp [DataW.weights])⟩
      | slice e =>
        simp only
        cases he : tyO X e with
        | none => trivial
        | some te =>
          simp only
          have hte := tyO_ok hX he
          rcases DataW.trod_slice (td_slice ht hd) h with ⟨h1, _⟩ | ⟨a, len, cap, elems, rest, m, hm, h1, hx, hb, hl, hc, hlen, hel, _, _⟩
          · exact ⟨none, 0, 0, h1, Nat.le_refl _, Nat.zero_le _, by simp, fun i hi => by omega⟩
          · cases hm
            subst hx
            simp only [DataW.weights, td_slice ht hd, List.mem_cons, List.mem_append] at hw
            have hby : len * te.bytes ≤ reachBytes := by
              have h2 := hw _ (Or.inl rfl)
              rw [bytesOf_eq hte] at h2
              refine Nat.le_trans (Nat.mul_le_mul_right _ ?_) h2
              simp [hlen]
            refine ⟨some a, len, cap, h1, hl, hc, hby, fun i hi => ?_⟩
            have h2 := hel i hi
            have h3 : elems[i]? = some (elems[i]'(by omega)) := List.getElem?_eq_getElem (by omega)
            rw [h3, cellsOf_eq hte] at h2
            cases hcs : W.cells? base (a.add (i * te.size)) te.size with
            | none => rw [hcs] at h2; cases h2
            | some cs' =>
              rw [hcs] at h2
              obtain ⟨_, hcl, hat⟩ := World.cells?_some hcs
              refine ⟨a, cs', rfl, hcl, fun j v hj => ?_, ih e cs' _ h2 fun q hq => hw q (Or.inr (Or.inl (weights_all (i := i) (by rw [List.getElem?_map, h3]; rfl) q hq)))⟩
              have hjl : j < te.size := by rw [← hcl]; exact (List.getElem?_eq_some_iff.1 hj).1
              rw [scale_eq]
              exact mcell_memOf ((hat j hjl).trans hj)
      | struct fs =>
        simp only
        obtain ⟨F, hu, hF⟩ := td_struct ht hd
        obtain ⟨xs, m, hm, hx, hl, hxl, hf⟩ := DataW.trod_struct hu h
        cases hm
        subst hx
        simp only [DataW.weights, hu] at hw
        refine ⟨by rw [hl, cellsOf_eq ht], fun f hfm => ?_⟩
        cases htf : tyO X f.2 with
        | none => trivial
        | some tf =>
          simp only
          rw [hF] at hfm
          obtain ⟨g, hg, rfl⟩ := List.mem_map.1 hfm
          obtain ⟨i, hi⟩ := List.getElem?_of_mem hg
          have hi' : F[i]? = some g := by simpa using hi
          have h2 := hf i g hi'
          rw [cellsOf_eq (tyO_ok hX htf)] at h2
          have hlt : i < xs.length := by rw [hxl]; exact (Array.getElem?_eq_some_iff.1 hi').1
          rw [List.getElem?_eq_getElem hlt] at h2
          exact ih _ _ _ h2 fun q hq => hw q (DataW.weights_mem_each (j := i) (t := g.type) (by rw [List.getElem?_map, hi]; rfl) (by rw [List.getElem?_map, List.getElem?_eq_getElem hlt]; rfl) q hq)
      | array k e =>
        simp only
        obtain ⟨xs, m, hm, hx, hl, hxl, hf⟩ := DataW.trod_array (td_array ht hd) h
        cases hm
        subst hx
        simp only [DataW.weights, td_array ht hd] at hw
        refine ⟨by rw [hl, cellsOf_eq ht], ?_⟩
        cases hte : tyO X e with
        | none => trivial
        | some te =>
          simp only
          intro i hi
          have h2 := hf i hi
          rw [cellsOf_eq (tyO_ok hX hte)] at h2
          rw [List.getElem?_eq_getElem (by omega)] at h2
          exact ih _ _ _ h2 fun q hq => hw q (weights_all (i := i) (by rw [List.getElem?_map, List.getElem?_eq_getElem (by omega)]; rfl) q hq)
      | _ => trivial
def Shp (X : Tab) (t : Nat) (v : Value) : Prop := match tyO X t with
  | none => True
  | some ti => match ti.d.isAgg with
    | true => ∃ cs, v = .agg (toArr cs)
    | false => v.cells = #[v]
theorem shp_of_ok {P : Program} {X : Tab} (hX : TabsOk P X) {W : World} {r : Reach} {base t : Nat} {v : Value} (h : Value.okWide P W r base t v) : Shp X t v := by
  unfold Shp
  cases ho : tyO X t with
  | none => trivial
  | some ti =>
    have ht := tyO_ok hX ho
    simp only
    cases hd : ti.d with
    | struct fs =>
      obtain ⟨F, hu, _⟩ := td_struct ht hd
      unfold Value.okWide at h
      rw [hu] at h
      obtain ⟨cs, h1, _⟩ := h
      exact ⟨cs.toList, by rw [h1]; simp [toArr]⟩
    | array n e =>
      unfold Value.okWide at h
      rw [td_array ht hd] at h
      obtain ⟨cs, h1, _⟩ := h
      exact ⟨cs.toList, by rw [h1]; simp [toArr]⟩
    | bool => obtain ⟨b, rfl⟩ := okWide_bool (td_bool ht hd) h; rfl
    | int k => obtain ⟨b, rfl⟩ := okWide_int (td_int ht hd) h; rfl
    | str => obtain ⟨b, rfl⟩ := okWide_string (td_str ht hd) h; rfl
    | slice e => obtain ⟨a, l, c, rfl⟩ := okWide_slice (td_slice ht hd) h; rfl
    | _ =>
      obtain ⟨i, d, z, _, hu, _, rfl⟩ := tiOf_info ht
      unfold Value.okWide at h
      rw [hu] at h
      have hnc : ∀ cs, v ≠ .agg cs := by
        intro cs hv
        subst hv
        cases d <;> simp_all [tdOf, Cell.okWide, Cell.ok]
      simp only [TD.isAgg]
      cases v <;> first | rfl | exact absurd rfl (hnc _)
def Given (X : Tab) (m : Mem) (t : Nat) (v : Value) : Prop := Shp X t v ∧ ∃ n, Rdf X m n t v.cells.toList
theorem given_all {P : Program} {X : Tab} (hX : TabsOk P X) {H : Type} {enc : TypeId × Value → H} {W : World} {base : Nat} {sp : Nat → Bool} {held : Bool} :
    ∀ (ts : List TypeId) (vs : List Value) (ds : List (DataW H)) (ps : List MemPlace), DataW.TrodAll enc P W base sp held ts vs ds ps → (∀ q ∈ DataW.weightsEach P ts ds, q ≤ reachBytes) →
      ts.length = vs.length ∧ ds.length = ts.length ∧ ∀ (j : Nat) (t : TypeId) (v : Value), ts[j]? = some t → vs[j]? = some v → ∃ n, Rdf X (memOf W) n t v.cells.toList
  | [], [], [], _, _, _ => ⟨rfl, rfl, by simp⟩
  | t :: ts, v :: vs, d :: ds, ps, h, hw => by
    obtain ⟨p, q, ⟨n, hn⟩, h2, _⟩ := h
    simp only [DataW.weightsEach, List.mem_append] at hw
    obtain ⟨h3, h4, h5⟩ := given_all hX ts vs ds q h2 fun q hq => hw q (Or.inr hq)
    refine ⟨by simp [h3], by simp [h4], fun j t' v' ht hv => ?_⟩
    cases j with
    | zero => simp at ht hv; subst ht hv; exact ⟨n, rdf_of_trod hX n _ _ _ hn fun q hq => hw q (Or.inl hq)⟩
    | succ j => exact h5 j t' v' (by simpa using ht) (by simpa using hv)
theorem trodAll_stays {P : Program} {H : Type} {enc : TypeId × Value → H} {W W' : World} (hl : laidOutB P = true) {sp : Nat → Bool} :
    ∀ (ts : List TypeId) (vs : List Value) (ds : List (DataW H)) (ps : List MemPlace), (∀ t ∈ ts, P.readableRec t = true ∧ t < P.types.size) →
      DataW.TrodAll enc P W 0 (fun _ => true) true ts vs ds ps → (∀ p ∈ ps, W.sameAt W' p) → (∀ p ∈ ps, sp p.block = true) → DataW.TrodAll enc P W' 0 sp true ts vs ds ps
  | [], [], [], _, _, h, _, _ => h
  | t :: ts, v :: vs, d :: ds, ps, hr, h, hs, hsp => by
    obtain ⟨p, q, h1, h2, rfl⟩ := h
    exact ⟨p, q, WideElems.Trod_stays hl (hr t (by simp)).1 (hr t (by simp)).2 h1 (fun x hx => hs x (List.mem_append_left _ hx)) (fun x hx => hsp x (List.mem_append_left _ hx)),
      trodAll_stays hl ts vs ds q (fun t ht => hr t (List.mem_cons_of_mem _ ht)) h2 (fun x hx => hs x (List.mem_append_right _ hx)) (fun x hx => hsp x (List.mem_append_right _ hx)), rfl⟩
  | [], [], _ :: _, _, _, h, _, _ => h.elim
  | [], _ :: _, _, _, _, h, _, _ => by cases h
  | _ :: _, [], _, _, _, h, _, _ => by cases h
  | _ :: _, _ :: _, [], _, _, h, _, _ => by cases h
theorem Loc.below {m0 m : Mem} {w0 w : World} {L : Own} (h : Loc m0 [] w0 m L w) : Below w0.heap.size w0 w :=
  ⟨h.os, h.tape, h.output, h.size, fun k hk => h.fr k hk (by simp)⟩
theorem post_of_below {P : Program} {H : Type} {enc : TypeId × Value → H} {f : Func} {s : ChangeSpec} {apart fresh handsOn again : Bool} {W W' : World} {args : Array Value} {v : Value} {ds gs : List (DataW H)} {before pa pv : List MemPlace}
    (hW : DataW.Whole enc P f.params.toList s.vars apart W args.toList ds gs before)
    (hres : ∀ (b : Nat) (sp : Nat → Bool) (hd : Bool), DataW.TrodAll enc P W' b sp hd f.resultTypes.toList (v.resultList f.resultTypes.size) (s.fn H (ds ++ gs)).results [])
    (hargs : ∀ sp : Nat → Bool, (∀ p ∈ before, sp p.block = true) → DataW.TrodAll enc P W' 0 sp true f.params.toList args.toList (s.fn H (ds ++ gs)).args pa)
    (hvars : ∀ sp : Nat → Bool, (∀ p ∈ before, sp p.block = true) → DataW.TrodVars enc P W' sp s.vars (s.fn H (ds ++ gs)).vars pv)
    (hps : before = pa ++ pv) (hb : Below W.heap.size W W')
    (hok : ∀ (j : Nat) (t : TypeId) (r : Value), f.resultTypes[j]? = some t → (v.resultList f.resultTypes.size)[j]? = some r → Value.okWide P W' .any 0 t r) :
    s.post enc P f apart fresh handsOn again W args v W' := by
  have hlt : ∀ p ∈ before, p.block < W.heap.size := fun p hp => hW.lt p hp
  have hold : ∀ p ∈ before, (fun b => decide (b < W.heap.size)) p.block = true := fun p hp => by simpa using hlt p hp
  refine ⟨ds, gs, before, [], pa, pv, hW, hres _ _ _, hargs _ hold, hvars _ hold, World.keptBut_mono (fun p hp => ⟨hp, ?_⟩) (hb.frame (· ∈ before)), fun _ => ?_⟩
  · rw [hps, List.mem_append] at hp
    exact Or.inr hp
  · obtain ⟨_, _, _, _, _, hz, hn⟩ := hW
    refine ⟨hok, _, _, ([] ++ pa) ++ pv, ⟨[] ++ pa, pv, trodAll_append (hargs _ (fun _ _ => rfl)) (hres _ _ _), hvars _ (fun _ _ => rfl), rfl, ?_, ?_⟩, ?_⟩
    · intro b off hp
      have hin : MemPlace.cell b off ∈ before := by rw [hps]; simpa using hp
      rw [hb.frozen (hlt _ hin)]
      exact hz b off hin
    · intro ha
      have := hn ha
      rw [hps] at this
      simpa using this
    · intro p hp _
      rw [hps]
      simpa using hp
theorem law_core {P : Program} {X : Tab} (hX : TabsOk P X) (hlay : laidOutB P = true) {f : Nat} {fn : Func} {s : ChangeSpec} {tb : Nat} (hvars : s.vars = []) (hres : fn.resultTypes = #[tb]) (htb : P.underlying tb = some .bool)
    (hread : ∀ t ∈ fn.params.toList, P.readableRec t = true ∧ t < P.types.size)
    (hspec : ∀ (H : Type) (ds : List (DataW H)), ds.length = fn.params.size → s.fn H ds = { results := [.lit (.bool true)], args := ds })
    (contract : ∀ (m : Mem) (vs : List Value), vs.length = fn.params.size → (∀ (j : Nat) t v, fn.params.toList[j]? = some t → vs[j]? = some v → Given X m t v) → Fn P f vs m [] fun _ _ v => v = .bool true)
    {H : Type} {enc : TypeId × Value → H} (W : World) (base : Nat) (args : Array Value) (ds gs : List (DataW H)) (before : List MemPlace)
    (hval : ∀ (j : Nat) t v, fn.params[j]? = some t → args[j]? = some v → Value.okWide P W .any base t v)
    (hW : DataW.Whole enc P fn.params.toList s.vars false W args.toList ds gs before)
    (hsz : (DataW.weightsEach P (fn.params.toList ++ s.plain.varTypes P) (ds ++ gs)).all (· ≤ reachBytes) = true) :
    Calls P f args W fun e W' => ∃ v, e = .returned v ∧ s.post enc P fn false true false false W args v W' := by
  have hW' := hW
  have hlt : ∀ p ∈ before, p.block < W.heap.size := fun p hp => hW.lt p hp
  obtain ⟨p, q, hA, hV, rfl, hfz, hnd⟩ := hW
  have hgs : gs = [] ∧ q = [] := by
    rw [hvars] at hV
    cases gs with
    | nil => exact ⟨rfl, hV⟩
    | cons g gs => exact hV.elim
  obtain ⟨rfl, rfl⟩ := hgs
  have hvt : s.plain.varTypes P = [] := by simp [DataSpec.varTypes, ChangeSpec.plain, hvars]
  rw [hvt, List.append_nil, List.append_nil] at hsz
  obtain ⟨hl, hdl, hrd⟩ := given_all hX _ _ _ _ hA fun q hq => by simpa using List.all_eq_true.1 hsz q hq
  have hsp := hspec H ds (by simpa using hdl)
  have hc := contract (memOf W) args.toList (by simpa using hl.symm) (fun j t v ht hv => ⟨shp_of_ok hX (hval j t v (by simpa using ht) (by simpa using hv)), hrd j t v ht hv⟩) W (pre_memOf W)
  have ha : toArr args.toList = args := by simp [toArr]
  rw [ha] at hc
  refine hc.mono fun e W' ⟨v, m', L', he, hloc, hv⟩ => ⟨v, he, ?_⟩
  subst hv
  have hb := Loc.below hloc
  simp only [List.append_nil] at hW' hlt
  refine post_of_below (pa := p) (pv := []) hW' (fun b sp hd => ?_) (fun sp hsp' => ?_) (fun sp _ => ?_) (by simp) hb (ok_one hres rfl (okWide_bool_mk htb _))
  · rw [List.append_nil, hsp, hres]
    exact trodAll_mk1 (shut_bool htb _)
  · rw [List.append_nil, hsp]
    exact trodAll_stays hlay _ _ _ _ hread hA (fun x hx => hb.same (hlt x hx)) hsp'
  · rw [List.append_nil, hsp, hvars]
    rfl
end Go.Ev
namespace Go.Ev
open Go
def Sl {α : Type} (m : Mem) (size : Nat) (R : List Value → α → Prop) (v : Value) (l : List α) : Prop :=
  ∃ A n c, v = .slice A n c ∧ n = l.length ∧ n ≤ c ∧ c ≤ maxLen ∧ ∀ (i : Nat) (x : α), l[i]? = some x → ∃ a cs, A = some a ∧ cs.length = size ∧ Cells m (a.add (scale i size)) cs ∧ R cs x
theorem Sl.le {α : Type} {m m' : Mem} {size : Nat} {R R' : List Value → α → Prop} {v : Value} {l : List α} (h : Sl m size R v l) (hm : Mem.Le m m') (hR : ∀ cs x, x ∈ l → R cs x → R' cs x) : Sl m' size R' v l := by
  obtain ⟨A, n, c, h1, h2, h3, h4, h5⟩ := h
  refine ⟨A, n, c, h1, h2, h3, h4, fun i x hx => ?_⟩
  obtain ⟨a, cs, g1, g2, g3, g4⟩ := h5 i x hx
  exact ⟨a, cs, g1, g2, g3.le hm, hR cs x (List.mem_of_getElem? hx) g4⟩
theorem Sl.le' {α : Type} {m m' : Mem} {size : Nat} {R : List Value → α → Prop} {v : Value} {l : List α} (h : Sl m size R v l) (hm : Mem.Le m m') : Sl m' size R v l := h.le hm fun _ _ _ h => h
def isI (k : IntKind) (cs : List Value) (z : Int) : Prop := cs = [.int k z]
abbrev SlI (m : Mem) (k : IntKind) (v : Value) (l : List Int) : Prop := Sl m 1 (isI k) v l
theorem SlI.cell {m : Mem} {k : IntKind} {A : Option Addr} {n c : Nat} {l : List Int} (h : SlI m k (.slice A n c) l) : n = l.length ∧ ∀ (i : Nat) (z : Int), l[i]? = some z → ∃ a, A = some a ∧ mcell m (a.add i) = some (.int k z) := by
  obtain ⟨A', n', c', h1, h2, _, _, h5⟩ := h
  cases h1
  refine ⟨h2, fun i z hz => ?_⟩
  obtain ⟨a, cs, g1, _, g3, g4⟩ := h5 i z hz
  unfold isI at g4
  subst g4
  refine ⟨a, g1, ?_⟩
  have := g3 0 _ rfl
  simpa [scale, Addr.add] using this
def OwnS (te size : Nat) (v : Value) (xs : List Value) (L : Own) : Prop :=
  ∃ n, xs.length = n * size ∧ ((v = .slice none 0 0 ∧ n = 0 ∧ L = []) ∨
    ∃ g cap cur, v = .slice (some ⟨g, 0, none⟩) n cap ∧ L = [(g, .cells (toArr cur) te (0, 0))] ∧ n ≤ cap ∧ cap ≤ maxLen ∧ cur.length = cap * size ∧ cur.take (n * size) = xs)
theorem OwnS.nil (te size : Nat) : OwnS te size (.slice none 0 0) [] [] := ⟨0, by simp, .inl ⟨rfl, rfl, rfl⟩⟩
theorem OwnS.block {te size g n cap : Nat} {cur : List Value} (h1 : n ≤ cap) (h2 : cap ≤ maxLen) (h3 : cur.length = cap * size) :
    OwnS te size (.slice (some ⟨g, 0, none⟩) n cap) (cur.take (n * size)) [(g, .cells (toArr cur) te (0, 0))] :=
  ⟨n, by rw [List.length_take, h3]; exact Nat.min_eq_left (Nat.mul_le_mul_right _ h1), .inr ⟨g, cap, cur, rfl, rfl, h1, h2, h3, rfl⟩⟩
theorem OwnS.full {te size g n : Nat} {cur : List Value} (h2 : n ≤ maxLen) (h3 : cur.length = n * size) :
    OwnS te size (.slice (some ⟨g, 0, none⟩) n n) cur [(g, .cells (toArr cur) te (0, 0))] := by
  have := OwnS.block (te := te) (g := g) (Nat.le_refl n) h2 h3
  rwa [← h3, List.take_length] at this
section
variable {P : Program} {X : Tab} {m0 m : Mem} {S : List Nat} {w0 w : World}
theorem Loc.step {L1 L2 L1' : Own} {w' : World} (h : Loc m0 S w0 m (L1 ++ L2) w) (hos : w'.os = w.os) (htp : w'.tape = w.tape) (hout : w'.output = w.output) (hsz : w.heap.size ≤ w'.heap.size)
    (hblk : ∀ k, k < w.heap.size → k ∉ keys L1 → w'.heap[k]? = w.heap[k]?) (hown : ∀ x ∈ L1', w'.heap[x.1]? = some x.2) (hnd : (keys L1').Nodup)
    (hnew : ∀ b ∈ keys L1', b ∈ keys L1 ∨ w.heap.size ≤ b) : Loc m0 S w0 m (L1' ++ L2) w' := by
  have hn := h.nodup
  rw [keys_append, List.nodup_append] at hn
  have hL2 : ∀ x ∈ L2, w'.heap[x.1]? = some x.2 ∧ x.1 < w.heap.size ∧ x.1 ∉ keys L1 := fun x hx => by
    have h1 := h.own x (List.mem_append_right _ hx)
    have h2 := heap_lt h1
    have h3 : x.1 ∉ keys L1 := fun hc => hn.2.2 _ hc _ (mem_keys.2 ⟨x.2, hx⟩) rfl
    exact ⟨(hblk _ h2 h3).trans h1, h2, h3⟩
  have hm : ∀ b o, m b = some o → b < w.heap.size ∧ b ∉ keys L1 ∧ b ∉ keys L2 := fun b o hb => by
    have h1 := h.apart b o hb
    rw [keys_append, List.mem_append, not_or] at h1
    exact ⟨heap_lt (h.sub b o hb), h1.1, h1.2⟩
  refine ⟨hos.trans h.os, htp.trans h.tape, hout.trans h.output, Nat.le_trans h.size hsz, fun k hk hs => ?_, fun b o hb => ?_, fun b o hb => ?_, fun x hx => ?_, ?_, fun b hb => ?_, h.le, h.mnew⟩
  · have : k ∉ keys L1 := fun hc => by
      rcases h.new k (by rw [keys_append]; exact List.mem_append_left _ hc) with h1 | h1
      · omega
      · exact hs h1
    exact (hblk k (Nat.lt_of_lt_of_le hk h.size) this).trans (h.fr k hk hs)
  · obtain ⟨h1, h2, _⟩ := hm b o hb
    exact (hblk b h1 h2).trans (h.sub b o hb)
  · obtain ⟨h1, h2, h3⟩ := hm b o hb
    rw [keys_append, List.mem_append, not_or]
    exact ⟨fun hc => by rcases hnew b hc with h4 | h4; exact h2 h4; omega, h3⟩
  · rcases List.mem_append.1 hx with hx | hx
    · exact hown x hx
    · exact (hL2 x hx).1
  · rw [keys_append, List.nodup_append]
    refine ⟨hnd, hn.2.1, fun a ha b hb e => ?_⟩
    subst e
    obtain ⟨o, ho⟩ := mem_keys.1 hb
    rcases hnew a ha with h4 | h4
    · exact (hL2 _ ho).2.2 h4
    · have := (hL2 _ ho).2.1; simp at this; omega
  · rw [keys_append, List.mem_append] at hb
    rcases hb with hb | hb
    · rcases hnew b hb with h4 | h4
      · exact h.new b (by rw [keys_append]; exact List.mem_append_left _ h4)
      · exact .inl (Nat.le_trans h.size h4)
    · exact h.new b (by rw [keys_append]; exact List.mem_append_right _ hb)
theorem ownsRow_of {te size : Nat} {v : Value} {xs : List Value} {L1 L2 : Own} (h : OwnS te size v xs L1) (hL : Loc m0 S w0 m (L1 ++ L2) w) : ∃ n, w.ownsRow 0 te size v n xs ∧ xs.length = n * size ∧ (∃ A c, v = .slice A n c) ∧
    (v.ownBlock = none ∧ L1 = [] ∨ ∃ g, v.ownBlock = some g ∧ keys L1 = [g]) := by
  obtain ⟨n, hn, h⟩ := h
  rcases h with ⟨rfl, rfl, rfl⟩ | ⟨g, cap, cur, rfl, rfl, h1, h2, h3, h4⟩
  · exact ⟨0, ⟨hn, .inl ⟨rfl, rfl⟩⟩, hn, ⟨_, _, rfl⟩, .inl ⟨rfl, rfl⟩⟩
  · refine ⟨n, ⟨hn, .inr ⟨g, cap, toArr cur, rfl, Nat.zero_le _, ?_, h1, h2, by simpa [toArr] using h3, by simpa [toArr] using h4⟩⟩, hn, ⟨_, _, rfl⟩, .inr ⟨g, rfl, rfl⟩⟩
    exact hL.own (g, _) (by simp)
theorem RunReq.append0 (hX : TabsOk P X) {t te : Nat} {ti tei : TI} {ty : TypeId} (ht : look X.T t = some (some ti)) (hd : ti.d = .slice te) (hte : look X.T te = some (some tei)) (hsz : Nat.blt 0 tei.size = true) (hzs : Nat.beq tei.zero.length tei.size = true)
    {v : Value} {xs : List Value} {L1 L2 : Own} {A : Option Addr} {k c : Nat} {news : List Value} {K : Value → World → Prop}
    (hown : OwnS te tei.size v xs L1) (hL : Loc m0 S w0 m (L1 ++ L2) w)
    (hl : news.length = k * tei.size) (hc : ∀ j u, news[j]? = some u → ∃ a, A = some a ∧ w.cell? (a.add j) = some u) (h1 : ∀ u ∈ news, u.oneCell' = true)
    (hb : xs.length + news.length ≤ 1099511627776) (hby : Nat.ble tei.bytes (128 * tei.size) = true)
    (h : ∀ v' L1' w', OwnS te tei.size v' (xs ++ news) L1' → Loc m0 S w0 m (L1' ++ L2) w' → K v' w') :
    RunReq P (Builtin.append_ #[t, t] ty (toArr [v, .slice A k c])) w K := by
  obtain ⟨n, hrow, hxl, ⟨A0, c0, hv⟩, hkeys⟩ := ownsRow_of hown hL
  have hsz : 0 < tei.size := blt_lt hsz
  have hzs := Nat.eq_of_beq_eq_true hzs
  have hby := Nat.le_of_ble_eq_true hby
  have hT := hX.t _ _ ht
  have hTe := hX.t _ _ hte
  obtain ⟨i, d, z, hi, _, hz, htei⟩ := tiOf_info hTe
  have e1 : i.size = tei.size := by rw [htei]
  have e2 : i.bytes = tei.bytes := by rw [htei]
  have e3 : z.cells.size = tei.size := by rw [← hzs, htei]; simp
  have hnk : (n + k) * tei.size ≤ 1099511627776 := by rw [Nat.add_mul, ← hxl, ← hl]; exact hb
  have hn1 : n + k ≤ 1099511627776 := Nat.le_trans (Nat.le_mul_of_pos_right _ hsz) hnk
  have hbytes : (n + k) * tei.bytes ≤ 140737488355328 := by
    have : (n + k) * tei.bytes ≤ (n + k) * (128 * tei.size) := Nat.mul_le_mul_left _ hby
    have e : (n + k) * (128 * tei.size) = 128 * ((n + k) * tei.size) := by rw [Nat.mul_left_comm]
    omega
  have harg : toArr [v, .slice A k c] = #[v, .slice A k c] := rfl
  rw [harg]
  rcases Nat.eq_zero_or_pos k with hk | hk
  ·
    subst hk
    have hn0 : news = [] := List.eq_nil_of_length_eq_zero (by simpa using hl)
    subst hn0
    have hrun : (Builtin.append_ #[t, t] ty #[v, .slice A 0 c]).run P w = .ok v w := by
      rw [hv] at hrow ⊢
      have hle : n ≤ c0 := by
        rcases hrow.2 with ⟨hv', h0⟩ | ⟨g, cap, cur, hv', _, _, hle, _⟩
        · omega
        · injection hv' with _ _ h3; omega
      cases A <;> cases A0 <;> simp [Builtin.append_, run_underlying (td_slice hT hd), sizeOf, typeInfo, hi, Builtin.lenOf, Builtin.firstCells, loadCells, loadCellsFrom, hle, storeCells]
    exact ⟨v, w, hrun, h v L1 w (by simpa using hown) hL⟩
  · obtain ⟨a, rfl, _⟩ := hc 0 _ (List.getElem?_eq_getElem (show 0 < news.length by rw [hl]; exact Nat.mul_pos hk hsz))
    have hc' : ∀ j u, news[j]? = some u → w.cell? (a.add j) = some u := fun j u hu => by
      obtain ⟨a', h2, h3⟩ := hc j u hu
      injection h2 with h2; subst h2; exact h3
    obtain ⟨v', w', hrun, hrow', hg, _, hat⟩ := run_append_own_at (P := P) w 0 t ty te i z tei.size tei.bytes (td_slice hT hd) hi hz e1 e2 e3 hsz v n xs hrow a k c news hl hc' h1 (by simp only [maxLen]; omega) hbytes (Nat.zero_le _)
    refine ⟨v', w', hrun, ?_⟩
    have hown' : ∃ L1', OwnS te tei.size v' (xs ++ news) L1' ∧ (∀ x ∈ L1', w'.heap[x.1]? = some x.2) ∧ (keys L1').Nodup ∧ ∀ b ∈ keys L1', v'.ownBlock = some b := by
      rcases hrow'.2 with ⟨rfl, h0⟩ | ⟨g, cap, cur, rfl, _, hgg, h2, h3, h4, h5⟩
      · exact ⟨[], ⟨n + k, hrow'.1, .inl ⟨rfl, h0, rfl⟩⟩, by simp, by simp [keys], by simp [keys]⟩
      · refine ⟨[(g, .cells (toArr cur.toList) te (0, 0))], ⟨n + k, hrow'.1, .inr ⟨g, cap, cur.toList, rfl, rfl, h2, h3, by simpa using h4, h5⟩⟩, ?_, by simp [keys], by simp [keys, Value.ownBlock]⟩
        intro x hx
        simp only [List.mem_singleton] at hx
        subst hx
        have : toArr cur.toList = cur := by simp [toArr]
        rw [this]; exact hgg
    obtain ⟨L1', k1, k2, k3, k4⟩ := hown'
    refine h v' L1' w' k1 (hL.step hg.os hg.tape hg.output hg.size (fun q hq hnk => hg.block q hq (fun e => ?_)) k2 k3 (fun b hb' => ?_))
    · rcases hkeys with ⟨h2, _⟩ | ⟨g, h2, h3⟩
      · rw [h2] at e; cases e
      · rw [h2] at e; injection e with e; subst e; exact hnk (by rw [h3]; simp)
    · have := k4 b hb'
      rcases hat with h2 | h2
      · rw [h2] at this
        rcases hkeys with ⟨h3, _⟩ | ⟨g, h3, h4⟩
        · rw [h3] at this; cases this
        · rw [h3] at this; injection this with this; subst this; exact .inl (by rw [h4]; simp)
      · rw [h2] at this; injection this with this; subst this; exact .inr (Nat.le_refl _)
theorem OwnS.slice {te size : Nat} {v : Value} {xs : List Value} {L : Own} (h : OwnS te size v xs L) : ∃ A n c, v = .slice A n c ∧ xs.length = n * size := by
  obtain ⟨n, hn, ⟨rfl, h0, _⟩ | ⟨g, cap, cur, rfl, _⟩⟩ := h
  · subst h0; exact ⟨_, 0, _, rfl, hn⟩
  · exact ⟨_, _, _, rfl, hn⟩
theorem RunReq.append (hX : TabsOk P X) (t te : Nat) {ti tei : TI} {ty : TypeId} (ht : look X.T t = some (some ti)) (hd : ti.d = .slice te) (hte : look X.T te = some (some tei)) (hsz : Nat.blt 0 tei.size = true) (hzs : Nat.beq tei.zero.length tei.size = true)
    {v : Value} {xs : List Value} {L1 L2 : Own} {A : Option Addr} {k c : Nat} {news : List Value} {K : Value → World → Prop}
    (hown : OwnS te tei.size v xs L1) (hL : Loc m0 S w0 m (L1 ++ L2) w)
    (hl : news.length = k * tei.size) (hc : ∀ j u, news[j]? = some u → ∃ a, A = some a ∧ w.cell? (a.add j) = some u) (h1 : ∀ u ∈ news, u.oneCell' = true)
    (hb : xs.length + news.length ≤ 1099511627776) (hby : Nat.ble tei.bytes (128 * tei.size) = true)
    (h : ∀ A n c L1' w', (xs ++ news).length = n * tei.size → OwnS te tei.size (.slice A n c) (xs ++ news) L1' → Loc m0 S w0 m (L1' ++ L2) w' → K (.slice A n c) w') :
    RunReq P (Builtin.append_ #[t, t] ty (toArr [v, .slice A k c])) w K :=
  RunReq.append0 hX ht hd hte hsz hzs hown hL hl hc h1 hb hby fun v' L1' w' ho hl' => by
    obtain ⟨A, n, c, rfl, hn⟩ := ho.slice
    exact h A n c L1' w' hn ho hl'
theorem RunReq.make (hX : TabsOk P X) {t te : Nat} {ti tei : TI} {L : Own} (ht : look X.T t = some (some ti)) (hd : ti.d = .slice te) (hte : look X.T te = some (some tei)) (hzs : Nat.beq tei.zero.length tei.size = true)
    {kl kc : IntKind} {l c : Int} (n cap : Nat) {K : Value → World → Prop} (hn : l = (n : Int)) (hc : c = (cap : Int)) (hle : n ≤ cap) (hb : cap ≤ 1099511627776) (hby : Nat.ble tei.bytes 256 = true)
    (hL : Loc m0 S w0 m L w)
    (h : ∀ b w', Loc m0 S w0 m ((b, .cells (toArr (zerosL cap tei.zero)) te (0, 0)) :: L) w' → K (.slice (some ⟨b, 0, none⟩) n cap) w') :
    RunReq P (Instr.makeSlice t (.int kl l) (.int kc c)) w K := by
  subst hn hc
  have hzs := Nat.eq_of_beq_eq_true hzs
  have hby := Nat.le_of_ble_eq_true hby
  have hT := hX.t _ _ ht
  have hTe := hX.t _ _ hte
  obtain ⟨i, d, z, hi, _, hz, htei⟩ := tiOf_info hTe
  have e1 : i.size = tei.size := by rw [htei]
  have e2 : i.bytes = tei.bytes := by rw [htei]
  have e3 : z.cells.size = tei.size := by rw [← hzs, htei]; simp
  have hbytes : (i.bytes : Int) * (cap : Int) ≤ 281474976710656 := by
    have h1 : i.bytes * cap ≤ 256 * 1099511627776 := Nat.mul_le_mul (by omega) hb
    have : ((i.bytes * cap : Nat) : Int) ≤ 281474976710656 := by omega
    rwa [Int.natCast_mul] at this
  have hr := run_make (P := P) w t te i z (td_slice hT hd) hi hz kl kc n cap (by omega) (by omega) hbytes (by omega)
  refine ⟨_, _, hr, ?_⟩
  simp only [Int.toNat_natCast]
  have e4 : madeCells z.cells (cap * i.size) = toArr (zerosL cap tei.zero) := by
    apply Array.ext'
    rw [show tei.zero = z.cells.toList by rw [htei]]
    rw [← zeros_eq]
    simp only [madeCells, toArr, e1, e3]
  rw [e4]
  exact h _ _ (hL.alloc _)
def ints (k : IntKind) (l : List Int) : List Value := l.map (.int k)
theorem ints_append (k : IntKind) (a b : List Int) : ints k (a ++ b) = ints k a ++ ints k b := List.map_append
theorem SlI.src {k : IntKind} {A : Option Addr} {n c : Nat} {l : List Int} {L : Own} (h : SlI m k (.slice A n c) l) (hL : Loc m0 S w0 m L w) :
    (ints k l).length = n * 1 ∧ ∀ j u, (ints k l)[j]? = some u → ∃ a, A = some a ∧ w.cell? (a.add j) = some u := by
  obtain ⟨h1, h2⟩ := h.cell
  refine ⟨by simp [ints, h1], fun j u hu => ?_⟩
  simp only [ints, List.getElem?_map, Option.map_eq_some_iff] at hu
  obtain ⟨z, hz, rfl⟩ := hu
  obtain ⟨a, g1, g2⟩ := h2 j z hz
  exact ⟨a, g1, hL.cell g2⟩
theorem SlI.len {k : IntKind} {A : Option Addr} {n c : Nat} {l : List Int} (h : SlI m k (.slice A n c) l) : n = l.length ∧ n ≤ c ∧ c ≤ maxLen := by
  obtain ⟨A', n', c', h1, h2, h3, h4, _⟩ := h
  cases h1
  exact ⟨h2, h3, h4⟩
theorem OwnS.freeze {te : Nat} {v : Value} {k : IntKind} {l : List Int} {L1 L2 : Own} (h : OwnS te 1 v (ints k l) L1) (hL : Loc m0 S w0 m (L1 ++ L2) w) :
    ∃ m', Loc m0 S w0 m' L2 w ∧ Mem.Le m m' ∧ SlI m' k v l := by
  obtain ⟨n, hn, h⟩ := h
  have hln : n = l.length := by simp [ints] at hn; exact hn.symm
  rcases h with ⟨rfl, h0, rfl⟩ | ⟨g, cap, cur, rfl, rfl, h1, h2, h3, h4⟩
  · refine ⟨m, hL, Mem.Le.refl m, none, 0, 0, rfl, by omega, Nat.le_refl _, Nat.zero_le _, fun i x hx => ?_⟩
    have : l = [] := List.eq_nil_of_length_eq_zero (by omega)
    subst this
    simp at hx
  · refine ⟨_, hL.freeze, hL.le_add, some ⟨g, 0, none⟩, n, cap, rfl, hln, h1, h2, fun i x hx => ⟨_, [.int k x], rfl, rfl, fun j v hj => ?_, rfl⟩⟩
    have hj0 : j = 0 ∧ v = .int k x := by cases j <;> simp_all
    obtain ⟨rfl, rfl⟩ := hj0
    simp only [scale, addr_add, Nat.add_zero, Nat.zero_add]
    unfold mcell
    simp only [Mem.add_same, ocell]
    have h5 : (ints k l)[i]? = some (.int k x) := by simp [ints, hx]
    rw [← h4, List.getElem?_take] at h5
    split at h5
    · simpa [toArr] using h5
    · cases h5
end
theorem list_of {α : Type} {Q : Nat → α → Prop} : ∀ (n : Nat), (∀ i, i < n → ∃ x, Q i x) → ∃ l : List α, l.length = n ∧ ∀ i x, l[i]? = some x → Q i x
  | 0, _ => ⟨[], rfl, by simp⟩
  | n + 1, h => by
    obtain ⟨l, h1, h2⟩ := list_of n fun i hi => h i (by omega)
    obtain ⟨x, hx⟩ := h n (by omega)
    refine ⟨l ++ [x], by simp [h1], fun i y hy => ?_⟩
    rw [List.getElem?_append] at hy
    split at hy
    · exact h2 i y hy
    · have : i = n := by
        have h3 := (List.getElem?_eq_some_iff.1 hy).1
        simp at h3
        omega
      subst this
      simp [h1] at hy
      exact hy ▸ hx
theorem rdf_slice {α : Type} {X : Tab} {m : Mem} {n t e : Nat} {v : Value} {ti te : TI} {R : List Value → α → Prop} (ht : tyO X t = some ti) (hd : ti.d = .slice e) (hte : tyO X e = some te)
    (hR : ∀ cs, cs.length = te.size → Rdf X m n e cs → ∃ x, R cs x) (h : Rdf X m (n + 1) t [v]) :
    ∃ l : List α, Sl m te.size R v l ∧ l.length * te.bytes ≤ reachBytes := by
  unfold Rdf at h
  rw [ht] at h
  simp only [hd, hte] at h
  obtain ⟨A, len, cap, h1, h2, h3, h4, h5⟩ := h
  cases h1
  obtain ⟨l, h6, h7⟩ := list_of (Q := fun i (x : α) => ∃ a cs, A = some a ∧ cs.length = te.size ∧ Cells m (a.add (scale i te.size)) cs ∧ R cs x) len fun i hi => by
    obtain ⟨a, cs, g1, g2, g3, g4⟩ := h5 i hi
    obtain ⟨x, hx⟩ := hR cs g2 g4
    exact ⟨x, a, cs, g1, g2, g3, hx⟩
  exact ⟨l, ⟨A, len, cap, rfl, h6.symm, h2, h3, h7⟩, by rw [h6]; exact h4⟩
theorem rdf_int {X : Tab} {m : Mem} {n t : Nat} {cs : List Value} {ti : TI} {k : IntKind} (ht : tyO X t = some ti) (hd : ti.d = .int k) (h : Rdf X m n t cs) : ∃ z, cs = [.int k z] ∧ k.min ≤ z ∧ z ≤ k.max := by
  cases n with
  | zero => exact h.elim
  | succ n => unfold Rdf at h; rw [ht] at h; simpa only [hd] using h
theorem rdf_bool {X : Tab} {m : Mem} {n t : Nat} {cs : List Value} {ti : TI} (ht : tyO X t = some ti) (hd : ti.d = .bool) (h : Rdf X m n t cs) : ∃ b, cs = [.bool b] := by
  cases n with
  | zero => exact h.elim
  | succ n => unfold Rdf at h; rw [ht] at h; simpa only [hd] using h
theorem rdf_str {X : Tab} {m : Mem} {n t : Nat} {cs : List Value} {ti : TI} (ht : tyO X t = some ti) (hd : ti.d = .str) (h : Rdf X m n t cs) : ∃ s : ByteArray, cs = [.string s] ∧ s.size ≤ reachBytes := by
  cases n with
  | zero => exact h.elim
  | succ n => unfold Rdf at h; rw [ht] at h; simpa only [hd] using h
theorem Sl.all {α : Type} {m : Mem} {size : Nat} {R : List Value → α → Prop} {v : Value} {l : List α} (h : Sl m size R v l) : ∀ x ∈ l, ∃ cs, R cs x := by
  intro x hx
  obtain ⟨i, hi⟩ := List.getElem?_of_mem hx
  obtain ⟨_, _, _, _, _, _, _, h5⟩ := h
  obtain ⟨_, cs, _, _, _, g⟩ := h5 i x hi
  exact ⟨cs, g⟩
theorem Given.ints {X : Tab} {m : Mem} {t e : Nat} {v : Value} {ti te : TI} {k : IntKind} (ht : tyO X t = some ti) (hd : ti.d = .slice e) (hte : tyO X e = some te) (hk : te.d = .int k) (h1 : te.size = 1) (h : Given X m t v) :
    ∃ l : List Int, SlI m k v l ∧ l.length * te.bytes ≤ reachBytes ∧ ∀ z ∈ l, k.min ≤ z ∧ z ≤ k.max := by
  obtain ⟨hs, n, hr⟩ := h
  unfold Shp at hs
  rw [ht] at hs
  simp only [hd, TD.isAgg] at hs
  rw [hs] at hr
  cases n with
  | zero => exact hr.elim
  | succ n =>
    obtain ⟨l, h2, h3⟩ := rdf_slice (R := fun cs (z : Int) => cs = [.int k z] ∧ k.min ≤ z ∧ z ≤ k.max) ht hd hte (fun cs _ h => rdf_int hte hk h) hr
    rw [h1] at h2
    refine ⟨l, h2.le (Mem.Le.refl m) fun cs x _ hx => hx.1, h3, fun z hz => ?_⟩
    obtain ⟨cs, _, h⟩ := h2.all z hz
    exact h
theorem Given.int {X : Tab} {m : Mem} {t : Nat} {v : Value} {ti : TI} {k : IntKind} (ht : tyO X t = some ti) (hd : ti.d = .int k) (h : Given X m t v) : ∃ z, v = .int k z ∧ k.min ≤ z ∧ z ≤ k.max := by
  obtain ⟨hs, n, hr⟩ := h
  unfold Shp at hs
  rw [ht] at hs
  simp only [hd, TD.isAgg] at hs
  rw [hs] at hr
  obtain ⟨z, h1, h2⟩ := rdf_int ht hd hr
  cases h1
  exact ⟨z, rfl, h2⟩
theorem Given.bool {X : Tab} {m : Mem} {t : Nat} {v : Value} {ti : TI} (ht : tyO X t = some ti) (hd : ti.d = .bool) (h : Given X m t v) : ∃ b, v = .bool b := by
  obtain ⟨hs, n, hr⟩ := h
  unfold Shp at hs
  rw [ht] at hs
  simp only [hd, TD.isAgg] at hs
  rw [hs] at hr
  obtain ⟨z, h1⟩ := rdf_bool ht hd hr
  cases h1
  exact ⟨z, rfl⟩
theorem Given.str {X : Tab} {m : Mem} {t : Nat} {v : Value} {ti : TI} (ht : tyO X t = some ti) (hd : ti.d = .str) (h : Given X m t v) : ∃ s : ByteArray, v = .string s ∧ s.size ≤ reachBytes := by
  obtain ⟨hs, n, hr⟩ := h
  unfold Shp at hs
  rw [ht] at hs
  simp only [hd, TD.isAgg] at hs
  rw [hs] at hr
  obtain ⟨z, h1, h2⟩ := rdf_str ht hd hr
  cases h1
  exact ⟨z, rfl, h2⟩
end Go.Ev
namespace Go.Ev
open Go
def eqFs (X : Tab) (rec : Nat → List Value → List Value → Option Bool) : List (Nat × Nat) → List Value → List Value → Option Bool
  | [], _, _ => some true
  | f :: fs, xs, ys => match tyO X f.2 with
    | none => none
    | some tf => match rec f.2 ((xs.drop f.1).take tf.size) ((ys.drop f.1).take tf.size) with
      | none => none
      | some b => match eqFs X rec fs xs ys with
        | none => none
        | some c => some (b && c)
def eqAr (rec : List Value → List Value → Option Bool) (size : Nat) : List Nat → List Value → List Value → Option Bool
  | [], _, _ => some true
  | i :: is, xs, ys => match rec ((xs.drop (i * size)).take size) ((ys.drop (i * size)).take size) with
    | none => none
    | some b => match eqAr rec size is xs ys with
      | none => none
      | some c => some (b && c)
def eqB (X : Tab) : Nat → Nat → List Value → List Value → Option Bool
  | 0, _, _, _ => none
  | n + 1, t, xs, ys => match tyO X t with
    | none => none
    | some ti => match ti.d with
      | .int _ => match xs, ys with
        | [.int k a], [.int k' b] => match kEq k k' with | true => some (decide (a = b)) | false => none
        | _, _ => none
      | .bool => match xs, ys with
        | [.bool a], [.bool b] => some (a == b)
        | _, _ => none
      | .struct fs => match inE X.E t with | true => none | false => eqFs X (eqB X n) fs xs ys
      | .array k e => match tyO X e with
        | none => none
        | some te => eqAr (eqB X n e) te.size (List.range k) xs ys
      | _ => none
section
variable {P : Program} {X : Tab}
def EqTold (P : Program) (X : Tab) (d t : Nat) (xs ys : List Value) (b : Bool) : Prop :=
  ∀ ti, tyO X t = some ti → match ti.d.isAgg with
    | true => ∀ w, (Op.equalIn d t (.agg (toArr xs)) (.agg (toArr ys))).run P w = .ok b w
    | false => ∃ x y, xs = [x] ∧ ys = [y] ∧ ∀ w, (Op.equalIn d t x y).run P w = .ok b w
theorem part_told (hX : TabsOk P X) {t : Nat} {ti : TI} (ht : tyO X t = some ti) (hd : ti.d.isAgg = true) (cs : List Value) (off : Nat) (w : World) :
    (part t (toArr cs) off).run P w = .ok (.agg (toArr ((cs.drop off).take ti.size))) w := by
  have h := tyO_ok hX ht
  simp only [part, Sem.run_bind, run_isAgg h, Result.andThen_ok, hd, if_true, run_sizeOf h, Sem.run_pure]
  congr 2
  apply Array.ext'
  simp [toArr]
theorem part_one (hX : TabsOk P X) {t : Nat} {ti : TI} (ht : tyO X t = some ti) (hd : ti.d.isAgg = false) {cs : List Value} {off : Nat} {x : Value} (hx : (cs.drop off).take ti.size = [x]) (w : World) :
    (part t (toArr cs) off).run P w = .ok x w := by
  have h := tyO_ok hX ht
  have h0 : (toArr cs)[off]? = some x := by
    have : ((cs.drop off).take ti.size)[0]? = some x := by rw [hx]; rfl
    rw [List.getElem?_take] at this
    split at this
    · simpa [toArr] using this
    · cases this
  simp only [part, Sem.run_bind, run_isAgg h, Result.andThen_ok, hd, Bool.false_eq_true, if_false, h0, Sem.run_pure]
theorem step_told (hX : TabsOk P X) {d t : Nat} {xs ys : List Value} {off size : Nat} {b : Bool} {ti : TI} (ht : tyO X t = some ti) (hs : size = ti.size)
    (h : EqTold P X d t ((xs.drop off).take size) ((ys.drop off).take size) b) :
    ∃ u v, (∀ w, (part t (toArr xs) off).run P w = .ok u w) ∧ (∀ w, (part t (toArr ys) off).run P w = .ok v w) ∧ ∀ w, (Op.equalIn d t u v).run P w = .ok b w := by
  subst hs
  have h := h ti ht
  cases hd : ti.d.isAgg with
  | true =>
    rw [hd] at h
    exact ⟨_, _, fun w => part_told hX ht hd xs off w, fun w => part_told hX ht hd ys off w, h⟩
  | false =>
    rw [hd] at h
    obtain ⟨x, y, h1, h2, h3⟩ := h
    exact ⟨x, y, fun w => part_one hX ht hd h1 w, fun w => part_one hX ht hd h2 w, h3⟩
theorem eqB_told (hX : TabsOk P X) : ∀ (n t : Nat) (xs ys : List Value) (b : Bool), eqB X n t xs ys = some b → ∀ d, EqTold P X (d + n) t xs ys b := by
  intro n
  induction n with
  | zero => intro t xs ys b h; simp [eqB] at h
  | succ n ih =>
    intro t xs ys b h d ti ht
    have hT := tyO_ok hX ht
    have hlook : look X.T t = some (some ti) := by
      unfold tyO at ht
      split at ht
      · rename_i ti' hl; cases ht; exact hl
      · cases ht
    unfold eqB at h
    rw [ht] at h
    simp only at h
    cases hd : ti.d with
    | int k =>
      rw [hd] at h
      simp only at h
      simp only [TD.isAgg]
      split at h
      · rename_i k1 a k2 b'
        split at h
        · rename_i hk
          injection h with h
          subst h
          obtain rfl := kEq_eq hk
          exact ⟨_, _, rfl, rfl, fun w => run_equalIn_int w (d + n) t _ _ a b' (td_int hT hd)⟩
        · cases h
      · cases h
    | bool =>
      rw [hd] at h
      simp only at h
      simp only [TD.isAgg]
      split at h
      · rename_i a b'
        injection h with h
        subst h
        exact ⟨_, _, rfl, rfl, fun w => run_equalIn_bool' w (d + n) t a b' (td_bool hT hd)⟩
      · cases h
    | struct fs =>
      rw [hd] at h
      simp only at h
      simp only [TD.isAgg]
      intro w
      obtain ⟨F, hu, hF⟩ := td_struct hT hd
      have hfo : P.fieldsOf t = F := by simp [Program.fieldsOf, hu]
      cases hE : inE X.E t with
      | true => rw [hE] at h; cases h
      | false =>
      rw [hE] at h
      simp only at h
      obtain ⟨hst, hbl⟩ : P.stoodInHeld t = false ∧ blankD P t = false := by have := hX.held t ti hlook hE; rw [hd] at this; exact this
      rw [show d + (n + 1) = (d + n) + 1 from rfl, run_equalIn_struct w (d + n) t _ _ (by rw [hfo]; exact hu) hst, hfo]
      have hnames := td_names hbl hu
      rw [hF] at h
      clear hF hfo hu
      generalize F.toList = G at h hnames
      induction G generalizing b w with
      | nil => simp [eqFs] at h; subst h; simp [Op.eqFields]
      | cons f G ihG =>
        simp only [List.map_cons, eqFs] at h
        cases htf : tyO X f.type with
        | none => rw [htf] at h; cases h
        | some tf =>
          rw [htf] at h
          simp only at h
          cases hb1 : eqB X n f.type ((xs.drop f.offset).take tf.size) ((ys.drop f.offset).take tf.size) with
          | none => rw [hb1] at h; cases h
          | some b1 =>
            rw [hb1] at h
            simp only at h
            cases hb2 : eqFs X (eqB X n) (G.map fun f => (f.offset, f.type)) xs ys with
            | none => rw [hb2] at h; cases h
            | some b2 =>
              rw [hb2] at h
              injection h with h
              subst h
              obtain ⟨u, v, p1, p2, p3⟩ := step_told hX htf rfl (ih _ _ _ _ hb1 d)
              have hn := hnames f (by simp)
              simp only [Op.eqFields, hn, ne_eq, not_false_eq_true, if_true, Sem.run_bind, p1, p2, p3, Result.andThen_ok]
              cases b1
              · simp
              · simp only [Bool.not_true, Bool.false_eq_true, if_false, Bool.true_and]
                exact ihG b2 w hb2 (fun g hg => hnames g (by simp [hg]))
    | array k e =>
      rw [hd] at h
      simp only at h
      simp only [TD.isAgg]
      intro w
      cases hte : tyO X e with
      | none => rw [hte] at h; cases h
      | some te =>
        rw [hte] at h
        simp only at h
        obtain ⟨i, di, z, hi, _, _, _⟩ := tiOf_info (tyO_ok hX hte)
        rw [show d + (n + 1) = (d + n) + 1 from rfl, run_equalIn_array w (d + n) _ _ (td_array hT hd) hi, cellsOf_eq (tyO_ok hX hte)]
        generalize List.range k = is at h
        induction is generalizing b w with
        | nil => simp [eqAr] at h; subst h; simp [Op.eqItems]
        | cons j is ihj =>
          simp only [eqAr] at h
          cases hb1 : eqB X n e ((xs.drop (j * te.size)).take te.size) ((ys.drop (j * te.size)).take te.size) with
          | none => rw [hb1] at h; cases h
          | some b1 =>
            rw [hb1] at h
            simp only at h
            cases hb2 : eqAr (eqB X n e) te.size is xs ys with
            | none => rw [hb2] at h; cases h
            | some b2 =>
              rw [hb2] at h
              injection h with h
              subst h
              obtain ⟨u, v, p1, p2, p3⟩ := step_told hX hte rfl (ih _ _ _ _ hb1 d)
              simp only [Op.eqItems, Sem.run_bind, p1, p2, p3, Result.andThen_ok]
              cases b1
              · simp
              · simp only [Bool.not_true, Bool.false_eq_true, if_false, Bool.true_and]
                exact ihj b2 w hb2
    | _ => rw [hd] at h; simp at h
theorem UGenReq.eqA (hX : TabsOk P X) {o : Oper} {ρ : Operand → Value} {t yt : Nat} {x y : Operand} {xs ys : List Value} {b : Bool} {ti : TI} {K : Value → Prop} (ho : o.op = .binOp .eql t x y yt) (hx : ρ x = .agg (toArr xs)) (hy : ρ y = .agg (toArr ys))
    (hg : P.eqGuardType P.depth t = false) (ht : tyO X t = some ti) (hd : ti.d.isAgg = true) (hb : eqB X 9 t xs ys = some b) (h : K (.bool b)) : UGenReq P o ρ K := by
  have he := eqB_told hX 9 t xs ys b hb 9991 ti ht
  rw [hd] at he
  constructor
  refine UOk.of_run (s := (do eqGuard .eql t x y (.agg (toArr xs)) (.agg (toArr ys)); binOp .eql t (.agg (toArr xs)) (.agg (toArr ys)))) _ (by simp only [execOp, ho, hx, hy]) (fun w => ?_) h
  simp only [Sem.run_bind, run_eqGuard_agg w .eql t x y _ _ hg, Result.andThen_ok, run_eql_struct]
  rw [he w]
  rfl
theorem UGenReq.neA (hX : TabsOk P X) {o : Oper} {ρ : Operand → Value} {t yt : Nat} {x y : Operand} {xs ys : List Value} {b : Bool} {ti : TI} {K : Value → Prop} (ho : o.op = .binOp .neq t x y yt) (hx : ρ x = .agg (toArr xs)) (hy : ρ y = .agg (toArr ys))
    (hg : P.eqGuardType P.depth t = false) (ht : tyO X t = some ti) (hd : ti.d.isAgg = true) (hb : eqB X 9 t xs ys = some b) (h : K (.bool (!b))) : UGenReq P o ρ K := by
  have he := eqB_told hX 9 t xs ys b hb 9991 ti ht
  rw [hd] at he
  constructor
  refine UOk.of_run (s := (do eqGuard .neq t x y (.agg (toArr xs)) (.agg (toArr ys)); binOp .neq t (.agg (toArr xs)) (.agg (toArr ys)))) _ (by simp only [execOp, ho, hx, hy]) (fun w => ?_) h
  simp only [Sem.run_bind, run_eqGuard_agg w .neq t x y _ _ hg, Result.andThen_ok, run_neq_struct]
  rw [he w]
  rfl
variable {m0 m : Mem} {S0 : List Nat} {w0 : World} {L : Own}
theorem QLdReq.one (hX : TabsOk P X) {t : Nat} {ti : TI} (ht : look X.T t = some (some ti)) (hd : ti.d.isAgg = false) {a : Addr} {v : Value} {K : Value → Prop} (hv : mcell m a = some v) (h : K v) :
    QLdReq P t (fun w => Loc m0 S0 w0 m L w) a K := ⟨v, fun _ hw => run_loadVar_one (hX.t _ _ ht) hd (hw.cell hv), h⟩
theorem QLdReq.agg (hX : TabsOk P X) {t : Nat} {ti : TI} (ht : look X.T t = some (some ti)) (hd : ti.d.isAgg = true) {a : Addr} {vs : List Value} {K : Value → Prop} (hl : vs.length = ti.size) (hv : Cells m a vs) (h : K (.agg (toArr vs))) :
    QLdReq P t (fun w => Loc m0 S0 w0 m L w) a K := ⟨_, fun _ hw => run_loadVar_agg (hX.t _ _ ht) hd hl (fun j v hj => hw.cell (hv j v hj)), h⟩
theorem QLdReq.own1 (hX : TabsOk P X) {t : Nat} {ti : TI} (ht : look X.T t = some (some ti)) (hd : ti.d.isAgg = false) (i : Nat) {b off : Nat} {cs : List Value} {te : TypeId} {fz : Nat × Nat} {v : Value} {K : Value → Prop}
    (hi : look L i = some (b, .cells (toArr cs) te fz)) (hv : look cs off = some v) (h : K v) : QLdReq P t (fun w => Loc m0 S0 w0 m L w) ⟨b, off, none⟩ K := by
  rw [look_eq] at hi hv
  refine ⟨v, fun w hw => ?_, h⟩
  have hc := hw.ownCell (i := off) (List.mem_of_getElem? hi)
  exact run_loadVar_one (hX.t _ _ ht) hd (hc.trans (by simpa [toArr] using hv))
theorem QLdReq.ownA (hX : TabsOk P X) {t : Nat} {ti : TI} (ht : look X.T t = some (some ti)) (hd : ti.d.isAgg = true) (i : Nat) {b off : Nat} {cs : List Value} {te : TypeId} {fz : Nat × Nat} {K : Value → Prop}
    (hi : look L i = some (b, .cells (toArr cs) te fz)) (hl : Nat.ble (off + ti.size) cs.length = true) (h : K (.agg (toArr ((cs.drop off).take ti.size)))) : QLdReq P t (fun w => Loc m0 S0 w0 m L w) ⟨b, off, none⟩ K := by
  rw [look_eq] at hi
  have hl := Nat.le_of_ble_eq_true hl
  refine ⟨_, fun w hw => run_loadVar_agg (hX.t _ _ ht) hd (by simp; omega) (fun j v hj => ?_), h⟩
  rw [addr_add]
  have hc := hw.ownCell (i := off + j) (List.mem_of_getElem? hi)
  rw [hc]
  rw [List.getElem?_take] at hj
  split at hj
  · simpa [toArr, List.getElem?_drop] using hj
  · cases hj
theorem AltReq.one {A : Prop} (h : A) : AltReq A True := ⟨⟨h, trivial⟩⟩
theorem SReq.mk {A B : Prop} (h : A) (k : B) : SReq A B := ⟨⟨h, k⟩⟩
end
end Go.Ev
namespace Go.Ev
open Go
theorem ble_of {a b : Nat} (h : a ≤ b) : Nat.ble a b = true := Nat.ble_eq_true_of_le h
theorem Sl.nil {α : Type} (m : Mem) (size : Nat) (R : List Value → α → Prop) : Sl m size R (.slice none 0 0) [] :=
  ⟨none, 0, 0, rfl, rfl, Nat.le_refl _, Nat.zero_le _, by simp⟩
theorem Sl.lens {α : Type} {m : Mem} {size : Nat} {R : List Value → α → Prop} {A : Option Addr} {n c : Nat} {l : List α} (h : Sl m size R (.slice A n c) l) : n = l.length ∧ n ≤ c ∧ c ≤ maxLen := by
  obtain ⟨A', n', c', h1, h2, h3, h4, _⟩ := h
  cases h1
  exact ⟨h2, h3, h4⟩
theorem Sl.elem {α : Type} {m : Mem} {size : Nat} {R : List Value → α → Prop} {A : Option Addr} {n c : Nat} {l : List α} (h : Sl m size R (.slice A n c) l) :
    ∀ (i : Nat) (x : α), l[i]? = some x → ∃ a cs, A = some a ∧ cs.length = size ∧ Cells m (a.add (scale i size)) cs ∧ R cs x := by
  obtain ⟨A', n', c', h1, _, _, _, h5⟩ := h
  cases h1
  exact h5
theorem Sl.sub {α : Type} {m : Mem} {size : Nat} {R : List Value → α → Prop} {A : Option Addr} {n c : Nat} {l : List α} (h : Sl m size R (.slice A n c) l) {lo hi : Nat} (h1 : lo ≤ hi) (h2 : hi ≤ n) :
    Sl m size R (.slice (if c = lo then A else A.map (·.add (scale lo size))) (hi - lo) (c - lo)) ((l.take hi).drop lo) := by
  obtain ⟨A', n', c', h3, h4, h5, h6, h7⟩ := h
  cases h3
  refine ⟨_, _, _, rfl, by simp; omega, by omega, by omega, fun i x hx => ?_⟩
  rw [List.getElem?_drop, List.getElem?_take] at hx
  split at hx
  · rename_i hlt
    obtain ⟨a, cs, g1, g2, g3, g4⟩ := h7 _ _ hx
    have hne : c ≠ lo := by omega
    refine ⟨a.add (scale lo size), cs, by rw [if_neg hne, g1]; rfl, g2, ?_, g4⟩
    have e : (a.add (scale lo size)).add (scale i size) = a.add (scale (lo + i) size) := by
      rw [scale_eq, scale_eq, scale_eq, Nat.add_mul]
      by_cases e1 : lo * size = 0 <;> by_cases e2 : i * size = 0 <;> simp [Addr.add, e1, e2, Nat.add_assoc]
    rw [e]
    exact g3
  · cases hx
theorem OwnS.set {te : Nat} {k : IntKind} {g n cap : Nat} {cur : List Value} {l : List Int} (h1 : n ≤ cap) (h2 : cap ≤ maxLen) (h3 : cur.length = cap * 1) (h4 : cur.take (n * 1) = ints k l) (hn : (ints k l).length = n * 1) (i : Nat) (z : Int) :
    OwnS te 1 (.slice (some ⟨g, 0, none⟩) n cap) (ints k (l.set i z)) [(g, .cells (toArr (cur.set i (.int k z))) te (0, 0))] := by
  refine ⟨n, by simpa [ints] using hn, .inr ⟨g, cap, _, rfl, rfl, h1, h2, by simpa using h3, ?_⟩⟩
  rw [List.take_set, h4]
  simp [ints, List.map_set]
section
variable {P : Program} {X : Tab} {m0 m : Mem} {S : List Nat} {w0 w : World}
theorem StReq.ownAt (hX : TabsOk P X) {t : Nat} {ti : TI} {L : Own} (ht : look X.T t = some (some ti)) (i : Nat) {b o j : Nat} {cs : List Value} {te : TypeId} {v : Value} {K : World → Prop}
    (hL : Loc m0 S w0 m L w) (hi : look L i = some (b, .cells (toArr cs) te (0, 0))) (hs : Nat.beq v.cells.toList.length ti.size = true) (hle : o + j + v.cells.toList.length ≤ cs.length)
    (h1 : v.cells.toList.all Value.oneCell' = true)
    (h : ∀ w', Loc m0 S w0 m (L.set i (b, .cells (toArr (spliceL cs (o + j) v.cells.toList)) te (0, 0))) w' → K w') : StReq P t w ((⟨b, o, none⟩ : Addr).add j) v K := by
  rw [addr_add]
  exact StReq.own hX ht i hL hi hs (ble_of hle) h1 h
theorem LdReq.ownAt (hX : TabsOk P X) {t : Nat} {ti : TI} {L : Own} (ht : look X.T t = some (some ti)) (hd : ti.d.isAgg = false) (i : Nat) {b o j : Nat} {cs : List Value} {te : TypeId} {fz : Nat × Nat} {v : Value} {K : Value → Prop}
    (hL : Loc m0 S w0 m L w) (hi : look L i = some (b, .cells (toArr cs) te fz)) (hv : cs[o + j]? = some v) (h : K v) : LdReq P t w ((⟨b, o, none⟩ : Addr).add j) K := by
  rw [addr_add]
  exact LdReq.own1 hX ht hd i hL hi (by rw [look_eq]; exact hv) h
theorem Loc.sublist {L L' : Own} (h : Loc m0 S w0 m L w) (hs : L'.Sublist L) : Loc m0 S w0 m L' w := by
  have e : ∀ l : Own, keys l = l.map (·.1) := fun l => by
    induction l with
    | nil => rfl
    | cons x l ih => simp [keys, ih]
  have hk : (keys L').Sublist (keys L) := by
    rw [e, e]
    exact hs.map _
  exact ⟨h.os, h.tape, h.output, h.size, h.fr, h.sub, fun b o hb hc => h.apart b o hb (hk.subset hc), fun x hx => h.own x (hs.subset hx), hk.nodup h.nodup,
    fun c hc => h.new c (hk.subset hc), h.le, h.mnew⟩
theorem Loc.one {L : Own} {x : Nat × Obj} (h : Loc m0 S w0 m L w) (i : Nat) (hi : look L i = some x) : Loc m0 S w0 m [x] w := by
  rw [look_eq] at hi
  exact h.sublist (List.singleton_sublist.2 (List.mem_of_getElem? hi))
theorem Loc.src {L : Own} (h : Loc m0 S w0 m L w) (i : Nat) {b : Nat} {cs : List Value} {te : TypeId} {fz : Nat × Nat} (hi : look L i = some (b, .cells (toArr cs) te fz)) :
    ∀ (j : Nat) (u : Value), cs[j]? = some u → ∃ a, some (⟨b, 0, none⟩ : Addr) = some a ∧ w.cell? (a.add j) = some u := by
  intro j u hu
  rw [look_eq] at hi
  refine ⟨_, rfl, ?_⟩
  rw [addr_add, Nat.zero_add]
  exact (h.ownCell (i := j) (List.mem_of_getElem? hi)).trans (by simpa [toArr] using hu)
theorem Loc.back {L1 L2 : Own} (h : Loc m0 S w0 m (L1 ++ L2) w) : Loc m0 S w0 m (L2 ++ L1) w := h.perm List.perm_append_comm
theorem Loc.mid {L1 L2 : Own} {x : Nat × Obj} (h : Loc m0 S w0 m (x :: (L1 ++ L2)) w) : Loc m0 S w0 m (L1 ++ x :: L2) w := h.perm List.perm_middle.symm
end
theorem rdf_slice' {α : Type} {X : Tab} {m : Mem} {n t e : Nat} {cs : List Value} {ti te : TI} {R : List Value → α → Prop} (ht : tyO X t = some ti) (hd : ti.d = .slice e) (hte : tyO X e = some te)
    (hR : ∀ n cs, cs.length = te.size → Rdf X m n e cs → ∃ x, R cs x) (h : Rdf X m n t cs) :
    ∃ v l, cs = [v] ∧ Sl m te.size R v l ∧ l.length * te.bytes ≤ reachBytes := by
  cases n with
  | zero => exact h.elim
  | succ n =>
    obtain ⟨A, len, cap, h1, _⟩ : ∃ A len cap, cs = [Value.slice A len cap] ∧ True := by
      have h' := h
      unfold Rdf at h'
      rw [ht] at h'
      simp only [hd, hte] at h'
      obtain ⟨A, len, cap, h1, _⟩ := h'
      exact ⟨A, len, cap, h1, trivial⟩
    subst h1
    obtain ⟨l, h2, h3⟩ := rdf_slice ht hd hte (hR n) h
    exact ⟨_, l, rfl, h2, h3⟩
theorem Given.slice {α : Type} {X : Tab} {m : Mem} {t e : Nat} {v : Value} {ti te : TI} {R : List Value → α → Prop} (ht : tyO X t = some ti) (hd : ti.d = .slice e) (hte : tyO X e = some te)
    (hR : ∀ n cs, cs.length = te.size → Rdf X m n e cs → ∃ x, R cs x) (h : Given X m t v) : ∃ l, Sl m te.size R v l ∧ l.length * te.bytes ≤ reachBytes := by
  obtain ⟨hs, n, hr⟩ := h
  unfold Shp at hs
  rw [ht] at hs
  simp only [hd, TD.isAgg] at hs
  rw [hs] at hr
  obtain ⟨v', l, h1, h2, h3⟩ := rdf_slice' ht hd hte hR hr
  cases h1
  exact ⟨l, h2, h3⟩
theorem Given.agg {X : Tab} {m : Mem} {t : Nat} {v : Value} {ti : TI} (ht : tyO X t = some ti) (hd : ti.d.isAgg = true) (h : Given X m t v) : ∃ cs n, v = .agg (toArr cs) ∧ Rdf X m n t cs := by
  obtain ⟨hs, n, hr⟩ := h
  unfold Shp at hs
  rw [ht] at hs
  simp only [hd] at hs
  obtain ⟨cs, rfl⟩ := hs
  exact ⟨cs, n, rfl, by simpa [Value.cells, toArr] using hr⟩
inductive Lies : Own → Nat → Obj → Prop
  | h {b : Nat} {o : Obj} {L : Own} : Lies ((b, o) :: L) b o
  | t {x : Nat × Obj} {b : Nat} {o : Obj} {L : Own} : Lies L b o → Lies (x :: L) b o
theorem Lies.ex {L : Own} {b : Nat} {o : Obj} (h : Lies L b o) : ∃ i, look L i = some (b, o) := by
  induction h with
  | h => exact ⟨0, rfl⟩
  | t _ ih => obtain ⟨i, hi⟩ := ih; exact ⟨i + 1, hi⟩
inductive Sets : Own → Nat → Obj → Obj → Own → Prop
  | h {b : Nat} {o o' : Obj} {L : Own} : Sets ((b, o) :: L) b o o' ((b, o') :: L)
  | t {x : Nat × Obj} {b : Nat} {o o' : Obj} {L L' : Own} : Sets L b o o' L' → Sets (x :: L) b o o' (x :: L')
theorem Sets.ex {L L' : Own} {b : Nat} {o o' : Obj} (h : Sets L b o o' L') : ∃ i, look L i = some (b, o) ∧ L' = L.set i (b, o') := by
  induction h with
  | h => exact ⟨0, rfl, rfl⟩
  | t _ ih => obtain ⟨i, hi, e⟩ := ih; exact ⟨i + 1, hi, by rw [e]; rfl⟩
section
variable {P : Program} {X : Tab} {m0 m : Mem} {S : List Nat} {w0 w : World} {L : Own}
theorem zs (hX : TabsOk P X) {t : Nat} {ti : TI} (ht : look X.T t = some (some ti)) {b off : Nat} {cs : List Value} {te : TypeId} {L' : Own} {v : Value} {K : World → Prop}
    (hs : Nat.beq v.cells.toList.length ti.size = true) (h1 : v.cells.toList.all Value.oneCell' = true) (hL : Loc m0 S w0 m L w)
    (hi : Sets L b (.cells (toArr cs) te (0, 0)) (.cells (toArr (spliceL cs off v.cells.toList)) te (0, 0)) L') (hle : Nat.ble (off + v.cells.toList.length) cs.length = true)
    (h : ∀ w', Loc m0 S w0 m L' w' → K w') : StReq P t w ⟨b, off, none⟩ v K := by
  obtain ⟨i, hk, e⟩ := hi.ex
  subst e
  exact StReq.own hX ht i hL hk hs hle h1 h
theorem zq (hX : TabsOk P X) {t : Nat} {ti : TI} (ht : look X.T t = some (some ti)) (hd : ti.d.isAgg = false) {b off : Nat} {cs : List Value} {te : TypeId} {fz : Nat × Nat} {v : Value} {K : Value → Prop}
    (hi : Lies L b (.cells (toArr cs) te fz)) (hv : look cs off = some v) (h : K v) : QLdReq P t (fun w => Loc m0 S w0 m L w) ⟨b, off, none⟩ K := by
  obtain ⟨i, hi⟩ := hi.ex
  exact QLdReq.own1 hX ht hd i hi hv h
theorem zr (hX : TabsOk P X) {t : Nat} {ti : TI} (ht : look X.T t = some (some ti)) (hd : ti.d.isAgg = true) {b off : Nat} {cs : List Value} {te : TypeId} {fz : Nat × Nat} {K : Value → Prop}
    (hi : Lies L b (.cells (toArr cs) te fz)) (hl : Nat.ble (off + ti.size) cs.length = true) (h : K (.agg (toArr ((cs.drop off).take ti.size)))) : QLdReq P t (fun w => Loc m0 S w0 m L w) ⟨b, off, none⟩ K := by
  obtain ⟨i, hi⟩ := hi.ex
  exact QLdReq.ownA hX ht hd i hi hl h
theorem zl (hX : TabsOk P X) {t : Nat} {ti : TI} (ht : look X.T t = some (some ti)) (hd : ti.d.isAgg = false) {b off : Nat} {cs : List Value} {te : TypeId} {fz : Nat × Nat} {v : Value} {K : Value → Prop}
    (hL : Loc m0 S w0 m L w) (hi : Lies L b (.cells (toArr cs) te fz)) (hv : look cs off = some v) (h : K v) : LdReq P t w ⟨b, off, none⟩ K := by
  obtain ⟨i, hi⟩ := hi.ex
  exact LdReq.own1 hX ht hd i hL hi hv h
theorem zm (hX : TabsOk P X) {t : Nat} {ti : TI} (ht : look X.T t = some (some ti)) (hd : ti.d.isAgg = true) {b off : Nat} {cs : List Value} {te : TypeId} {fz : Nat × Nat} {K : Value → Prop}
    (hL : Loc m0 S w0 m L w) (hi : Lies L b (.cells (toArr cs) te fz)) (hl : Nat.ble (off + ti.size) cs.length = true) (h : K (.agg (toArr ((cs.drop off).take ti.size)))) : LdReq P t w ⟨b, off, none⟩ K := by
  obtain ⟨i, hi⟩ := hi.ex
  exact LdReq.ownA hX ht hd i hL hi hl h
theorem zL (hX : TabsOk P X) {t : Nat} {ti : TI} {b off : Nat} {cs : List Value} {te : TypeId} {fz : Nat × Nat} {v : Value} {K : Value → Prop} (hL : Loc m0 S w0 m L w) (h : K v)
    (ht : look X.T t = some (some ti) := by exact rfl) (hd : ti.d.isAgg = false := by exact rfl) (hi : Lies L b (.cells (toArr cs) te fz) := by (repeat first | exact .h | refine .t ?_)) (hv : look cs off = some v := by exact rfl) : LdReq P t w ⟨b, off, none⟩ K := zl hX ht hd hL hi hv h
theorem zB (hX : TabsOk P X) {t : Nat} {ti : TI} {b off : Nat} {cs : List Value} {te : TypeId} {fz : Nat × Nat} {K : Value → Prop} (hL : Loc m0 S w0 m L w) (h : K (.agg (toArr ((cs.drop off).take ti.size))))
    (ht : look X.T t = some (some ti) := by exact rfl) (hd : ti.d.isAgg = true := by exact rfl) (hi : Lies L b (.cells (toArr cs) te fz) := by (repeat first | exact .h | refine .t ?_)) (hl : Nat.ble (off + ti.size) cs.length = true := by exact rfl) : LdReq P t w ⟨b, off, none⟩ K := zm hX ht hd hL hi hl h
theorem zQ (hX : TabsOk P X) {t : Nat} {ti : TI} {b off : Nat} {cs : List Value} {te : TypeId} {fz : Nat × Nat} {v : Value} {K : Value → Prop} (h : K v)
    (ht : look X.T t = some (some ti) := by exact rfl) (hd : ti.d.isAgg = false := by exact rfl) (hi : Lies L b (.cells (toArr cs) te fz) := by (repeat first | exact .h | refine .t ?_)) (hv : look cs off = some v := by exact rfl) : QLdReq P t (fun w => Loc m0 S w0 m L w) ⟨b, off, none⟩ K := zq hX ht hd hi hv h
theorem zR (hX : TabsOk P X) {t : Nat} {ti : TI} {b off : Nat} {cs : List Value} {te : TypeId} {fz : Nat × Nat} {K : Value → Prop} (h : K (.agg (toArr ((cs.drop off).take ti.size))))
    (ht : look X.T t = some (some ti) := by exact rfl) (hd : ti.d.isAgg = true := by exact rfl) (hi : Lies L b (.cells (toArr cs) te fz) := by (repeat first | exact .h | refine .t ?_)) (hl : Nat.ble (off + ti.size) cs.length = true := by exact rfl) : QLdReq P t (fun w => Loc m0 S w0 m L w) ⟨b, off, none⟩ K := zr hX ht hd hi hl h
theorem zS (hX : TabsOk P X) {t : Nat} {ti : TI} {b off : Nat} {cs : List Value} {te : TypeId} {L' : Own} {v : Value} {K : World → Prop} (hL : Loc m0 S w0 m L w) (h : ∀ w', Loc m0 S w0 m L' w' → K w')
    (ht : look X.T t = some (some ti) := by exact rfl) (hs : Nat.beq v.cells.toList.length ti.size = true := by exact rfl) (h1 : v.cells.toList.all Value.oneCell' = true := by exact rfl)
    (hi : Sets L b (.cells (toArr cs) te (0, 0)) (.cells (toArr (spliceL cs off v.cells.toList)) te (0, 0)) L' := by (repeat first | exact .h | apply Sets.t)) (hle : Nat.ble (off + v.cells.toList.length) cs.length = true := by exact rfl) : StReq P t w ⟨b, off, none⟩ v K := zs hX ht hs h1 hL hi hle h
theorem zG (hX : TabsOk P X) {N : Nat} {x y : Code} {k : Env → World → Prop} {kx : Nat → Env → World → Prop} {kr : Env → World → Prop} {e : Env}
    (h : ev P X N x (fun e w => ev P X N y k kx kr e w) kx kr e w) : SeqReq P X N x y k kx kr e w := .go hX h
theorem zT {A B : Prop} (h : A) : BrReq true A B := .tt h
theorem zF {A B : Prop} (h : B) : BrReq false A B := .ff h
theorem zI {n : Int} {K : Int → Prop} (h : K n) (h1 : -9223372036854775808 ≤ n := by omega) (h2 : n ≤ 9223372036854775807 := by omega) : ArReq .i64 n K := .i64 h1 h2 h
theorem zO {x : Option Value} {K : Value → Prop} {v : Value} (hk : K v) (hx : x = some v := by exact rfl) : OptReq x K := .mk hx hk
theorem zA {A : Prop} (h : A) : AltReq A True := .one h
end
end Go.Ev
namespace Go.Ev
open Go
theorem splice_append (p X : List Value) : ∀ (vs : List Value) (j : Nat), spliceL (p ++ X) (p.length + j) vs = p ++ spliceL X j vs := by
  intro vs
  induction vs generalizing X with
  | nil => intro j; rfl
  | cons v vs ih =>
    intro j
    simp only [spliceL]
    rw [List.set_append_right _ _ (by omega), show p.length + j - p.length = j by omega, Nat.add_assoc]
    exact ih _ _
theorem splice_zero : ∀ (vs r X : List Value), vs.length = r.length → spliceL (r ++ X) 0 vs = vs ++ X := by
  intro vs
  induction vs with
  | nil => intro r X h; have : r = [] := List.eq_nil_of_length_eq_zero (by simpa using h.symm); subst this; rfl
  | cons v vs ih =>
    intro r X h
    cases r with
    | nil => simp at h
    | cons y r =>
      simp only [spliceL, List.cons_append, List.set_cons_zero]
      have := splice_append [v] (r ++ X) vs 0
      simp only [List.length_singleton, List.singleton_append, Nat.add_zero] at this
      rw [Nat.zero_add, this, ih r X (by simpa using h)]
theorem splice_rows {size : Nat} : ∀ (blk : List (List Value)) (i : Nat) (vs : List Value), (∀ r ∈ blk, r.length = size) → i < blk.length → vs.length = size → spliceL blk.flatten (i * size) vs = (blk.set i vs).flatten := by
  intro blk
  induction blk with
  | nil => intro i vs _ h; simp at h
  | cons r blk ih =>
    intro i vs hs hi hv
    have hr := hs r (by simp)
    cases i with
    | zero =>
      simp only [List.flatten_cons, Nat.zero_mul, List.set_cons_zero]
      exact splice_zero vs r _ (by omega)
    | succ i =>
      have := splice_append r blk.flatten vs (i * size)
      simp only [List.flatten_cons, List.set_cons_succ]
      rw [show (i + 1) * size = r.length + i * size by rw [hr, Nat.add_mul, Nat.one_mul, Nat.add_comm], this]
      rw [ih i vs (fun x hx => hs x (by simp [hx])) (by simpa using hi) hv]
theorem flat_len {size : Nat} : ∀ (blk : List (List Value)), (∀ r ∈ blk, r.length = size) → blk.flatten.length = blk.length * size := by
  intro blk
  induction blk with
  | nil => intro _; simp
  | cons r blk ih => intro h; simp only [List.flatten_cons, List.length_append, List.length_cons]; rw [ih (fun x hx => h x (by simp [hx])), h r (by simp), Nat.add_mul, Nat.one_mul, Nat.add_comm]
theorem flat_get {size : Nat} : ∀ (blk : List (List Value)) (i j : Nat) (r : List Value), (∀ r ∈ blk, r.length = size) → blk[i]? = some r → j < size → blk.flatten[i * size + j]? = r[j]? := by
  intro blk
  induction blk with
  | nil => intro i j r _ h; simp at h
  | cons x blk ih =>
    intro i j r hs h hj
    have hx := hs x (by simp)
    cases i with
    | zero =>
      simp only [List.getElem?_cons_zero, Option.some.injEq] at h
      subst h
      rw [List.flatten_cons, Nat.zero_mul, Nat.zero_add, List.getElem?_append_left (by omega)]
    | succ i =>
      simp only [List.getElem?_cons_succ] at h
      rw [List.flatten_cons, List.getElem?_append_right (by rw [hx, Nat.add_mul]; omega), show (i + 1) * size + j - x.length = i * size + j by rw [hx, Nat.add_mul]; omega]
      exact ih i j r (fun y hy => hs y (by simp [hy])) h hj
section
variable {P : Program} {X : Tab} {m0 m : Mem} {S : List Nat} {w0 w : World}
end
section
variable {m0 m : Mem} {S : List Nat} {w0 w : World}
theorem RetReq.bool {b c : Bool} (hL : Loc m0 S w0 m [] w) (h : b = c) : RetReq m0 S w0 (fun m' L' v => L' = [] ∧ (fun (_ : Mem) u => u = Value.bool c) m' v) (.bool b) w := by
  subst h; exact RetReq.mk hL ⟨rfl, rfl⟩
theorem RetReq.int {k : IntKind} {b c : Int} (hL : Loc m0 S w0 m [] w) (h : b = c) : RetReq m0 S w0 (fun m' L' v => L' = [] ∧ (fun (_ : Mem) u => u = Value.int k c) m' v) (.int k b) w := by
  subst h; exact RetReq.mk hL ⟨rfl, rfl⟩
end
end Go.Ev
namespace Go.Ev
open Go
section
variable {P : Program} {X : Tab} {m0 m : Mem} {S : List Nat} {w0 w : World}
theorem OwnS.freezeRows {α : Type} {te size : Nat} {v : Value} {rows : List (List Value)} {l : List α} {R : List Value → α → Prop} {L1 L2 : Own} (hz : 0 < size) (h : OwnS te size v rows.flatten L1) (hL : Loc m0 S w0 m (L1 ++ L2) w)
    (hs : ∀ r ∈ rows, r.length = size) (hl : l.length = rows.length) (hR : ∀ (i : Nat) (x : α), l[i]? = some x → ∃ cs, rows[i]? = some cs ∧ R cs x) :
    ∃ m' A c, v = .slice A rows.length c ∧ Loc m0 S w0 m' L2 w ∧ Mem.Le m m' ∧ Sl m' size R v l ∧ ∀ (j : Nat) (u : Value), rows.flatten[j]? = some u → ∃ a, A = some a ∧ mcell m' (a.add j) = some u := by
  obtain ⟨n, hn, h⟩ := h
  have hnr : n = rows.length := by
    rw [flat_len rows hs] at hn
    exact (Nat.eq_of_mul_eq_mul_right hz hn).symm
  subst hnr
  rcases h with ⟨rfl, h0, rfl⟩ | ⟨g, cap, cur, rfl, rfl, h1, h2, h3, h4⟩
  · refine ⟨m, none, 0, by rw [h0], hL, Mem.Le.refl m, ⟨none, 0, 0, rfl, by omega, Nat.le_refl _, Nat.zero_le _, fun i x hx => ?_⟩, fun j u hu => ?_⟩
    · have := (List.getElem?_eq_some_iff.1 hx).1; omega
    · have := (List.getElem?_eq_some_iff.1 hu).1
      rw [flat_len rows hs, h0] at this; omega
  · have hap : m g = none := by
      cases hm : m g with
      | none => rfl
      | some o => exact absurd (by simp [keys]) (hL.apart g o hm)
    have hcell : ∀ (j : Nat) (u : Value), rows.flatten[j]? = some u → mcell (m.add g (.cells (toArr cur) te (0, 0))) ((⟨g, 0, none⟩ : Addr).add j) = some u := by
      intro j u hu
      rw [addr_add, Nat.zero_add]
      simp only [mcell, ocell, Mem.add_same, toArr, List.getElem?_toArray]
      rw [← h4] at hu
      have := (List.getElem?_eq_some_iff.1 hu).1
      rw [List.length_take] at this
      rw [List.getElem?_take_of_lt (by omega)] at hu
      exact hu
    refine ⟨m.add g (.cells (toArr cur) te (0, 0)), _, cap, rfl, hL.freeze, fun b o hb => ?_, ⟨some ⟨g, 0, none⟩, _, cap, rfl, hl.symm, h1, h2, fun i x hx => ?_⟩, fun j u hu => ⟨_, rfl, hcell j u hu⟩⟩
    · by_cases e : b = g
      · subst e; rw [hap] at hb; cases hb
      · rw [Mem.add_other _ _ e]; exact hb
    · obtain ⟨cs, e1, e2⟩ := hR i x hx
      have hlen := hs cs (List.mem_of_getElem? e1)
      refine ⟨_, cs, rfl, hlen, fun j u hj => ?_, e2⟩
      have hj' : j < size := by rw [← hlen]; exact (List.getElem?_eq_some_iff.1 hj).1
      have := hcell (i * size + j) u (by rw [flat_get rows i j cs hs e1 hj']; exact hj)
      rw [addr_add, Nat.zero_add] at this
      rw [addr_add, addr_add, scale_eq, Nat.zero_add]
      exact this
end
end Go.Ev
namespace Go.Ev
open Go
theorem tdiv_nat (a k : Nat) : (a : Int).tdiv (k : Int) = ((a / k : Nat) : Int) := by
  rw [Int.tdiv_eq_ediv_of_nonneg (by omega)]; rfl
theorem tmod_nat (a k : Nat) : (a : Int).tmod (k : Int) = ((a % k : Nat) : Int) := by
  rw [Int.tmod_eq_emod_of_nonneg (by omega)]; rfl
theorem DivReq.i64 {a k : Nat} {b : Int} {K : Int → Prop} (hb : b = (k : Int)) (hk : 0 < k) (ha : a ≤ 9223372036854775807) (h : K ((a / k : Nat) : Int)) : DivReq .i64 a b K := by
  subst hb
  have := Nat.div_le_self a k
  exact DivReq.mk (by omega) (by rw [tdiv_nat]; generalize a / k = q at this; exact wrap_keep .i64 (by show -9223372036854775808 ≤ _; omega) (by show _ ≤ (9223372036854775807 : Int); omega)) h
theorem DivReq.u64 {a k : Nat} {b : Int} {K : Int → Prop} (hb : b = (k : Int)) (hk : 0 < k) (ha : a ≤ 18446744073709551615) (h : K ((a / k : Nat) : Int)) : DivReq .u64 a b K := by
  subst hb
  have := Nat.div_le_self a k
  exact DivReq.mk (by omega) (by rw [tdiv_nat]; generalize a / k = q at this; exact wrap_keep .u64 (by show 0 ≤ _; omega) (by show _ ≤ (18446744073709551615 : Int); omega)) h
theorem RemReq.nat {a k : Nat} {b : Int} {K : Int → Prop} (hb : b = (k : Int)) (hk : 0 < k) (h : K ((a % k : Nat) : Int)) : RemReq a b K := by
  subst hb
  exact RemReq.mk (by omega) (tmod_nat a k) h
theorem splice_left (Y : List Value) : ∀ (vs X : List Value) (j : Nat), j + vs.length ≤ X.length → spliceL (X ++ Y) j vs = spliceL X j vs ++ Y := by
  intro vs
  induction vs with
  | nil => intro X j _; rfl
  | cons v vs ih =>
    intro X j h
    simp only [List.length_cons] at h
    simp only [spliceL]
    rw [List.set_append_left _ _ (by omega)]
    exact ih _ _ (by rw [List.length_set]; omega)
theorem splice_len : ∀ (vs X : List Value) (j : Nat), (spliceL X j vs).length = X.length := by
  intro vs
  induction vs with
  | nil => intro X j; rfl
  | cons v vs ih => intro X j; simp only [spliceL]; rw [ih, List.length_set]
theorem owns_row {te size g n cap : Nat} {cur : List Value} {rows : List (List Value)} {row : List Value} (i : Nat) (h1 : n ≤ cap) (h2 : cap ≤ maxLen) (h3 : cur.length = cap * size) (h4 : cur.take (n * size) = rows.flatten)
    (hs : ∀ r ∈ rows, r.length = size) (hi : i < rows.length) (hr : row.length = size) (hn : n = rows.length) :
    OwnS te size (.slice (some ⟨g, 0, none⟩) n cap) (rows.set i row).flatten [(g, .cells (toArr (spliceL cur (i * size) row)) te (0, 0))] := by
  have hle : n * size ≤ cap * size := Nat.mul_le_mul_right _ h1
  have hflen := flat_len rows hs
  have hsp : spliceL cur (i * size) row = (rows.set i row).flatten ++ cur.drop (n * size) := by
    conv => lhs; rw [← List.take_append_drop (n * size) cur]
    rw [h4, splice_left]
    · rw [splice_rows rows i row hs hi hr]
    · rw [hflen, hr]
      have : (i + 1) * size ≤ rows.length * size := Nat.mul_le_mul_right _ hi
      rw [Nat.add_mul, Nat.one_mul] at this
      exact this
  have hl : (rows.set i row).flatten.length = n * size := by
    rw [flat_len (size := size) (rows.set i row) (fun r hr' => by rcases List.mem_or_eq_of_mem_set hr' with h | rfl
                                                                  · exact hs r h
                                                                  · exact hr), List.length_set, hn]
  refine ⟨n, hl, .inr ⟨g, cap, _, rfl, rfl, h1, h2, by rw [splice_len]; exact h3, ?_⟩⟩
  rw [hsp, List.take_append_of_le_length (by omega), ← hl, List.take_length]
section
variable {P : Program} {X : Tab} {m0 m : Mem} {S : List Nat} {w0 w : World} {L : Own}
theorem Loc.mark (h : Loc m0 S w0 m L w) {i b off : Nat} {cs : List Value} {t : TypeId} (hi : look L i = some (b, .cells (toArr cs) t (0, 0))) :
    Loc m0 S w0 m (L.set i (b, .cells (toArr cs) t (off, off + 1))) (w.freeze ⟨b, off, none⟩ 1) := by
  rw [look_eq] at hi
  have hmem : (b, Obj.cells (toArr cs) t (0, 0)) ∈ L := List.mem_of_getElem? hi
  have hb := h.own _ hmem
  have hnew : (w.freeze ⟨b, off, none⟩ 1).heap[b]? = some (.cells (toArr cs) t (off, off + 1)) := by
    simp only [World.freeze, if_neg (by decide : ¬ (1 : Nat) = 0), Array.getElem?_modify, if_true]
    simp only at hb
    rw [hb]
    rfl
  have hoth : ∀ k, k ≠ b → (w.freeze ⟨b, off, none⟩ 1).heap[k]? = w.heap[k]? := fun k hk => by
    simp only [World.freeze, if_neg (by decide : ¬ (1 : Nat) = 0), Array.getElem?_modify]
    rw [if_neg (fun e => hk e.symm)]
  have hkeys : keys (L.set i (b, .cells (toArr cs) t (off, off + 1))) = keys L := by
    clear hmem hb hnew hoth h
    induction L generalizing i with
    | nil => simp
    | cons x l ih =>
      cases i with
      | zero => simp at hi; subst hi; simp [keys]
      | succ i => simp only [List.set_cons_succ, keys]; rw [ih (by simpa using hi)]
  have hbk : b ∈ keys L := mem_keys.2 ⟨_, hmem⟩
  refine ⟨h.os, h.tape, h.output, by unfold World.freeze; rw [if_neg (by decide)]; simpa using h.size, fun k hk hs => ?_, fun c o hc => ?_, fun c o hc => hkeys ▸ h.apart c o hc, fun x hx => ?_, hkeys ▸ h.nodup, fun c hc => h.new c (hkeys ▸ hc), h.le, h.mnew⟩
  · have : k ≠ b := fun e => by
      subst e
      rcases h.new k hbk with h1 | h1
      · omega
      · exact hs h1
    rw [hoth k this]; exact h.fr k hk hs
  · have : c ≠ b := fun e => by subst e; exact h.apart c o hc hbk
    rw [hoth c this]; exact h.sub c o hc
  · obtain ⟨j, hj⟩ := List.getElem?_of_mem hx
    rw [List.getElem?_set] at hj
    split at hj
    · split at hj
      · injection hj with hj; subst hj; exact hnew
      · cases hj
    · rename_i hij
      have hxm := List.mem_of_getElem? hj
      have hne : x.1 ≠ b := fun e => by
        have h1 : (keys L)[i]? = some b := by rw [keys_map, List.getElem?_map, hi]; rfl
        have h2 : (keys L)[j]? = some b := by rw [keys_map, List.getElem?_map, hj]; simp [e]
        have hl1 := (List.getElem?_eq_some_iff.1 h1).1
        exact hij ((List.getElem?_inj hl1 h.nodup).1 (h1.trans h2.symm))
      rw [hoth _ hne]; exact h.own _ hxm
theorem RunReq.bytesConst (hX : TabsOk P X) {t e : Nat} {ti te : TI} (ht : look X.T t = some (some ti)) (hd : ti.d = .slice e) (hte : look X.T e = some (some te)) (hk : te.d = .int .u8) (i : Nat) {b n c : Nat} {cs : List Value} {K : Value → World → Prop}
    (hL : Loc m0 S w0 m L w) (hi : look L i = some (b, .cells (toArr cs) e (0, 0))) (h : ∀ w', Loc m0 S w0 m (L.set i (b, .cells (toArr cs) e (cs.length, cs.length + 1))) w' → K (.slice (some ⟨b, 0, none⟩) n c) w') :
    RunReq P (convert t t (.slice (some ⟨b, 0, none⟩) n c)) w K := by
  refine ⟨⟨_, _, ?_, h _ (hL.mark hi)⟩⟩
  have hi' := hi
  rw [look_eq] at hi'
  have hm := hL.own _ (List.mem_of_getElem? hi')
  have hsh : w.shape? b = some (e, cs.length) := by
    unfold World.shape?
    simp only at hm
    rw [hm]; simp [toArr]
  simp [convert, run_underlying (td_slice (hX.t _ _ ht) hd), run_underlying (td_int (hX.t _ _ hte) hk), markStringish, hsh]
theorem CallReq.lend {f : Nat} {args : List Value} {v : Value} {K : Value → World → Prop} {mm : Mem} (h : FnV P f args mm v) (hmm : ∀ b o, mm b = some o → w.heap[b]? = some o) (hL : Loc m0 S w0 m L w)
    (k : ∀ w', Loc m0 S w0 m L w' → K v w') : CallReq P f (toArr args) w K := by
  constructor
  have hp : Pre mm [] w := ⟨hmm, fun b o _ hm => by simp [keys] at hm, fun x hx => by simp at hx, by simp [keys]⟩
  refine (h w hp).mono fun e w' ⟨u, m', L', he, hl, h1, h2⟩ => ?_
  subst he h2
  have hlt : ∀ {b : Nat} {o : Obj}, w.heap[b]? = some o → b < w.heap.size := fun h => (Array.getElem?_eq_some_iff.1 h).1
  have hsame : ∀ b, b < w.heap.size → w'.heap[b]? = w.heap[b]? := fun b hb => hl.fr b hb (by simp [keys])
  refine k w' ⟨hl.os.trans hL.os, hl.tape.trans hL.tape, hl.output.trans hL.output, Nat.le_trans hL.size hl.size, fun q hq hs => ?_, fun b o hb => ?_, hL.apart, fun x hx => ?_, hL.nodup, hL.new, hL.le, hL.mnew⟩
  · rw [hsame q (Nat.lt_of_lt_of_le hq hL.size)]; exact hL.fr q hq hs
  · have := hL.sub b o hb
    rw [hsame b (hlt this)]; exact this
  · have := hL.own x hx
    rw [hsame x.1 (hlt this)]; exact this
end
end Go.Ev
namespace Go.Ev
open Go
open Go.ChangeMaps (setBlock)
open Go.MapKept (run_setObj_map run_checkKey run_findKey run_keyThatStays IsKey)
section
variable {P : Program} {X : Tab} {N : Nat} {m0 m : Mem} {S : List Nat} {w0 w : World} {L : Own}
theorem Loc.setObj (h : Loc m0 S w0 m L w) {i b : Nat} {o o' : Obj} (hi : look L i = some (b, o)) : Loc m0 S w0 m (L.set i (b, o')) (setBlock w b o') := by
  rw [look_eq] at hi
  have hmem : (b, o) ∈ L := List.mem_of_getElem? hi
  have hb := h.own _ hmem
  have hlt : b < w.heap.size := heap_lt hb
  have hnew : (setBlock w b o').heap[b]? = some o' := by simp [setBlock, hlt]
  have hoth : ∀ k, k ≠ b → (setBlock w b o').heap[k]? = w.heap[k]? := fun k hk => by
    simp only [setBlock]; rw [Array.getElem?_setIfInBounds]; rw [if_neg (fun e => hk e.symm)]
  have hkeys : keys (L.set i (b, o')) = keys L := by
    clear hmem hb hnew hoth h
    induction L generalizing i with
    | nil => simp
    | cons x l ih =>
      cases i with
      | zero => simp at hi; subst hi; simp [keys]
      | succ i => simp only [List.set_cons_succ, keys]; rw [ih (by simpa using hi)]
  have hbk : b ∈ keys L := mem_keys.2 ⟨_, hmem⟩
  refine ⟨h.os, h.tape, h.output, by simpa [setBlock] using h.size, fun k hk hs => ?_, fun c o hc => ?_, fun c o hc => hkeys ▸ h.apart c o hc, fun x hx => ?_, hkeys ▸ h.nodup, fun c hc => h.new c (hkeys ▸ hc), h.le, h.mnew⟩
  · have : k ≠ b := fun e => by
      subst e
      rcases h.new k hbk with h1 | h1
      · omega
      · exact hs h1
    rw [hoth k this]; exact h.fr k hk hs
  · have : c ≠ b := fun e => by subst e; exact h.apart c o hc hbk
    rw [hoth c this]; exact h.sub c o hc
  · obtain ⟨j, hj⟩ := List.getElem?_of_mem hx
    rw [List.getElem?_set] at hj
    split at hj
    · split at hj
      · injection hj with hj; subst hj; exact hnew
      · cases hj
    · rename_i hij
      have hxm := List.mem_of_getElem? hj
      have hne : x.1 ≠ b := fun e => by
        have h1 : (keys L)[i]? = some b := by rw [keys_map, List.getElem?_map, hi]; rfl
        have h2 : (keys L)[j]? = some b := by rw [keys_map, List.getElem?_map, hj]; simp [e]
        have hl1 := (List.getElem?_eq_some_iff.1 h1).1
        exact hij ((List.getElem?_inj hl1 h.nodup).1 (h1.trans h2.symm))
      rw [hoth _ hne]; exact h.own _ hxm
def ents : Nat → List (Int × Int) → List MapEntry
  | _, [] => []
  | b, x :: l => ⟨.int .i64 x.1, .int .i64 x.2, b⟩ :: ents (b + 1) l
def mapO (l : List (Int × Int)) : Obj := .map (ents 0 l).toArray l.length
def getV (k : Int) : List (Int × Int) → Int
  | [] => 0
  | x :: l => if k = x.1 then x.2 else getV k l
def setV (k v : Int) : List (Int × Int) → List (Int × Int)
  | [] => [(k, v)]
  | x :: l => if k = x.1 then (k, v) :: l else x :: setV k v l
def fnd (k : Int) : List (Int × Int) → Nat → Option (Nat × Value)
  | [], _ => none
  | x :: l, i => if k = x.1 then some (i, .int .i64 x.2) else fnd k l (i + 1)
theorem ents_len : ∀ (l : List (Int × Int)) (b : Nat), (ents b l).length = l.length
  | [], _ => rfl
  | x :: l, b => by simp [ents, ents_len l]
theorem ents_get : ∀ (l : List (Int × Int)) (b i : Nat), (ents b l)[i]? = (l[i]?).map fun x => ⟨.int .i64 x.1, .int .i64 x.2, b + i⟩
  | [], _, _ => by simp [ents]
  | x :: l, b, i => by
    cases i with
    | zero => simp [ents]
    | succ i => simp only [ents, List.getElem?_cons_succ]; rw [ents_get l (b + 1) i]; congr 1; funext x; rw [show b + 1 + i = b + (i + 1) from by omega]
theorem findNow_ents (k : Int) : ∀ (l : List (Int × Int)) (b i : Nat), Instr.findNow (.int .i64) (.int .i64 k) (ents b l) i = some (fnd k l i)
  | [], _, _ => rfl
  | x :: l, b, i => by
    simp only [ents, Instr.findNow, Instr.sameNow, if_true, fnd]
    by_cases h : k = x.1
    · simp [h]
    · have hb : (k == x.1) = false := by simpa using h
      rw [hb, if_neg h]; exact findNow_ents k l (b + 1) (i + 1)
theorem fnd_get (k : Int) : ∀ (l : List (Int × Int)) (i : Nat), (match fnd k l i with | some (_, v) => v | none => .int .i64 0) = .int .i64 (getV k l)
  | [], _ => rfl
  | x :: l, i => by
    by_cases h : k = x.1
    · simp [fnd, getV, h]
    · simp only [fnd, getV, if_neg h]; exact fnd_get k l (i + 1)
theorem fnd_set (k v : Int) : ∀ (l : List (Int × Int)) (i b : Nat), match fnd k l i with
    | some (j, _) => ∃ q, j = i + q ∧ q < l.length ∧ (∃ x, l[q]? = some x ∧ x.1 = k) ∧ (setV k v l).length = l.length ∧ ents b (setV k v l) = (ents b l).modify q (fun e => { e with key := .int .i64 k, val := .int .i64 v })
    | none => setV k v l = l ++ [(k, v)]
  | [], _, _ => rfl
  | x :: l, i, b => by
    by_cases h : k = x.1
    · simp only [fnd, if_pos h, setV]
      exact ⟨0, rfl, by simp, ⟨x, rfl, h.symm⟩, rfl, rfl⟩
    · simp only [fnd, if_neg h, setV]
      have ih := fnd_set k v l (i + 1) (b + 1)
      revert ih
      cases fnd k l (i + 1) with
      | none => intro ih; simp only at ih ⊢; rw [ih]; rfl
      | some p =>
        obtain ⟨j, u⟩ := p
        simp only
        rintro ⟨q, rfl, hq, ⟨y, hy, hyk⟩, hlen, he⟩
        exact ⟨q + 1, by omega, by simpa using hq, ⟨y, by simpa using hy, hyk⟩, by simp [hlen], by simp only [ents, he]; rfl⟩
theorem ents_push (k v : Int) : ∀ (l : List (Int × Int)) (b : Nat), ents b (l ++ [(k, v)]) = ents b l ++ [⟨.int .i64 k, .int .i64 v, b + l.length⟩]
  | [], b => rfl
  | x :: l, b => by simp only [List.cons_append, ents, ents_push k v l (b + 1)]; rw [show b + 1 + l.length = b + (x :: l).length from by simp; omega]
theorem RunReq.makeMap {t : Nat} {K : Value → World → Prop} (hL : Loc m0 S w0 m L w)
    (h : ∀ b w', Loc m0 S w0 m ((b, mapO []) :: L) w' → K (.map (some b)) w') : RunReq P (Instr.makeMap t none) w K := by
  refine ⟨_, _, ?_, h w.heap.size (w.alloc (.map #[] 0)) (hL.alloc _)⟩
  simp [Instr.makeMap, Result.andThen]
theorem rgm {w : World} {r : Nat} {es : Array MapEntry} {clock : Nat} (hb : w.heap[r]? = some (.map es clock)) : (getObj r).run P w = .ok (.map es clock) w := by
  simp [getObj, Sem.run, hb]
theorem run_checkInt {kt : Nat} (hu : P.underlying kt = some (.int .i64)) (k : Int) (e : Bool) (w : World) : (Instr.checkKey e 10000 kt (.int .i64 k)).run P w = .ok () w :=
  run_checkKey hu (by simp [IsKey]) e 9999
theorem RunReq.lookup (hX : TabsOk P X) {t kt vt r : Nat} {ti tk : TI} {k : Int} {l : List (Int × Int)} {K : Value → World → Prop} (ht : look X.T t = some (some ti)) (hd : ti.d = .map kt vt)
    (htk : look X.T kt = some (some tk)) (hk : tk.d = .int .i64) (i : Nat) (hL : Loc m0 S w0 m L w) (hi : look L i = some (r, mapO l))
    (hz0 : (P.info? vt).bind (·.zero) = some (.int .i64 0))
    (h : K (.int .i64 (getV k l)) w) : RunReq P (Instr.lookup t (.map (some r)) (.int .i64 k) false) w K := by
  have hu := td_map (hX.t _ _ ht) hd
  have huk := td_int (hX.t _ _ htk) hk
  have hb : w.heap[r]? = some (.map (ents 0 l).toArray l.length) := hL.own _ (List.mem_of_getElem? (by rw [← look_eq]; exact hi))
  have hz : ∀ w, (zeroValue vt).run P w = .ok (.int .i64 0) w := by
    intro w
    cases hi : P.info? vt with
    | none => rw [hi] at hz0; cases hz0
    | some i => rw [hi] at hz0; simp only [Option.bind_some] at hz0; simp [zeroValue, run_typeInfo hi, hz0]
  refine ⟨_, _, ?_, h⟩
  have hf : (Instr.findKey kt (.int .i64 k) (ents 0 l).toArray.toList).run P w = .ok (fnd k l 0) w := run_findKey huk (by simpa using findNow_ents k l 0 0)
  have hg := fnd_get k l 0
  simp only [Instr.lookup, Sem.run_bind, run_underlying hu, Result.andThen_ok, rgm hb, Sem.run_pure, run_checkInt huk, hf]
  revert hg
  cases fnd k l 0 with
  | none => intro hg; simp only at hg ⊢; simp only [Sem.run_bind, hz, Result.andThen_ok, Sem.run_pure, Bool.false_eq_true, if_false, hg]
  | some p => obtain ⟨j, u⟩ := p; intro hg; simp only at hg; subst hg; simp
theorem RunUReq.update (hX : TabsOk P X) {t kt vt r : Nat} {ti tk : TI} {k v : Int} {l : List (Int × Int)} {K : World → Prop} (ht : look X.T t = some (some ti)) (hd : ti.d = .map kt vt)
    (htk : look X.T kt = some (some tk)) (hk : tk.d = .int .i64) (i : Nat) (hL : Loc m0 S w0 m L w) (hi : look L i = some (r, mapO l))
    (h : ∀ w', Loc m0 S w0 m (L.set i (r, mapO (setV k v l))) w' → K w') : RunUReq P (Instr.mapUpdate t (.map (some r)) (.int .i64 k) (.int .i64 v)) w K := by
  have hu := td_map (hX.t _ _ ht) hd
  have huk := td_int (hX.t _ _ htk) hk
  have hb : w.heap[r]? = some (.map (ents 0 l).toArray l.length) := hL.own _ (List.mem_of_getElem? (by rw [← look_eq]; exact hi))
  refine ⟨_, ?_, h _ (hL.setObj (o' := mapO (setV k v l)) hi)⟩
  have hf : (Instr.findKey kt (.int .i64 k) (ents 0 l).toArray.toList).run P w = .ok (fnd k l 0) w := run_findKey huk (by simpa using findNow_ents k l 0 0)
  have hg := fnd_set k v l 0 0
  simp only [Instr.mapUpdate, Sem.run_bind, run_underlying hu, Result.andThen_ok, rgm hb, run_checkInt huk, hf]
  revert hg
  cases fnd k l 0 with
  | none =>
    intro hg; simp only at hg ⊢
    rw [run_setObj_map _ hb, hg]
    simp only [setBlock, mapO, ents_push, Nat.zero_add, List.length_append, List.length_cons, List.length_nil, List.push_toArray]
  | some p =>
    obtain ⟨j, u⟩ := p
    simp only
    rintro ⟨q, rfl, hq, ⟨x, hx, hxk⟩, hlen, he⟩
    have hkey : (((ents 0 l).toArray[0 + q]?).map (·.key)).getD (.int .i64 k) = .int .i64 k := by
      rw [List.getElem?_toArray, ents_get, show l[0 + q]? = some x from by rw [Nat.zero_add]; exact hx]; simp [hxk]
    simp only [hkey, Sem.run_bind, run_keyThatStays (d := .int .i64) (k := .int .i64 k) (by simp [IsKey]), Result.andThen_ok, run_setObj_map _ hb]
    simp only [setBlock, mapO, he, hlen, Nat.zero_add]
    congr 3
    simp
theorem RunReq.range (hX : TabsOk P X) {t kt vt r : Nat} {ti : TI} {l : List (Int × Int)} {K : Value → World → Prop} (ht : look X.T t = some (some ti)) (hd : ti.d = .map kt vt)
    (i : Nat) (hL : Loc m0 S w0 m L w) (hi : look L i = some (r, mapO l))
    (h : ∀ b w', Loc m0 S w0 m ((b, .mapIter (some r) l.length #[] l.length) :: L) w' → K (.pointer (some ⟨b, 0, none⟩)) w') : RunReq P (Instr.range t (.map (some r))) w K := by
  have hu := td_map (hX.t _ _ ht) hd
  have hb : w.heap[r]? = some (.map (ents 0 l).toArray l.length) := hL.own _ (List.mem_of_getElem? (by rw [← look_eq]; exact hi))
  refine ⟨_, _, ?_, h w.heap.size (w.alloc _) (hL.alloc _)⟩
  simp [Instr.range, run_underlying hu, rgm hb, Result.andThen]
theorem mem_ents {l : List (Int × Int)} {e : MapEntry} (h : e ∈ ents 0 l) : ∃ q x, l[q]? = some x ∧ e = ⟨.int .i64 x.1, .int .i64 x.2, q⟩ := by
  obtain ⟨q, hq⟩ := List.getElem?_of_mem h
  rw [ents_get, Nat.zero_add] at hq
  cases hx : l[q]? with
  | none => rw [hx] at hq; cases hq
  | some x => rw [hx] at hq; simp at hq; exact ⟨q, x, hx, hq.symm⟩
theorem born_ents : ∀ (l : List (Int × Int)) (b : Nat), ((ents b l).map (·.born)).Nodup ∧ ∀ x ∈ (ents b l).map (·.born), b ≤ x
  | [], _ => ⟨by simp [ents], by simp [ents]⟩
  | x :: l, b => by
    obtain ⟨h1, h2⟩ := born_ents l (b + 1)
    refine ⟨?_, ?_⟩
    · simp only [ents, List.map_cons, List.nodup_cons]; exact ⟨fun hc => by have := h2 _ hc; omega, h1⟩
    · intro y hy
      simp only [ents, List.map_cons, List.mem_cons] at hy
      rcases hy with rfl | hy
      · exact Nat.le_refl _
      · have := h2 y hy; omega
theorem RunReq.next {r bm n : Nat} {seen : Array Nat} {l : List (Int × Int)} {ty : TypeId} {K : Value → World → Prop} (i j : Nat) (hL : Loc m0 S w0 m L w)
    (hi : look L i = some (r, .mapIter (some bm) n seen n)) (hj : look L j = some (bm, mapO l)) (hn : n = l.length)
    (h0 : (∀ q, q < l.length → q ∈ seen.toList) → K (.tuple (toArr [.bool false])) w)
    (h1 : ∀ q x w', l[q]? = some x → q ∉ seen.toList → Loc m0 S w0 m (L.set i (r, .mapIter (some bm) n (seen.push q) n)) w' → K (.tuple (toArr [.bool true, .int .i64 x.1, .int .i64 x.2])) w') :
    RunReq P (Instr.next (.pointer (some ⟨r, 0, none⟩)) false ty) w K := by
  have hr : w.heap[r]? = some (.mapIter (some bm) n seen n) := hL.own _ (List.mem_of_getElem? (by rw [← look_eq]; exact hi))
  have hb : w.heap[bm]? = some (.map (ents 0 l).toArray l.length) := hL.own _ (List.mem_of_getElem? (by rw [← look_eq]; exact hj))
  subst hn
  have hold : ∀ x ∈ (ents 0 l).toArray.toList, x.born < l.length := by
    intro x hx
    obtain ⟨q, y, hq, rfl⟩ := mem_ents (by simpa using hx)
    exact (List.getElem?_eq_some_iff.1 hq).1
  rcases run_next_at (P := P) w ty r bm l.length l.length seen (ents 0 l).toArray l.length hr hb hold (Nat.le_refl _) with ⟨hs, hrun⟩ | ⟨e, he, w1, hw1, hrun⟩
  · refine ⟨_, _, hrun, h0 fun q hq => ?_⟩
    refine Classical.byContradiction fun hc => ?_
    have hmem : (⟨.int .i64 (l[q]).1, .int .i64 (l[q]).2, q⟩ : MapEntry) ∈ leftOf (ents 0 l).toArray seen := by
      unfold leftOf
      rw [Array.mem_filter]
      refine ⟨?_, by simpa using hc⟩
      have : (ents 0 l)[q]? = some ⟨.int .i64 (l[q]).1, .int .i64 (l[q]).2, q⟩ := by rw [ents_get, List.getElem?_eq_getElem hq]; simp
      simpa using List.mem_of_getElem? this
    have := Array.size_pos_of_mem hmem
    omega
  · have he' : e ∈ ents 0 l ∧ e.born ∉ seen.toList := by
      unfold leftOf at he
      have := Array.mem_filter.1 (Array.mem_toList_iff.1 he)
      exact ⟨by simpa using this.1, by simpa using this.2⟩
    obtain ⟨q, x, hq, rfl⟩ := mem_ents he'.1
    have hL1 : Loc m0 S w0 m L w1 := by rcases hw1 with rfl | rfl
                                        · exact hL
                                        · exact hL.drew
    exact ⟨_, _, hrun, h1 q x _ hq he'.2 (hL1.setObj (o' := .mapIter (some bm) l.length (seen.push q) l.length) hi)⟩
theorem GenReq.entry {o : Oper} {ρ : Operand → Value} {x : Operand} {r bm n q : Nat} {seen : Array Nat} {l : List (Int × Int)} {y : Int × Int} {K : Value → World → Prop} (ho : o.op = .entry x) (hx : ρ x = .pointer (some ⟨r, 0, none⟩))
    (i j : Nat) (hL : Loc m0 S w0 m L w) (hi : look L i = some (r, .mapIter (some bm) n (seen.push q) n)) (hj : look L j = some (bm, mapO l)) (hn : n = l.length) (hy : l[q]? = some y)
    (h : K (.tuple (toArr [.int .i64 y.1, .int .i64 y.2])) w) : GenReq P o ρ w K := by
  have hr : w.heap[r]? = some (.mapIter (some bm) n (seen.push q) n) := hL.own _ (List.mem_of_getElem? (by rw [← look_eq]; exact hi))
  have hb : w.heap[bm]? = some (.map (ents 0 l).toArray l.length) := hL.own _ (List.mem_of_getElem? (by rw [← look_eq]; exact hj))
  subst hn
  have he : (⟨.int .i64 y.1, .int .i64 y.2, q⟩ : MapEntry) ∈ (ents 0 l).toArray.toList := by
    have : (ents 0 l)[q]? = some ⟨.int .i64 y.1, .int .i64 y.2, q⟩ := by rw [ents_get, hy]; simp
    simpa using List.mem_of_getElem? this
  have hrun := run_entry_at (P := P) w r bm l.length seen (ents 0 l).toArray l.length ⟨.int .i64 y.1, .int .i64 y.2, q⟩ hr hb he (by simpa using (born_ents l 0).1)
  constructor
  unfold OpOk
  simp only [execOp, ho, hx, Sem.run_bind, hrun, Result.andThen_ok, Sem.run_pure, upon]
  exact h
end
end Go.Ev
namespace Go.Ev
open Go
section
variable {P : Program} {X : Tab} {N : Nat} {m0 m : Mem} {S : List Nat} {w0 w : World} {L : Own}
theorem RunReq.appendNew (hX : TabsOk P X) {t te : Nat} {ti tei : TI} {ty : TypeId} (ht : look X.T t = some (some ti)) (hd : ti.d = .slice te) (hte : look X.T te = some (some tei)) (h1s : Nat.beq tei.size 1 = true) (h1b : Nat.beq tei.bytes 1 = true) (hzs : Nat.beq tei.zero.length tei.size = true)
    {b : Addr} {k cap : Nat} {olds : List Value} {A : Option Addr} {n c : Nat} {news : List Value} {K : Value → World → Prop}
    (hL : Loc m0 S w0 m L w) (hlo : olds.length = k) (holds : ∀ j v, olds[j]? = some v → w.cell? (b.add j) = some v)
    (hl : news.length = n) (hc : ∀ j u, news[j]? = some u → ∃ a, A = some a ∧ w.cell? (a.add j) = some u)
    (hg : cap < k + n) (hn0 : 0 < n) (hb : k + n ≤ 1099511627776)
    (h : ∀ A n' c' L1' w', n' = k + n → OwnS te 1 (.slice A n' c') (olds ++ news) L1' → Loc m0 S w0 m (L1' ++ L) w' → K (.slice A n' c') w') :
    RunReq P (Builtin.append_ #[t, t] ty (toArr [.slice (some b) k cap, .slice A n c])) w K := by
  have h1s := Nat.eq_of_beq_eq_true h1s
  have h1b := Nat.eq_of_beq_eq_true h1b
  have hzs := Nat.eq_of_beq_eq_true hzs
  have hT := hX.t _ _ ht
  have hTe := hX.t _ _ hte
  obtain ⟨i, d, z, hi, _, hz, htei⟩ := tiOf_info hTe
  have e1 : i.size = 1 := by rw [← h1s, htei]
  have e2 : i.bytes = 1 := by rw [← h1b, htei]
  have e3 : z.cells.size = 1 := by rw [← h1s, ← hzs, htei]; simp
  obtain ⟨a, rfl, _⟩ := hc 0 _ (List.getElem?_eq_getElem (show 0 < news.length by omega))
  have hc' : ∀ j u, news[j]? = some u → w.cell? (a.add j) = some u := fun j u hu => by
    obtain ⟨a', h2, h3⟩ := hc j u hu
    injection h2 with h2; subst h2; exact h3
  have hrun := run_append_grow (P := P) (w := w) t ty te i z (td_slice hT hd) hi hz b k cap olds (by rw [e1, Nat.mul_one]; exact hlo) holds a n c news (by rw [e1, Nat.mul_one]; exact hl) hc' hg (by omega)
    (by rw [e2, Nat.mul_one]; exact Nat.le_trans (nextslicecap_le hg) (by omega))
  have hge := grownCap_ge w (k + n) cap te
  have hle := grownCap_le_maxLen w (k + n) cap te (by simp only [maxLen]; omega)
  refine ⟨_, _, hrun, ?_⟩
  generalize grownCap w (k + n) cap te = gc at *
  have hcells : (olds.toArray ++ news.toArray ++ Builtin.zeroCells z.cells (gc - (k + n))) = toArr (olds ++ news ++ (Builtin.zeroCells z.cells (gc - (k + n))).toList) := by
    apply Array.ext'; simp [toArr]
  have hzl : (Builtin.zeroCells z.cells (gc - (k + n))).toList.length = gc - (k + n) := by
    rw [Array.length_toList, size_zeroCells, e3, Nat.mul_one]
  rw [hcells]
  refine h (some ⟨w.heap.size, 0, none⟩) (k + n) gc [(w.heap.size, .cells (toArr (olds ++ news ++ (Builtin.zeroCells z.cells (gc - (k + n))).toList)) te (0, 0))] _ rfl ?_ (hL.drew.alloc _)
  refine ⟨k + n, by simp [hlo, hl], .inr ⟨w.heap.size, gc, _, rfl, rfl, hge, hle, ?_, ?_⟩⟩
  · rw [List.length_append, List.length_append, hzl, hlo, hl]; omega
  · rw [Nat.mul_one, List.take_append_of_le_length (by simp [hlo, hl]), List.take_of_length_le (by simp [hlo, hl])]
end
end Go.Ev
namespace Go.Ev
open Go
def mth (P : Program) (t : Nat) (name : String) : Option Nat := match P.info? t, P.underlying t with
  | some i, some (.struct _) => match i.methods.find? (·.name == name) with
    | some m => match m.func, m.path.toList with
      | some (f, false), [] => some f
      | _, _ => none
    | none => none
  | _, _ => none
section
variable {P : Program} {X : Tab} {N : Nat} {m0 m : Mem} {S : List Nat} {w0 w : World} {L : Own}
theorem run_method_val {t f : Nat} {name : String} {v : Value} (h : mth P t name = some f) (n : Nat) (w : World) : (method (n + 1) t v name).run P w = .ok (f, v) w := by
  unfold mth at h
  split at h
  · rename_i i fs hi hu
    split at h
    · rename_i mm hm
      split at h
      · rename_i g hf hp
        cases h
        simp only [method, Sem.run_bind, run_typeInfo hi, Result.andThen_ok, hm, hp, follow, Sem.run_pure, hf, receiverAt, run_underlying hu, Place.get]
      · cases h
    · cases h
  · cases h
theorem GenReq.invoke (hX : TabsOk P X) {o : Oper} {ρ : Operand → Value} {c : Call} {recv : Operand} {name : String} {t f : Nat} {v : Value} {args : List Value} {K : Value → World → Prop}
    (ho : o.op = .call c) (hc : c.callee = .invoke recv name) (hr : ρ recv = .iface t v) (ha : c.args.toList.map ρ = args) (hm : mth P t name = some f) (hg : look X.G f = some true)
    (h : CallReq P f (toArr (v :: args)) w K) : GenReq P o ρ w K := by
  obtain ⟨fnd, h1, h2, h3⟩ := hX.g f hg
  constructor
  unfold OpOk
  have hargs : #[v] ++ (c.args.map ρ) = toArr (v :: args) := by
    apply Array.ext'; rw [Array.toList_append, Array.toList_map, ha]; simp [toArr]
  have hex : execOp ρ o = callMethod (.iface t v) name (c.args.map ρ) := by
    have e0 : (#[Value.iface t v] ++ c.args.map ρ)[0]? = some (.iface t v) := by rw [← Array.getElem?_toList, Array.toList_append]; rfl
    have e1 : (#[Value.iface t v] ++ c.args.map ρ).extract 1 (#[Value.iface t v] ++ c.args.map ρ).size = c.args.map ρ := by
      apply Array.ext'; simp [List.take_of_length_le]
    simp [execOp, ho, resolve, hc, hr]
    unfold Go.invoke
    simp only [e0, e1]
  have hn : ∃ n, P.types.size + Made.depth = n + 1 := ⟨P.types.size + (Made.depth - 1), by unfold Made.depth; omega⟩
  obtain ⟨n, hn⟩ := hn
  have : (callMethod (.iface t v) name (c.args.map ρ)).run P w = .ok (.enter f (toArr (v :: args))) w := by
    have h2' : fnd.body.isNone = false := by cases hb : fnd.body <;> simp_all
    simp only [callMethod, Sem.run_bind, run_program, Result.andThen_ok, hn, run_method_val hm n w, callFunc, h1, h3, h2', Bool.false_eq_true, if_false, Sem.run_pure, hargs]
  rw [hex, this]
  exact h.out
theorem td_ptr {t e : Nat} {ti : TI} (h : tiOf P t = some ti) (hd : ti.d = .ptr e) : P.underlying t = some (.pointer e) := by
  obtain ⟨i, d, z, _, hu, _, rfl⟩ := tiOf_info h
  cases d <;> simp_all [tdOf]
theorem run_eq_nilPtr {t e : Nat} (hu : P.underlying t = some (.pointer e)) (a : Option Addr) (w : World) : (Op.equal t (.pointer a) (.pointer none)).run P w = .ok a.isNone w := by
  have h : ∀ d : Nat, (Op.equalIn (d + 1) t (.pointer a) (.pointer none)).run P w = .ok a.isNone w := fun d => by cases a <;> simp [Op.equalIn, run_underlying hu]
  exact h 9999
theorem UGenReq.nilPtr (hX : TabsOk P X) {o : Oper} {ρ : Operand → Value} {t yt : Nat} {x y : Operand} {a : Option Addr} {e : Nat} {ti : TI} {K : Value → Prop} (ho : o.op = .binOp .eql t x y yt) (hx : ρ x = .pointer a) (hy : ρ y = .pointer none)
    (ht : look X.T t = some (some ti)) (hd : ti.d = .ptr e) (h : K (.bool a.isNone)) : UGenReq P o ρ K := by
  have hex : execOp ρ o = (do pure (.value (← (do eqGuard .eql t x y (.pointer a) (.pointer none); binOp .eql t (.pointer a) (.pointer none) : Sem Value)))) := by
    simp only [execOp, ho, hx, hy]
  have hg : eqGuard .eql t x y (.pointer a) (.pointer none) = pure () := by simp [eqGuard]
  refine ⟨UOk.of_run (.bool a.isNone) hex (fun w => ?_) h⟩
  rw [hg]
  simp only [Sem.run_bind, Sem.run_pure, Result.andThen_ok, binOp, run_eq_nilPtr (td_ptr (hX.t _ _ ht) hd)]
theorem GenReq.iface (hX : TabsOk P X) {o : Oper} {ρ : Operand → Value} {x : Operand} {t : Nat} {ti : TI} {fs : List (Nat × Nat)} {v : Value} {K : Value → World → Prop} (ho : o.op = .makeInterface t x) (ht : look X.T t = some (some ti)) (hd : ti.d = .struct fs) (hx : ρ x = v)
    (h : K (.iface t v) w) : GenReq P o ρ w K := by
  obtain ⟨F, hu, _⟩ := td_struct (hX.t _ _ ht) hd
  constructor
  unfold OpOk
  simp only [execOp, ho, hx, Instr.makeInterface, Sem.run_bind, run_underlying hu, Result.andThen_ok, Sem.run_pure, upon]
  exact h
end
end Go.Ev
namespace Go.Ev
open Go
section
variable {P : Program} {X : Tab} {N : Nat} {m0 m : Mem} {S : List Nat} {w0 w : World} {L : Own}
theorem OwnS.src {te size : Nat} {A : Option Addr} {n c : Nat} {xs : List Value} {L1 L2 : Own} (h : OwnS te size (.slice A n c) xs L1) (hL : Loc m0 S w0 m (L1 ++ L2) w) :
    ∀ (j : Nat) (u : Value), xs[j]? = some u → ∃ a, A = some a ∧ w.cell? (a.add j) = some u := by
  intro j u hu
  obtain ⟨n', hn, ⟨e, h0, _⟩ | ⟨g, cap, cur, e, rfl, h1, h2, h3, h4⟩⟩ := h
  · have := (List.getElem?_eq_some_iff.1 hu).1; rw [hn, h0] at this; omega
  · injection e with e1 e2 e3
    subst e1
    refine ⟨_, rfl, ?_⟩
    rw [addr_add, Nat.zero_add]
    refine (hL.ownCell (b := g) (i := j) (c := toArr cur) (t := te) (f := (0, 0)) (by simp)).trans ?_
    rw [← h4, List.getElem?_take] at hu
    split at hu
    · simpa [toArr] using hu
    · cases hu
theorem RunReq.push (hX : TabsOk P X) (t te : Nat) {ti tei : TI} {ty : TypeId} (ht : look X.T t = some (some ti)) (hd : ti.d = .slice te) (hte : look X.T te = some (some tei)) (hsz : Nat.blt 0 tei.size = true) (hzs : Nat.beq tei.zero.length tei.size = true)
    {v : Value} {xs r : List Value} {L1 L2 : Own} {g : Nat} {fz : Nat × Nat} {c : Nat} {K : Value → World → Prop}
    (hown : OwnS te tei.size v xs L1) (hL : Loc m0 S w0 m ((g, .cells (toArr r) te fz) :: (L1 ++ L2)) w)
    (hr : Nat.beq r.length tei.size = true) (h1 : r.all Value.oneCell' = true) (hb : xs.length + tei.size ≤ 1099511627776) (hby : Nat.ble tei.bytes (128 * tei.size) = true)
    (h : ∀ A n c L1' w', (xs ++ r).length = n * tei.size → OwnS te tei.size (.slice A n c) (xs ++ r) L1' → Loc m0 S w0 m (L1' ++ L2) w' → K (.slice A n c) w') :
    RunReq P (Builtin.append_ #[t, t] ty (toArr [v, .slice (some ⟨g, 0, none⟩) 1 c])) w K := by
  have hr := Nat.eq_of_beq_eq_true hr
  refine RunReq.append hX t te ht hd hte hsz hzs hown hL.mid (k := 1) (news := r) (by rw [hr, Nat.one_mul]) (hL.src 0 rfl) (fun u hu => (List.all_eq_true.1 h1) u hu) (by rw [hr]; exact hb) hby ?_
  intro A n c L1' w' hn ho hl
  exact h A n c L1' w' hn ho (hl.perm List.perm_middle).drop
theorem RunReq.cat (hX : TabsOk P X) (t te : Nat) {ti tei : TI} {ty : TypeId} (ht : look X.T t = some (some ti)) (hd : ti.d = .slice te) (hte : look X.T te = some (some tei)) (hsz : Nat.blt 0 tei.size = true) (hzs : Nat.beq tei.zero.length tei.size = true)
    {v : Value} {xs ys : List Value} {L1 L2 Ly : Own} {A : Option Addr} {k c : Nat} {K : Value → World → Prop}
    (hown : OwnS te tei.size v xs L1) (hy : OwnS te tei.size (.slice A k c) ys Ly) (hL : Loc m0 S w0 m (Ly ++ (L1 ++ L2)) w)
    (h1 : ∀ u ∈ ys, u.oneCell' = true) (hb : xs.length + ys.length ≤ 1099511627776) (hby : Nat.ble tei.bytes (128 * tei.size) = true)
    (h : ∀ A n c L1' w', (xs ++ ys).length = n * tei.size → OwnS te tei.size (.slice A n c) (xs ++ ys) L1' → Loc m0 S w0 m (L1' ++ L2) w' → K (.slice A n c) w') :
    RunReq P (Builtin.append_ #[t, t] ty (toArr [v, .slice A k c])) w K := by
  obtain ⟨k', hk, hk2⟩ := hy
  have hkk : k' = k := by
    rcases hk2 with ⟨e, h0, _⟩ | ⟨g, cap, cur, e, _⟩
    · injection e with e1 e2 e3; omega
    · injection e with e1 e2 e3; exact e2.symm
  subst hkk
  have hp : (Ly ++ (L1 ++ L2)).Perm (L1 ++ (Ly ++ L2)) := by
    rw [← List.append_assoc, ← List.append_assoc]
    exact List.Perm.append_right _ List.perm_append_comm
  refine RunReq.append hX t te ht hd hte hsz hzs hown (hL.perm hp) (k := k') (news := ys) hk (OwnS.src ⟨k', hk, hk2⟩ hL) h1 hb hby ?_
  intro A n c L1' w' hn ho hl
  refine h A n c L1' w' hn ho ?_
  have hp2 : (L1' ++ (Ly ++ L2)).Perm (Ly ++ (L1' ++ L2)) := by
    rw [← List.append_assoc, ← List.append_assoc]
    exact List.Perm.append_right _ List.perm_append_comm
  exact (hl.perm hp2).dropN
theorem UGenReq.arrAll (hX : TabsOk P X) {o : Oper} {ρ : Operand → Value} {t n el : Nat} {x : Operand} {a : Addr} {ti te : TI} {K : Value → Prop} (ho : o.op = .slice t x none none none) (hx : ρ x = .pointer (some a))
    (ht : look X.T t = some (some ti)) (hd : ti.d = .array n el) (hte : look X.T el = some (some te)) (hn : Nat.blt 0 n = true) (h : K (.slice (some (a.add 0)) n n)) : UGenReq P o ρ K := by
  have hn := blt_lt hn
  have hex : execOp ρ o = (do pure (.value (← Instr.sliceAt t (.pointer (some a)) none none none))) := by simp [execOp, ho, hx]
  refine ⟨UOk.of_run _ hex (fun w => ?_) h⟩
  have hne : ¬ n = 0 := by omega
  simp only [Instr.sliceAt, Sem.run_bind, run_underlying (td_array (hX.t _ _ ht) hd), Result.andThen_ok, run_sizeOf (hX.t _ _ hte), Instr.sliceBounds, Instr.sureAddr]
  simp [hne]
theorem DrawReq.cut {σ : Type} (vars : σ → List (Nat × Value)) (keep : List Nat) (I : σ → World → Prop) {ops : Array Oper} {k : Env → World → Prop} {e : Env} {w : World}
    (h1 : DrawReq P X N ops (fun e' w' => ∃ s, I s w' ∧ Match (vars s) e' ∧ Keep keep e' e) e w) (h2 : ∀ s w' f, I s w' → k (over (vars s) keep f e) w') : DrawReq P X N ops k e w := by
  constructor
  intro a id ha
  refine wp_mono (h1.out a id ha) fun ex a w hq => ?_
  cases ex with
  | normal =>
    obtain ⟨e', ha, s, hI, hm, hk⟩ := hq
    have := h2 s w e' hI
    rw [over_same hm hk] at this
    exact ⟨e', ha, this⟩
  | _ => exact hq.elim
theorem LdReq.whole (hX : TabsOk P X) {t : Nat} {ti : TI} (ht : look X.T t = some (some ti)) (hd : ti.d.isAgg = true) (i : Nat) {b : Nat} {cs : List Value} {te : TypeId} {fz : Nat × Nat} {K : Value → Prop}
    (hL : Loc m0 S w0 m L w) (hi : look L i = some (b, .cells (toArr cs) te fz)) (hl : cs.length = ti.size) (h : K (.agg (toArr cs))) : LdReq P t w ⟨b, 0, none⟩ K := by
  refine LdReq.ownA hX ht hd i hL hi (ble_of (by omega)) ?_
  rw [List.drop_zero, List.take_of_length_le (by omega)]
  exact h
theorem StReq.whole (hX : TabsOk P X) {t : Nat} {ti : TI} (ht : look X.T t = some (some ti)) (i : Nat) {b : Nat} {cs vs : List Value} {te : TypeId} {K : World → Prop}
    (hL : Loc m0 S w0 m L w) (hi : look L i = some (b, .cells (toArr cs) te (0, 0))) (hl : cs.length = ti.size) (hs : vs.length = ti.size) (h1 : vs.all Value.oneCell' = true)
    (h : ∀ w', Loc m0 S w0 m (L.set i (b, .cells (toArr vs) te (0, 0))) w' → K w') : StReq P t w ⟨b, 0, none⟩ (.agg (toArr vs)) K := by
  have e : (Value.agg (toArr vs)).cells.toList = vs := rfl
  refine StReq.own hX ht i hL hi (by rw [e, hs]; exact Nat.beq_refl _) (by rw [e, hs, hl]; exact ble_of (by omega)) (by rw [e]; exact h1) ?_
  intro w' hL'
  have hsp := splice_zero vs cs [] (by omega)
  rw [List.append_nil, List.append_nil] at hsp
  rw [e, hsp] at hL'
  exact h w' hL'
end
end Go.Ev
namespace Go.Ev
open Go
section
variable {P : Program} {X : Tab} {N : Nat} {m0 m : Mem} {S : List Nat} {w0 w : World} {L : Own}
theorem toList_beq (a b : ByteArray) : (a.toList == b.toList) = (a == b) := by
  rw [Bool.eq_iff_iff, beq_iff_eq, Go.MapKept.bytes_beq, ByteArray.toList_eq, ByteArray.toList_eq]
  constructor
  · intro h
    obtain ⟨a⟩ := a
    obtain ⟨b⟩ := b
    exact congrArg ByteArray.mk (Array.ext' h)
  · intro h; rw [h]
theorem UGenReq.strEq {o : Oper} {ρ : Operand → Value} {t yt : Nat} {x y : Operand} {a b : ByteArray} {K : Value → Prop} (ho : o.op = .binOp .eql t x y yt) (hx : ρ x = .string a) (hy : ρ y = .string b)
    (h : K (.bool (a == b))) : UGenReq P o ρ K := by
  have hex : execOp ρ o = (do pure (.value (← (do eqGuard .eql t x y (.string a) (.string b); binOp .eql t (.string a) (.string b) : Sem Value)))) := by simp only [execOp, ho, hx, hy]
  have hg : eqGuard .eql t x y (.string a) (.string b) = pure () := by simp [eqGuard]
  refine ⟨UOk.of_run _ hex (fun w => ?_) h⟩
  rw [hg]
  simp [binOp, Op.stringOp, toList_beq]
theorem UGenReq.strNe {o : Oper} {ρ : Operand → Value} {t yt : Nat} {x y : Operand} {a b : ByteArray} {K : Value → Prop} (ho : o.op = .binOp .neq t x y yt) (hx : ρ x = .string a) (hy : ρ y = .string b)
    (h : K (.bool (!(a == b)))) : UGenReq P o ρ K := by
  have hex : execOp ρ o = (do pure (.value (← (do eqGuard .neq t x y (.string a) (.string b); binOp .neq t (.string a) (.string b) : Sem Value)))) := by simp only [execOp, ho, hx, hy]
  have hg : eqGuard .neq t x y (.string a) (.string b) = pure () := by simp [eqGuard]
  refine ⟨UOk.of_run _ hex (fun w => ?_) h⟩
  rw [hg]
  simp [binOp, Op.stringOp, toList_beq]
end
end Go.Ev
namespace Go.Ev
open Go Go.ChangeShapes Go.WideShapes Go.ChangeAt Go.RowKit
theorem law_coreQ {P : Program} {X : Tab} (hX : TabsOk P X) (hlay : laidOutB P = true) {f : Nat} {fn : Func} {Q : Mem → Prop} {s : ChangeSpec} {tb : Nat} (hvars : s.vars = []) (hres : fn.resultTypes = #[tb]) (htb : P.underlying tb = some .bool)
    (hread : ∀ t ∈ fn.params.toList, P.readableRec t = true ∧ t < P.types.size)
    (hspec : ∀ (H : Type) (ds : List (DataW H)), ds.length = fn.params.size → s.fn H ds = { results := [.lit (.bool true)], args := ds })
    (contract : ∀ (m : Mem), Q m → ∀ (vs : List Value), vs.length = fn.params.size → (∀ (j : Nat) t v, fn.params.toList[j]? = some t → vs[j]? = some v → Given X m t v) → Fn P f vs m [] fun _ _ v => v = .bool true)
    {H : Type} {enc : TypeId × Value → H} (W : World) (base : Nat) (args : Array Value) (ds gs : List (DataW H)) (before : List MemPlace)
    (hval : ∀ (j : Nat) t v, fn.params[j]? = some t → args[j]? = some v → Value.okWide P W .any base t v)
    (hW : DataW.Whole enc P fn.params.toList s.vars false W args.toList ds gs before)
    (hq : Q (memOf W)) (hsz : (DataW.weightsEach P (fn.params.toList ++ s.plain.varTypes P) (ds ++ gs)).all (· ≤ reachBytes) = true) :
    Calls P f args W fun e W' => ∃ v, e = .returned v ∧ s.post enc P fn false true false false W args v W' := by
  have hW' := hW
  have hlt : ∀ p ∈ before, p.block < W.heap.size := fun p hp => hW.lt p hp
  obtain ⟨p, q, hA, hV, rfl, hfz, hnd⟩ := hW
  have hgs : gs = [] ∧ q = [] := by
    rw [hvars] at hV
    cases gs with
    | nil => exact ⟨rfl, hV⟩
    | cons g gs => exact hV.elim
  obtain ⟨rfl, rfl⟩ := hgs
  have hvt : s.plain.varTypes P = [] := by simp [DataSpec.varTypes, ChangeSpec.plain, hvars]
  rw [hvt, List.append_nil, List.append_nil] at hsz
  obtain ⟨hl, hdl, hrd⟩ := given_all hX _ _ _ _ hA fun q hq => by simpa using List.all_eq_true.1 hsz q hq
  have hsp := hspec H ds (by simpa using hdl)
  have hc := contract (memOf W) hq args.toList (by simpa using hl.symm) (fun j t v ht hv => ⟨shp_of_ok hX (hval j t v (by simpa using ht) (by simpa using hv)), hrd j t v ht hv⟩) W (pre_memOf W)
  have ha : toArr args.toList = args := by simp [toArr]
  rw [ha] at hc
  refine hc.mono fun e W' ⟨v, m', L', he, hloc, hv⟩ => ⟨v, he, ?_⟩
  subst hv
  have hb := Loc.below hloc
  simp only [List.append_nil] at hW' hlt
  refine post_of_below (pa := p) (pv := []) hW' (fun b sp hd => ?_) (fun sp hsp' => ?_) (fun sp _ => ?_) (by simp) hb (ok_one hres rfl (okWide_bool_mk htb _))
  · rw [List.append_nil, hsp, hres]
    exact trodAll_mk1 (shut_bool htb _)
  · rw [List.append_nil, hsp]
    exact trodAll_stays hlay _ _ _ _ hread hA (fun x hx => hb.same (hlt x hx)) hsp'
  · rw [List.append_nil, hsp, hvars]
    rfl
end Go.Ev
namespace Go.Ev
open Go
abbrev bs (l : List UInt8) : ByteArray := ⟨l.toArray⟩
theorem bs_add (a b : List UInt8) : bs a ++ bs b = bs (a ++ b) := by
  have h : (bs a ++ bs b).data = (bs (a ++ b)).data := by rw [ByteArray.data_append]; simp
  cases h' : bs a ++ bs b with
  | mk d => rw [h'] at h; exact congrArg ByteArray.mk h
theorem bs_size (a : List UInt8) : (bs a).size = a.length := by show a.toArray.size = _; simp
theorem bs_extract (a : List UInt8) (i j : Nat) : exS (bs a) i j = bs ((a.take j).drop i) := rfl
theorem bs_inj {a b : List UInt8} (h : bs a = bs b) : a = b := by
  injection h with h
  simpa using h
theorem bs_beq (a b : List UInt8) : (bs a == bs b) = decide (a = b) := by
  rw [Bool.eq_iff_iff, Go.MapKept.bytes_beq, decide_eq_true_iff]
  exact ⟨bs_inj, fun e => by rw [e]⟩
section
variable {P : Program} {X : Tab} {N : Nat}
theorem UGenReq.strAdd {o : Oper} {ρ : Operand → Value} {t yt : Nat} {x y : Operand} {a b : ByteArray} {K : Value → Prop} (ho : o.op = .binOp .add t x y yt) (hx : ρ x = .string a) (hy : ρ y = .string b)
    (hsz : a.size + b.size ≤ 1000000000000) (h : K (.string (a ++ b))) : UGenReq P o ρ K := by
  have hex : execOp ρ o = (do pure (.value (← (do eqGuard .add t x y (.string a) (.string b); binOp .add t (.string a) (.string b) : Sem Value)))) := by simp only [execOp, ho, hx, hy]
  have hg : eqGuard .add t x y (.string a) (.string b) = pure () := by simp [eqGuard]
  refine ⟨UOk.of_run _ hex (fun w => ?_) h⟩
  rw [hg]
  simp [binOp, Op.stringOp]
  omega
theorem UGenReq.strB {o : Oper} {ρ : Operand → Value} {t yt : Nat} {x y : Operand} {sa sb : ByteArray} (a b : List UInt8) {K : Value → Prop} (ho : o.op = .binOp .add t x y yt) (hx : ρ x = .string sa) (hy : ρ y = .string sb)
    (ha : sa = bs a) (hb : sb = bs b) (hsz : a.length + b.length ≤ 1000000000000) (h : K (.string (bs (a ++ b)))) : UGenReq P o ρ K := by
  subst ha hb
  refine UGenReq.strAdd ho hx hy (by rw [bs_size, bs_size]; exact hsz) ?_
  rw [bs_add]; exact h
end
end Go.Ev
namespace Go.Ev
open Go
def eqS (X : Tab) : Nat → Nat → List Value → List Value → Option Bool
  | 0, _, _, _ => none
  | n + 1, t, xs, ys => match tyO X t with
    | none => none
    | some ti => match ti.d with
      | .int _ => match xs, ys with
        | [.int k a], [.int k' b] => match kEq k k' with | true => some (decide (a = b)) | false => none
        | _, _ => none
      | .bool => match xs, ys with
        | [.bool a], [.bool b] => some (a == b)
        | _, _ => none
      | .str => match xs, ys with
        | [.string a], [.string b] => some (a == b)
        | _, _ => none
      | .struct fs => match inE X.E t with | true => none | false => eqFs X (eqS X n) fs xs ys
      | .array k e => match tyO X e with
        | none => none
        | some te => eqAr (eqS X n e) te.size (List.range k) xs ys
      | _ => none
section
variable {P : Program} {X : Tab}
end
end Go.Ev
namespace Go.Ev
open Go
structure Box (p : Prop) : Prop where
  out : p
theorem goX {A B : World → Prop} (k : ∀ w, A w → B w) (w : World) (h : A w) : B w := k w h
theorem go {G G2 : Prop} (k : G2) (h : Box G2 → G := by (intro kGo; (conv => whnf); (repeat ((first | refine zT ?_ | refine zF ?_ | refine zL hX hL ?_ | refine zB hX hL ?_ | (refine zS hX hL ?_; intro w hL) | refine zI ?_ | refine zG hX ?_ | refine zO ?_); (conv => whnf))); (first | exact kGo.out | exact goX kGo.out w hL))) : G := h ⟨k⟩
theorem go1 {G G2 : Prop} (k : G2) (h : Box G2 → G := by (intro kGo; (first | refine zT ?_ | refine zF ?_ | refine zL hX hL ?_ | refine zB hX hL ?_ | (refine zS hX hL ?_; intro w hL) | refine zI ?_ | refine zG hX ?_ | refine zO ?_); (conv => whnf); (repeat ((first | refine zT ?_ | refine zF ?_ | refine zL hX hL ?_ | refine zB hX hL ?_ | (refine zS hX hL ?_; intro w hL) | refine zI ?_ | refine zG hX ?_ | refine zO ?_); (conv => whnf))); (first | exact kGo.out | exact goX kGo.out w hL))) : G := h ⟨k⟩
theorem goq {G G2 : Prop} (k : G2) (h : Box G2 → G := by (intro kGo; (conv => whnf); (repeat ((first | refine zQ hX ?_ | refine zR hX ?_ | refine zA ?_ | refine zT ?_ | refine zF ?_ | refine zL hX hL ?_ | refine zB hX hL ?_ | (refine zS hX hL ?_; intro w hL) | refine zI ?_ | refine zG hX ?_ | refine zO ?_); (conv => whnf))); (first | exact kGo.out | exact goX kGo.out w hL))) : G := h ⟨k⟩
theorem goq1 {G G2 : Prop} (k : G2) (h : Box G2 → G := by (intro kGo; (first | refine zQ hX ?_ | refine zR hX ?_ | refine zA ?_ | refine zT ?_ | refine zF ?_ | refine zL hX hL ?_ | refine zB hX hL ?_ | (refine zS hX hL ?_; intro w hL) | refine zI ?_ | refine zG hX ?_ | refine zO ?_); (conv => whnf); (repeat ((first | refine zQ hX ?_ | refine zR hX ?_ | refine zA ?_ | refine zT ?_ | refine zF ?_ | refine zL hX hL ?_ | refine zB hX hL ?_ | (refine zS hX hL ?_; intro w hL) | refine zI ?_ | refine zG hX ?_ | refine zO ?_); (conv => whnf))); (first | exact kGo.out | exact goX kGo.out w hL))) : G := h ⟨k⟩
theorem gos {G G2 : Prop} (k : G2) (h : Box G2 → G := by (intro kGo; (conv => whnf); (repeat ((first | refine zT ?_ | refine zF ?_ | refine zL hX hL ?_ | refine zB hX hL ?_ | (refine zS hX hL ?_; intro w hL) | refine zI ?_ | refine zO ?_); (conv => whnf))); (first | exact kGo.out | exact goX kGo.out w hL))) : G := h ⟨k⟩
section
theorem rnd {σ : Type} {A B C D : σ → Prop} (s : σ) (a : A s) (b : B s := by first | omega | (simp only; omega) | (simp only [List.length_cons, List.length_append]; omega)) (c : C s := by repeat (first | exact trivial | (refine And.intro (by (conv => lhs; whnf) <;> (conv => rhs; whnf) <;> (first | rfl)) ?_))) (d : D s := by repeat (first | exact trivial | (refine And.intro (by (conv => lhs; whnf) <;> (conv => rhs; whnf) <;> (first | rfl)) ?_))) : ∃ s, A s ∧ B s ∧ C s ∧ D s := ⟨s, a, b, c, d⟩
end
end Go.Ev
