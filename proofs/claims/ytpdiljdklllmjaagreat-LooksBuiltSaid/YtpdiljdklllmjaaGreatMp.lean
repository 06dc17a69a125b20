/- Maps of one's own, over whatever keys. Conditions: none; over any program. -/
import Derived.Test.YtpdiljdklllmjaaGreatEv
import Derived.Maps.Keyed
namespace Go.Ev
open Go
open Go.ChangeMaps (setBlock)
open Go.MapKept (run_setObj_map)
open Go.Maps (Keyed)

def entW : Nat → List (Value × Value) → List MapEntry
  | _, [] => []
  | b, x :: l => ⟨x.1, x.2, b⟩ :: entW (b + 1) l
/-- A map, by its entries in the order in which they were put. -/
def mapW (l : List (Value × Value)) : Obj := .map (entW 0 l).toArray l.length
theorem entW_get : ∀ (l : List (Value × Value)) (b i : Nat), (entW b l)[i]? = (l[i]?).map fun x => ⟨x.1, x.2, b + i⟩
  | [], _, _ => by simp [entW]
  | x :: l, b, i => by
    cases i with
    | zero => simp [entW]
    | succ i => simp only [entW, List.getElem?_cons_succ]; rw [entW_get l (b + 1) i]; congr 1; funext x; rw [show b + 1 + i = b + (i + 1) from by omega]
theorem entW_push (k v : Value) : ∀ (l : List (Value × Value)) (b : Nat), entW b (l ++ [(k, v)]) = entW b l ++ [⟨k, v, b + l.length⟩]
  | [], b => rfl
  | x :: l, b => by simp only [List.cons_append, entW, entW_push k v l (b + 1)]; rw [show b + 1 + l.length = b + (x :: l).length from by simp; omega]
theorem entW_set (k v : Value) : ∀ (l : List (Value × Value)) (b q : Nat), (entW b l).modify q (fun e => { e with key := k, val := v }) = entW b (l.set q (k, v))
  | [], b, q => by simp [entW]
  | x :: l, b, q => by
    cases q with
    | zero => simp [entW]
    | succ q => simp only [entW, List.set_cons_succ, List.modify_succ_cons, entW_set k v l (b + 1) q]
theorem entW_mem {l : List (Value × Value)} {b : Nat} {e : MapEntry} (h : e ∈ entW b l) : (e.key, e.val) ∈ l := by
  obtain ⟨q, hq⟩ := List.getElem?_of_mem h
  rw [entW_get] at hq
  cases hx : l[q]? with
  | none => rw [hx] at hq; cases hq
  | some x => rw [hx] at hq; simp at hq; subst hq; exact List.mem_of_getElem? hx

section
variable {P : Program} {X : Tab} {N : Nat} {m0 m : Mem} {S : List Nat} {w0 w : World} {L : Own}
/-- A key, in a map or not. -/
def IsK (P : Program) (kt : TypeId) (k : Value) : Prop := ∃ l, keyOf P kt k = some l
theorem run_find {kt : TypeId} (hK : Keyed P kt) {k : Value} (hk : IsK P kt k) {l : List (Value × Value)} (hks : ∀ x ∈ l, IsK P kt x.1) (w : World) :
    ((Instr.findKey kt k (entW 0 l)).run P w = .ok none w ∧ ∀ x ∈ l, x.1 ≠ k) ∨ ∃ q v, (Instr.findKey kt k (entW 0 l)).run P w = .ok (some (q, v)) w ∧ l[q]? = some (k, v) := by
  obtain ⟨lx, hlx⟩ := hk
  rcases hK.find w hlx (entW 0 l) (fun e he => hks _ (entW_mem he)) with ⟨h1, h2⟩ | ⟨j, e, h1, h2, h3⟩
  · refine .inl ⟨h1, fun x hx => ?_⟩
    obtain ⟨q, hq⟩ := List.getElem?_of_mem hx
    have : (entW 0 l)[q]? = some ⟨x.1, x.2, 0 + q⟩ := by rw [entW_get, hq]; rfl
    exact h2 _ (List.mem_of_getElem? this)
  · refine .inr ⟨j, e.val, h1, ?_⟩
    rw [entW_get] at h2
    cases hx : l[j]? with
    | none => rw [hx] at h2; cases h2
    | some x => rw [hx] at h2; simp at h2; subst h2; simp at h3; subst h3; rfl
theorem RunReq.makeMapW {t : Nat} {K : Value → World → Prop} (hL : Loc m0 S w0 m L w)
    (h : ∀ b w', Loc m0 S w0 m ((b, mapW []) :: L) w' → K (.map (some b)) w') : RunReq P (Instr.makeMap t none) w K := by
  refine ⟨_, _, ?_, h w.heap.size (w.alloc (.map #[] 0)) (hL.alloc _)⟩
  simp [Instr.makeMap, Result.andThen]
theorem RunReq.lookW (hX : TabsOk P X) {t kt vt r : Nat} {ti : TI} (ht : look X.T t = some (some ti)) (hd : ti.d = .map kt vt) (hK : Keyed P kt) {c : Bool} {k z : Value} {l : List (Value × Value)} {K : Value → World → Prop}
    (hz0 : (P.info? vt).bind (·.zero) = some z) (hL : Loc m0 S w0 m L w) (hi : Lies L r (mapW l)) (hk : IsK P kt k) (hks : ∀ x ∈ l, IsK P kt x.1)
    (h0 : (∀ x ∈ l, x.1 ≠ k) → K (if c = true then .tuple (toArr [z, .bool false]) else z) w)
    (h1 : ∀ v, (k, v) ∈ l → K (if c = true then .tuple (toArr [v, .bool true]) else v) w) : RunReq P (Instr.lookup t (.map (some r)) k c) w K := by
  have hu := td_map (hX.t _ _ ht) hd
  obtain ⟨i, hi⟩ := hi.ex
  have hb : w.heap[r]? = some (.map (entW 0 l).toArray l.length) := hL.own _ (List.mem_of_getElem? (by rw [← look_eq]; exact hi))
  have hz : ∀ w, (zeroValue vt).run P w = .ok z w := by
    intro w
    cases hi : P.info? vt with
    | none => rw [hi] at hz0; cases hz0
    | some i => rw [hi] at hz0; simp only [Option.bind_some] at hz0; simp [zeroValue, run_typeInfo hi, hz0]
  have hc : ∀ em, (Instr.checkKey em 10000 kt k).run P w = .ok () w := fun em => by obtain ⟨lx, hlx⟩ := hk; exact hK.check w em hlx
  rcases run_find hK hk hks w with ⟨hf, hn⟩ | ⟨q, v, hf, hq⟩
  · refine ⟨_, _, ?_, h0 hn⟩
    simp only [Instr.lookup, Sem.run_bind, run_underlying hu, Result.andThen_ok, rgm hb, Sem.run_pure, hc, hf, hz]
    rfl
  · refine ⟨_, _, ?_, h1 v (List.mem_of_getElem? hq)⟩
    simp only [Instr.lookup, Sem.run_bind, run_underlying hu, Result.andThen_ok, rgm hb, Sem.run_pure, hc, hf]
    rfl
theorem RunUReq.updW (hX : TabsOk P X) {t kt vt r : Nat} {ti : TI} (ht : look X.T t = some (some ti)) (hd : ti.d = .map kt vt) (hK : Keyed P kt) {k v : Value} {l : List (Value × Value)} {K : World → Prop} (i : Nat)
    (hL : Loc m0 S w0 m L w) (hi : look L i = some (r, mapW l)) (hk : IsK P kt k) (hks : ∀ x ∈ l, IsK P kt x.1)
    (h0 : (∀ x ∈ l, x.1 ≠ k) → ∀ w', Loc m0 S w0 m (L.set i (r, mapW (l ++ [(k, v)]))) w' → K w')
    (h1 : ∀ q u, l[q]? = some (k, u) → ∀ w', Loc m0 S w0 m (L.set i (r, mapW (l.set q (k, v)))) w' → K w') : RunUReq P (Instr.mapUpdate t (.map (some r)) k v) w K := by
  have hu := td_map (hX.t _ _ ht) hd
  have hb : w.heap[r]? = some (.map (entW 0 l).toArray l.length) := hL.own _ (List.mem_of_getElem? (by rw [← look_eq]; exact hi))
  have hc : ∀ em, (Instr.checkKey em 10000 kt k).run P w = .ok () w := fun em => by obtain ⟨lx, hlx⟩ := hk; exact hK.check w em hlx
  have hst : (Instr.keyThatStays k k).run P w = .ok k w := by obtain ⟨lx, hlx⟩ := hk; exact hK.stays w hlx
  rcases run_find hK hk hks w with ⟨hf, hn⟩ | ⟨q, u, hf, hq⟩
  · refine ⟨_, ?_, h0 hn _ (hL.setObj (o' := mapW (l ++ [(k, v)])) hi)⟩
    simp only [Instr.mapUpdate, Sem.run_bind, run_underlying hu, Result.andThen_ok, rgm hb, hc, hf]
    rw [run_setObj_map _ hb]
    simp only [setBlock, mapW, entW_push, Nat.zero_add, List.length_append, List.length_cons, List.length_nil, List.push_toArray]
  · refine ⟨_, ?_, h1 q u hq _ (hL.setObj (o' := mapW (l.set q (k, v))) hi)⟩
    have hkey : (((entW 0 l).toArray[q]?).map (·.key)).getD k = k := by
      rw [List.getElem?_toArray, entW_get, hq]; simp
    simp only [Instr.mapUpdate, Sem.run_bind, run_underlying hu, Result.andThen_ok, rgm hb, hc, hf, hkey, hst]
    rw [run_setObj_map _ hb]
    simp only [setBlock, mapW, List.length_set]
    congr 3
    rw [← entW_set]
    simp
/-- Whether a pointer isn't nil. -/
theorem UGenReq.nilPtrNe (hX : TabsOk P X) {o : Oper} {ρ : Operand → Value} {t yt : Nat} {x y : Operand} {a : Option Addr} {e : Nat} {ti : TI} {K : Value → Prop} (ho : o.op = .binOp .neq t x y yt) (hx : ρ x = .pointer a) (hy : ρ y = .pointer none)
    (ht : look X.T t = some (some ti)) (hd : ti.d = .ptr e) (h : K (.bool (!a.isNone))) : UGenReq P o ρ K := by
  have hex : execOp ρ o = (do pure (.value (← (do eqGuard .neq t x y (.pointer a) (.pointer none); binOp .neq t (.pointer a) (.pointer none) : Sem Value)))) := by
    simp only [execOp, ho, hx, hy]
  have hg : eqGuard .neq t x y (.pointer a) (.pointer none) = pure () := by simp [eqGuard]
  refine ⟨UOk.of_run (.bool (!a.isNone)) hex (fun w => ?_) h⟩
  rw [hg]
  simp only [Sem.run_bind, Sem.run_pure, Result.andThen_ok, binOp, run_eq_nilPtr (td_ptr (hX.t _ _ ht) hd)]
theorem QLdReq.ownC (hX : TabsOk P X) {t : Nat} {ti : TI} (ht : look X.T t = some (some ti)) (hd : ti.d.isAgg = false) {b o j : Nat} {cs : List Value} {te : TypeId} {fz : Nat × Nat} {v : Value} {K : Value → Prop}
    (hi : Lies L b (.cells (toArr cs) te fz)) (hv : cs[o + j]? = some v) (h : K v) : QLdReq P t (fun w => Loc m0 S w0 m L w) ((⟨b, o, none⟩ : Addr).add j) K := by
  rw [addr_add]
  exact zq hX ht hd hi (by rw [look_eq]; exact hv) h
theorem LdReq.ownC (hX : TabsOk P X) {t : Nat} {ti : TI} (ht : look X.T t = some (some ti)) (hd : ti.d.isAgg = false) {b o j : Nat} {cs : List Value} {te : TypeId} {fz : Nat × Nat} {v : Value} {K : Value → Prop}
    (hL : Loc m0 S w0 m L w) (hi : Lies L b (.cells (toArr cs) te fz)) (hv : cs[o + j]? = some v) (h : K v) : LdReq P t w ((⟨b, o, none⟩ : Addr).add j) K := by
  rw [addr_add]
  exact zl hX ht hd hL hi (by rw [look_eq]; exact hv) h
theorem alt2 {A B : Prop} (a : A) (b : B) : AltReq A B := ⟨⟨a, b⟩⟩
/-- A whole row, out of a block of one's own, at a place that is told. -/
theorem LdReq.ownRow (hX : TabsOk P X) {t : Nat} {ti : TI} (ht : look X.T t = some (some ti)) (hd : ti.d.isAgg = true) {b o j : Nat} {cs r : List Value} {te : TypeId} {fz : Nat × Nat} {K : Value → Prop}
    (hL : Loc m0 S w0 m L w) (hi : Lies L b (.cells (toArr cs) te fz)) (hr : (cs.drop (o + j)).take ti.size = r) (hl : o + j + ti.size ≤ cs.length) (h : K (.agg (toArr r))) : LdReq P t w ((⟨b, o, none⟩ : Addr).add j) K := by
  rw [addr_add]
  subst hr
  exact zm hX ht hd hL hi (ble_of hl) h
theorem QLdReq.ownRow (hX : TabsOk P X) {t : Nat} {ti : TI} (ht : look X.T t = some (some ti)) (hd : ti.d.isAgg = true) {b o j : Nat} {cs r : List Value} {te : TypeId} {fz : Nat × Nat} {K : Value → Prop}
    (hi : Lies L b (.cells (toArr cs) te fz)) (hr : (cs.drop (o + j)).take ti.size = r) (hl : o + j + ti.size ≤ cs.length) (h : K (.agg (toArr r))) : QLdReq P t (fun w => Loc m0 S w0 m L w) ((⟨b, o, none⟩ : Addr).add j) K := by
  rw [addr_add]
  subst hr
  exact zr hX ht hd hi (ble_of hl) h
/-- A row of a slice of one's own. -/
theorem OwnS.rowAt {te size n c : Nat} {A : Option Addr} {rows : List (List Value)} {L1 : Own} (h : OwnS te size (.slice A n c) rows.flatten L1) (hs : ∀ r ∈ rows, r.length = size) (h0 : 0 < size) {i : Nat} {r : List Value} (hi : rows[i]? = some r) :
    ∃ g cur, A = some ⟨g, 0, none⟩ ∧ L1 = [(g, .cells (toArr cur) te (0, 0))] ∧ (cur.drop (i * size)).take size = r ∧ i * size + size ≤ cur.length := by
  have hil := (List.getElem?_eq_some_iff.1 hi).1
  have hfl := flat_len rows hs
  obtain ⟨k, hk, ⟨e, h1, _⟩ | ⟨g, cap, cur, e, h1, h2, h3, h4, h5⟩⟩ := h
  · cases e
    rw [hk, h1] at hfl
    have := Nat.mul_le_mul_right size (show 1 ≤ rows.length by omega)
    omega
  · cases e
    have hle : (i + 1) * size ≤ rows.length * size := Nat.mul_le_mul_right size hil
    rw [Nat.succ_mul] at hle
    have hkc := Nat.mul_le_mul_right size h2
    refine ⟨g, cur, rfl, h1, ?_, by omega⟩
    apply List.ext_getElem?
    intro j
    rw [List.getElem?_take]
    have hrl := hs r (List.mem_of_getElem? hi)
    by_cases hj : j < size
    · rw [if_pos hj, List.getElem?_drop]
      rw [← flat_get rows i j r hs hi hj, ← h5, List.getElem?_take_of_lt (by omega)]
    · rw [if_neg hj, List.getElem?_eq_none (by omega)]
/-- A function that reads blocks of one's own and tells a value. -/
def FnL (P : Program) (f : Nat) (args : List Value) (m : Mem) (L : Own) (v : Value) : Prop := Fn P f args m L fun m' L' u => m' = m ∧ L' = L ∧ u = v
theorem CallReq.li {L1 L2 : Own} {f : Nat} {args : List Value} {v : Value} {K : Value → World → Prop} (h : FnL P f args m L1 v) (hL : Loc m0 S w0 m (L1 ++ L2) w)
    (k : ∀ w', Loc m0 S w0 m (L1 ++ L2) w' → K v w') : CallReq P f (toArr args) w K :=
  CallReq.mk h hL fun _ _ _ w' hl _ ⟨e1, e2, e3⟩ => by subst e1 e2 e3; exact k w' hl
theorem CallReq.lo {f : Nat} {args : List Value} {v : Value} {K : Value → World → Prop} (h : FnL P f args m L v) (hL : Loc m0 S w0 m L w)
    (k : ∀ w', Loc m0 S w0 m L w' → K v w') : CallReq P f (toArr args) w K :=
  CallReq.li (L2 := []) h (by rw [List.append_nil]; exact hL) fun w' hl => k w' (by rw [List.append_nil] at hl; exact hl)
/-- Likewise, and it may hand blocks over. -/
def FnM (P : Program) (f : Nat) (args : List Value) (m : Mem) (L : Own) (v : Value) : Prop := Fn P f args m L fun _ L' u => L' = L ∧ u = v
theorem CallReq.lm {L1 L2 : Own} {f : Nat} {args : List Value} {v : Value} {K : Value → World → Prop} (h : FnM P f args m L1 v) (hL : Loc m0 S w0 m (L1 ++ L2) w)
    (k : ∀ m' w', Mem.Le m m' → Loc m0 S w0 m' (L1 ++ L2) w' → K v w') : CallReq P f (toArr args) w K :=
  CallReq.mk h hL fun _ m' _ w' hl hm ⟨e2, e3⟩ => by subst e2 e3; exact k m' w' hm hl
end
end Go.Ev
