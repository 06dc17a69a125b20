/- TrackRefuses: part 2 of 14 of the proof. Conditions: none. -/
import Derived.Test.YtiololnblplloaaGreatM1
import Derived.Maps.Keyed
import Derived.Test.YtiololnblplloaaGreatProg
import Derived.KernelRfl
import Derived.DeepKeys4
namespace Go.Ev
open Go
open Go.ChangeMaps (setBlock)
open Go.MapKept (run_setObj_map)
open Go.Maps (Keyed)
def entW : Nat → List (Value × Value) → List MapEntry
  | _, [] => []
  | b, x :: l => ⟨x.1, x.2, b⟩ :: entW (b + 1) l
def mapW (l : List (Value × Value)) : Obj := .map (entW 0 l).toArray l.length
theorem entW_get : ∀ (l : List (Value × Value)) (b i : Nat), (entW b l)[i]? = (l[i]?).map fun x => ⟨x.1, x.2, b + i⟩
  | [], _, _ => by simp [entW]
  | x :: l, b, i => by
    cases i with
    | zero => simp [entW]
    | succ i => simp only [entW, List.getElem?_cons_succ]; rw [entW_get l (b + 1) i]; congr 1; funext x; rw [show b + 1 + i = b + (i + 1) from by omega]
theorem entW_push (k v : Value) : ∀ (l : List (Value × Value)) (b : Nat), entW b (l ++ [(k, v)]) = entW b l ++ [⟨k, v, b + l.length⟩]
  | [], b => rfl
  | x :: l, b => by simp only [List.cons_append, entW, entW_push k v l (b + 1)]; rw [show b + 1 + l.length = b + (x :: l).length from by simp; omega]
theorem entW_set (k v : Value) : ∀ (l : List (Value × Value)) (b q : Nat), (entW b l).modify q (fun e => { e with key := k, val := v }) = entW b (l.set q (k, v))
  | [], b, q => by simp [entW]
  | x :: l, b, q => by
    cases q with
    | zero => simp [entW]
    | succ q => simp only [entW, List.set_cons_succ, List.modify_succ_cons, entW_set k v l (b + 1) q]
theorem entW_mem {l : List (Value × Value)} {b : Nat} {e : MapEntry} (h : e ∈ entW b l) : (e.key, e.val) ∈ l := by
  obtain ⟨q, hq⟩ := List.getElem?_of_mem h
  rw [entW_get] at hq
  cases hx : l[q]? with
  | none => rw [hx] at hq; cases hq
  | some x => rw [hx] at hq; simp at hq; subst hq; exact List.mem_of_getElem? hx
section
variable {P : Program} {X : Tab} {N : Nat} {m0 m : Mem} {S : List Nat} {w0 w : World} {L : Own}
def IsK (P : Program) (kt : TypeId) (k : Value) : Prop := ∃ l, keyOf P kt k = some l
theorem run_find {kt : TypeId} (hK : Keyed P kt) {k : Value} (hk : IsK P kt k) {l : List (Value × Value)} (hks : ∀ x ∈ l, IsK P kt x.1) (w : World) :
    ((Instr.findKey kt k (entW 0 l)).run P w = .ok none w ∧ ∀ x ∈ l, x.1 ≠ k) ∨ ∃ q v, (Instr.findKey kt k (entW 0 l)).run P w = .ok (some (q, v)) w ∧ l[q]? = some (k, v) := by
  obtain ⟨lx, hlx⟩ := hk
  rcases hK.find w hlx (entW 0 l) (fun e he => hks _ (entW_mem he)) with ⟨h1, h2⟩ | ⟨j, e, h1, h2, h3⟩
  · refine .inl ⟨h1, fun x hx => ?_⟩
    obtain ⟨q, hq⟩ := List.getElem?_of_mem hx
    have : (entW 0 l)[q]? = some ⟨x.1, x.2, 0 + q⟩ := by rw [entW_get, hq]; rfl
    exact h2 _ (List.mem_of_getElem? this)
  · refine .inr ⟨j, e.val, h1, ?_⟩
    rw [entW_get] at h2
    cases hx : l[j]? with
    | none => rw [hx] at h2; cases h2
    | some x => rw [hx] at h2; simp at h2; subst h2; simp at h3; subst h3; rfl
theorem RunReq.makeMapW {t : Nat} {K : Value → World → Prop} (hL : Loc m0 S w0 m L w)
    (h : ∀ b w', Loc m0 S w0 m ((b, mapW []) :: L) w' → K (.map (some b)) w') : RunReq P (Instr.makeMap t none) w K := by
  refine ⟨_, _, ?_, h w.heap.size (w.alloc (.map #[] 0)) (hL.alloc _)⟩
  simp [Instr.makeMap, Result.andThen]
theorem RunReq.lookW (hX : TabsOk P X) {t kt vt r : Nat} {ti : TI} (ht : look X.T t = some (some ti)) (hd : ti.d = .map kt vt) (hK : Keyed P kt) {c : Bool} {k z : Value} {l : List (Value × Value)} {K : Value → World → Prop}
    (hz0 : (P.info? vt).bind (·.zero) = some z) (hL : Loc m0 S w0 m L w) (hi : Lies L r (mapW l)) (hk : IsK P kt k) (hks : ∀ x ∈ l, IsK P kt x.1)
    (h0 : (∀ x ∈ l, x.1 ≠ k) → K (if c = true then .tuple (toArr [z, .bool false]) else z) w)
    (h1 : ∀ v, (k, v) ∈ l → K (if c = true then .tuple (toArr [v, .bool true]) else v) w) : RunReq P (Instr.lookup t (.map (some r)) k c) w K := by
  have hu := td_map (hX.t _ _ ht) hd
  obtain ⟨i, hi⟩ := hi.ex
  have hb : w.heap[r]? = some (.map (entW 0 l).toArray l.length) := hL.own _ (List.mem_of_getElem? (by rw [← look_eq]; exact hi))
  have hz : ∀ w, (zeroValue vt).run P w = .ok z w := by
    intro w
    cases hi : P.info? vt with
    | none => rw [hi] at hz0; cases hz0
    | some i => rw [hi] at hz0; simp only [Option.bind_some] at hz0; simp [zeroValue, run_typeInfo hi, hz0]
  have hc : ∀ em, (Instr.checkKey em 10000 kt k).run P w = .ok () w := fun em => by obtain ⟨lx, hlx⟩ := hk; exact hK.check w em hlx
  rcases run_find hK hk hks w with ⟨hf, hn⟩ | ⟨q, v, hf, hq⟩
  · refine ⟨_, _, ?_, h0 hn⟩
    simp only [Instr.lookup, Sem.run_bind, run_underlying hu, Result.andThen_ok, rgm hb, Sem.run_pure, hc, hf, hz]
    rfl
  · refine ⟨_, _, ?_, h1 v (List.mem_of_getElem? hq)⟩
    simp only [Instr.lookup, Sem.run_bind, run_underlying hu, Result.andThen_ok, rgm hb, Sem.run_pure, hc, hf]
    rfl
theorem RunUReq.updW (hX : TabsOk P X) {t kt vt r : Nat} {ti : TI} (ht : look X.T t = some (some ti)) (hd : ti.d = .map kt vt) (hK : Keyed P kt) {k v : Value} {l : List (Value × Value)} {K : World → Prop} (i : Nat)
    (hL : Loc m0 S w0 m L w) (hi : look L i = some (r, mapW l)) (hk : IsK P kt k) (hks : ∀ x ∈ l, IsK P kt x.1)
    (h0 : (∀ x ∈ l, x.1 ≠ k) → ∀ w', Loc m0 S w0 m (L.set i (r, mapW (l ++ [(k, v)]))) w' → K w')
    (h1 : ∀ q u, l[q]? = some (k, u) → ∀ w', Loc m0 S w0 m (L.set i (r, mapW (l.set q (k, v)))) w' → K w') : RunUReq P (Instr.mapUpdate t (.map (some r)) k v) w K := by
  have hu := td_map (hX.t _ _ ht) hd
  have hb : w.heap[r]? = some (.map (entW 0 l).toArray l.length) := hL.own _ (List.mem_of_getElem? (by rw [← look_eq]; exact hi))
  have hc : ∀ em, (Instr.checkKey em 10000 kt k).run P w = .ok () w := fun em => by obtain ⟨lx, hlx⟩ := hk; exact hK.check w em hlx
  have hst : (Instr.keyThatStays k k).run P w = .ok k w := by obtain ⟨lx, hlx⟩ := hk; exact hK.stays w hlx
  rcases run_find hK hk hks w with ⟨hf, hn⟩ | ⟨q, u, hf, hq⟩
  · refine ⟨_, ?_, h0 hn _ (hL.setObj (o' := mapW (l ++ [(k, v)])) hi)⟩
    simp only [Instr.mapUpdate, Sem.run_bind, run_underlying hu, Result.andThen_ok, rgm hb, hc, hf]
    rw [run_setObj_map _ hb]
    simp only [setBlock, mapW, entW_push, Nat.zero_add, List.length_append, List.length_cons, List.length_nil, List.push_toArray]
  · refine ⟨_, ?_, h1 q u hq _ (hL.setObj (o' := mapW (l.set q (k, v))) hi)⟩
    have hkey : (((entW 0 l).toArray[q]?).map (·.key)).getD k = k := by
      rw [List.getElem?_toArray, entW_get, hq]; simp
    simp only [Instr.mapUpdate, Sem.run_bind, run_underlying hu, Result.andThen_ok, rgm hb, hc, hf, hkey, hst]
    rw [run_setObj_map _ hb]
    simp only [setBlock, mapW, List.length_set]
    congr 3
    rw [← entW_set]
    simp
theorem UGenReq.nilPtrNe (hX : TabsOk P X) {o : Oper} {ρ : Operand → Value} {t yt : Nat} {x y : Operand} {a : Option Addr} {e : Nat} {ti : TI} {K : Value → Prop} (ho : o.op = .binOp .neq t x y yt) (hx : ρ x = .pointer a) (hy : ρ y = .pointer none)
    (ht : look X.T t = some (some ti)) (hd : ti.d = .ptr e) (h : K (.bool (!a.isNone))) : UGenReq P o ρ K := by
  have hex : execOp ρ o = (do pure (.value (← (do eqGuard .neq t x y (.pointer a) (.pointer none); binOp .neq t (.pointer a) (.pointer none) : Sem Value)))) := by
    simp only [execOp, ho, hx, hy]
  have hg : eqGuard .neq t x y (.pointer a) (.pointer none) = pure () := by simp [eqGuard]
  refine ⟨UOk.of_run (.bool (!a.isNone)) hex (fun w => ?_) h⟩
  rw [hg]
  simp only [Sem.run_bind, Sem.run_pure, Result.andThen_ok, binOp, run_eq_nilPtr (td_ptr (hX.t _ _ ht) hd)]
theorem QLdReq.ownC (hX : TabsOk P X) {t : Nat} {ti : TI} (ht : look X.T t = some (some ti)) (hd : ti.d.isAgg = false) {b o j : Nat} {cs : List Value} {te : TypeId} {fz : Nat × Nat} {v : Value} {K : Value → Prop}
    (hi : Lies L b (.cells (toArr cs) te fz)) (hv : cs[o + j]? = some v) (h : K v) : QLdReq P t (fun w => Loc m0 S w0 m L w) ((⟨b, o, none⟩ : Addr).add j) K := by
  rw [addr_add]
  exact zq hX ht hd hi (by rw [look_eq]; exact hv) h
theorem LdReq.ownC (hX : TabsOk P X) {t : Nat} {ti : TI} (ht : look X.T t = some (some ti)) (hd : ti.d.isAgg = false) {b o j : Nat} {cs : List Value} {te : TypeId} {fz : Nat × Nat} {v : Value} {K : Value → Prop}
    (hL : Loc m0 S w0 m L w) (hi : Lies L b (.cells (toArr cs) te fz)) (hv : cs[o + j]? = some v) (h : K v) : LdReq P t w ((⟨b, o, none⟩ : Addr).add j) K := by
  rw [addr_add]
  exact zl hX ht hd hL hi (by rw [look_eq]; exact hv) h
theorem alt2 {A B : Prop} (a : A) (b : B) : AltReq A B := ⟨⟨a, b⟩⟩
theorem LdReq.ownRow (hX : TabsOk P X) {t : Nat} {ti : TI} (ht : look X.T t = some (some ti)) (hd : ti.d.isAgg = true) {b o j : Nat} {cs r : List Value} {te : TypeId} {fz : Nat × Nat} {K : Value → Prop}
    (hL : Loc m0 S w0 m L w) (hi : Lies L b (.cells (toArr cs) te fz)) (hr : (cs.drop (o + j)).take ti.size = r) (hl : o + j + ti.size ≤ cs.length) (h : K (.agg (toArr r))) : LdReq P t w ((⟨b, o, none⟩ : Addr).add j) K := by
  rw [addr_add]
  subst hr
  exact zm hX ht hd hL hi (ble_of hl) h
theorem OwnS.rowAt {te size n c : Nat} {A : Option Addr} {rows : List (List Value)} {L1 : Own} (h : OwnS te size (.slice A n c) rows.flatten L1) (hs : ∀ r ∈ rows, r.length = size) (h0 : 0 < size) {i : Nat} {r : List Value} (hi : rows[i]? = some r) :
    ∃ g cur, A = some ⟨g, 0, none⟩ ∧ L1 = [(g, .cells (toArr cur) te (0, 0))] ∧ (cur.drop (i * size)).take size = r ∧ i * size + size ≤ cur.length := by
  have hil := (List.getElem?_eq_some_iff.1 hi).1
  have hfl := flat_len rows hs
  obtain ⟨k, hk, ⟨e, h1, _⟩ | ⟨g, cap, cur, e, h1, h2, h3, h4, h5⟩⟩ := h
  · cases e
    rw [hk, h1] at hfl
    have := Nat.mul_le_mul_right size (show 1 ≤ rows.length by omega)
    omega
  · cases e
    have hle : (i + 1) * size ≤ rows.length * size := Nat.mul_le_mul_right size hil
    rw [Nat.succ_mul] at hle
    have hkc := Nat.mul_le_mul_right size h2
    refine ⟨g, cur, rfl, h1, ?_, by omega⟩
    apply List.ext_getElem?
    intro j
    rw [List.getElem?_take]
    have hrl := hs r (List.mem_of_getElem? hi)
    by_cases hj : j < size
    · rw [if_pos hj, List.getElem?_drop]
      rw [← flat_get rows i j r hs hi hj, ← h5, List.getElem?_take_of_lt (by omega)]
    · rw [if_neg hj, List.getElem?_eq_none (by omega)]
def FnL (P : Program) (f : Nat) (args : List Value) (m : Mem) (L : Own) (v : Value) : Prop := Fn P f args m L fun m' L' u => m' = m ∧ L' = L ∧ u = v
theorem CallReq.li {L1 L2 : Own} {f : Nat} {args : List Value} {v : Value} {K : Value → World → Prop} (h : FnL P f args m L1 v) (hL : Loc m0 S w0 m (L1 ++ L2) w)
    (k : ∀ w', Loc m0 S w0 m (L1 ++ L2) w' → K v w') : CallReq P f (toArr args) w K :=
  CallReq.mk h hL fun _ _ _ w' hl _ ⟨e1, e2, e3⟩ => by subst e1 e2 e3; exact k w' hl
theorem CallReq.lo {f : Nat} {args : List Value} {v : Value} {K : Value → World → Prop} (h : FnL P f args m L v) (hL : Loc m0 S w0 m L w)
    (k : ∀ w', Loc m0 S w0 m L w' → K v w') : CallReq P f (toArr args) w K :=
  CallReq.li (L2 := []) h (by rw [List.append_nil]; exact hL) fun w' hl => k w' (by rw [List.append_nil] at hl; exact hl)
def FnM (P : Program) (f : Nat) (args : List Value) (m : Mem) (L : Own) (v : Value) : Prop := Fn P f args m L fun _ L' u => L' = L ∧ u = v
theorem CallReq.lm {L1 L2 : Own} {f : Nat} {args : List Value} {v : Value} {K : Value → World → Prop} (h : FnM P f args m L1 v) (hL : Loc m0 S w0 m (L1 ++ L2) w)
    (k : ∀ m' w', Mem.Le m m' → Loc m0 S w0 m' (L1 ++ L2) w' → K v w') : CallReq P f (toArr args) w K :=
  CallReq.mk h hL fun _ m' _ w' hl hm ⟨e2, e3⟩ => by subst e2 e3; exact k m' w' hm hl
end
end Go.Ev
namespace Go.Ev
open Go Go.Proofs
def tabT : List (Option TI) := [
  none,
  some (.mk .func 1 8 ([.nilFunc])),
  some (.mk (.int .i64) 1 8 ([.int .i64 0])),
  some (.mk (.int .i64) 1 8 ([.int .i64 0])),
  some (.mk .bool 1 1 ([.bool false])),
  some (.mk (.int .u8) 1 1 ([.int .u8 0])),
  some (.mk (.int .u8) 1 1 ([.int .u8 0])),
  some (.mk (.struct [(0, 2), (1, 3), (2, 4), (3, 6)]) 4 24 ([.int .i64 0, .int .i64 0, .bool false, .int .u8 0])),
  some (.mk (.struct [(0, 2), (1, 3), (2, 4), (3, 6)]) 4 24 ([.int .i64 0, .int .i64 0, .bool false, .int .u8 0])),
  some (.mk .str 1 16 ([.string (ByteArray.mk (Array.mk []))])),
  some (.mk .str 1 16 ([.string (ByteArray.mk (Array.mk []))])),
  some (.mk .str 1 16 ([.string (ByteArray.mk (Array.mk []))])),
  some (.mk (.int .u64) 1 8 ([.int .u64 0])),
  none,
  none,
  some (.mk (.ptr 197) 1 8 ([.pointer none])),
  some (.mk (.ptr 200) 1 8 ([.pointer none])),
  some (.mk (.ptr 208) 1 8 ([.pointer none])),
  none,
  none,
  some (.mk .iface 1 16 ([.nilIface])),
  some (.mk (.int .i32) 1 4 ([.int .i32 0])),
  some (.mk (.slice 30) 1 24 ([.slice none 0 0])),
  some (.mk (.slice 5) 1 24 ([.slice none 0 0])),
  some (.mk .func 1 8 ([.nilFunc])),
  some (.mk .func 1 8 ([.nilFunc])),
  some (.mk (.int .u64) 1 8 ([.int .u64 0])),
  some (.mk (.array 4 26) 4 32 ([.int .u64 0, .int .u64 0, .int .u64 0, .int .u64 0])),
  some (.mk (.array 4 26) 4 32 ([.int .u64 0, .int .u64 0, .int .u64 0, .int .u64 0])),
  some (.mk (.struct [(0, 3), (1, 28), (5, 22), (6, 3), (7, 3), (8, 4)]) 9 88 ([.int .i64 0, .int .u64 0, .int .u64 0, .int .u64 0, .int .u64 0, .slice none 0 0, .int .i64 0, .int .i64 0, .bool false])),
  some (.mk (.struct [(0, 3), (1, 28), (5, 22), (6, 3), (7, 3), (8, 4)]) 9 88 ([.int .i64 0, .int .u64 0, .int .u64 0, .int .u64 0, .int .u64 0, .slice none 0 0, .int .i64 0, .int .i64 0, .bool false])),
  some (.mk .func 1 8 ([.nilFunc])),
  some (.mk .func 1 8 ([.nilFunc])),
  some (.mk .func 1 8 ([.nilFunc])),
  some (.mk (.struct [(0, 22)]) 1 24 ([.slice none 0 0])),
  some (.mk (.struct [(0, 22)]) 1 24 ([.slice none 0 0])),
  some (.mk (.int .i64) 1 8 ([.int .i64 0])),
  none,
  some (.mk .func 1 8 ([.nilFunc])),
  some (.mk (.ptr 56) 1 8 ([.pointer none])),
  none,
  some (.mk .func 1 8 ([.nilFunc])),
  some (.mk .func 1 8 ([.nilFunc])),
  some (.mk .func 1 8 ([.nilFunc])),
  some (.mk .func 1 8 ([.nilFunc])),
  some (.mk .func 1 8 ([.nilFunc])),
  some (.mk .func 1 8 ([.nilFunc])),
  some (.mk (.ptr 64) 1 8 ([.pointer none])),
  some (.mk .func 1 8 ([.nilFunc])),
  some (.mk .func 1 8 ([.nilFunc])),
  some (.mk (.ptr 73) 1 8 ([.pointer none])),
  none,
  some (.mk .func 1 8 ([.nilFunc])),
  some (.mk .func 1 8 ([.nilFunc])),
  some (.mk (.slice 50) 1 24 ([.slice none 0 0])),
  some (.mk (.struct [(0, 54), (1, 4), (2, 5)]) 3 32 ([.slice none 0 0, .bool false, .int .u8 0])),
  some (.mk (.struct [(0, 54), (1, 4), (2, 5)]) 3 32 ([.slice none 0 0, .bool false, .int .u8 0])),
  none,
  some (.mk .func 1 8 ([.nilFunc])),
  some (.mk .func 1 8 ([.nilFunc])),
  some (.mk .func 1 8 ([.nilFunc])),
  some (.mk (.map 80 3) 1 8 ([.map none])),
  some (.mk (.slice 80) 1 24 ([.slice none 0 0])),
  some (.mk (.struct [(0, 62), (1, 61)]) 2 32 ([.slice none 0 0, .map none])),
  some (.mk (.struct [(0, 62), (1, 61)]) 2 32 ([.slice none 0 0, .map none])),
  none,
  some (.mk .func 1 8 ([.nilFunc])),
  some (.mk .func 1 8 ([.nilFunc])),
  some (.mk (.slice 108) 1 24 ([.slice none 0 0])),
  some (.mk (.slice 108) 1 24 ([.slice none 0 0])),
  none,
  some (.mk .func 1 8 ([.nilFunc])),
  some (.mk (.struct [(0, 47), (1, 69), (2, 69)]) 3 56 ([.pointer none, .slice none 0 0, .slice none 0 0])),
  some (.mk (.struct [(0, 47), (1, 69), (2, 69)]) 3 56 ([.pointer none, .slice none 0 0, .slice none 0 0])),
  some (.mk .func 1 8 ([.nilFunc])),
  some (.mk .func 1 8 ([.nilFunc])),
  some (.mk .func 1 8 ([.nilFunc])),
  some (.mk .func 1 8 ([.nilFunc])),
  some (.mk .func 1 8 ([.nilFunc])),
  some (.mk (.struct [(0, 3), (1, 28), (5, 3), (6, 3), (7, 4)]) 8 64 ([.int .i64 0, .int .u64 0, .int .u64 0, .int .u64 0, .int .u64 0, .int .i64 0, .int .i64 0, .bool false])),
  some (.mk (.struct [(0, 3), (1, 28), (5, 3), (6, 3), (7, 4)]) 8 64 ([.int .i64 0, .int .u64 0, .int .u64 0, .int .u64 0, .int .u64 0, .int .i64 0, .int .i64 0, .bool false])),
  none,
  some (.mk .func 1 8 ([.nilFunc])),
  some (.mk (.map 3 3) 1 8 ([.map none])),
  some (.mk (.struct [(0, 47), (1, 83)]) 2 16 ([.pointer none, .map none])),
  some (.mk (.struct [(0, 47), (1, 83)]) 2 16 ([.pointer none, .map none])),
  some (.mk (.ptr 103) 1 8 ([.pointer none])),
  some (.mk .func 1 8 ([.nilFunc])),
  some (.mk .func 1 8 ([.nilFunc])),
  some (.mk .func 1 8 ([.nilFunc])),
  some (.mk .func 1 8 ([.nilFunc])),
  some (.mk .func 1 8 ([.nilFunc])),
  some (.mk .func 1 8 ([.nilFunc])),
  some (.mk .func 1 8 ([.nilFunc])),
  some (.mk (.ptr 35) 1 8 ([.pointer none])),
  some (.mk (.ptr 97) 1 8 ([.pointer none])),
  some (.mk (.struct [(0, 47), (1, 44), (2, 36)]) 3 24 ([.pointer none, .nilFunc, .int .i64 0])),
  some (.mk (.struct [(0, 47), (1, 44), (2, 36)]) 3 24 ([.pointer none, .nilFunc, .int .i64 0])),
  some (.mk .func 1 8 ([.nilFunc])),
  none,
  some (.mk .func 1 8 ([.nilFunc])),
  some (.mk (.map 3 69) 1 8 ([.map none])),
  some (.mk (.struct [(0, 47), (1, 5), (2, 5), (3, 36), (4, 101), (5, 101)]) 6 40 ([.pointer none, .int .u8 0, .int .u8 0, .int .i64 0, .map none, .map none])),
  some (.mk (.struct [(0, 47), (1, 5), (2, 5), (3, 36), (4, 101), (5, 101)]) 6 40 ([.pointer none, .int .u8 0, .int .u8 0, .int .i64 0, .map none, .map none])),
  some (.mk .func 1 8 ([.nilFunc])),
  none,
  some (.mk .func 1 8 ([.nilFunc])),
  some (.mk .func 1 8 ([.nilFunc])),
  some (.mk (.slice 3) 1 24 ([.slice none 0 0])),
  some (.mk .func 1 8 ([.nilFunc])),
  some (.mk .func 1 8 ([.nilFunc])),
  some (.mk .func 1 8 ([.nilFunc])),
  some (.mk .func 1 8 ([.nilFunc])),
  some (.mk .func 1 8 ([.nilFunc])),
  some (.mk .func 1 8 ([.nilFunc])),
  some (.mk .func 1 8 ([.nilFunc])),
  some (.mk .func 1 8 ([.nilFunc])),
  some (.mk .func 1 8 ([.nilFunc])),
  some (.mk .func 1 8 ([.nilFunc])),
  some (.mk .func 1 8 ([.nilFunc])),
  some (.mk .func 1 8 ([.nilFunc])),
  some (.mk .func 1 8 ([.nilFunc])),
  some (.mk .func 1 8 ([.nilFunc])),
  some (.mk .func 1 8 ([.nilFunc])),
  some (.mk .func 1 8 ([.nilFunc])),
  some (.mk .func 1 8 ([.nilFunc])),
  some (.mk .func 1 8 ([.nilFunc])),
  some (.mk .func 1 8 ([.nilFunc])),
  some (.mk .func 1 8 ([.nilFunc])),
  some (.mk .func 1 8 ([.nilFunc])),
  some (.mk .func 1 8 ([.nilFunc])),
  some (.mk .func 1 8 ([.nilFunc])),
  some (.mk .func 1 8 ([.nilFunc])),
  some (.mk .func 1 8 ([.nilFunc])),
  some (.mk (.map 3 4) 1 8 ([.map none])),
  some (.mk (.struct [(0, 47), (1, 5), (2, 134)]) 3 24 ([.pointer none, .int .u8 0, .map none])),
  some (.mk (.struct [(0, 47), (1, 5), (2, 134)]) 3 24 ([.pointer none, .int .u8 0, .map none])),
  some (.mk .func 1 8 ([.nilFunc])),
  some (.mk .func 1 8 ([.nilFunc])),
  some (.mk .func 1 8 ([.nilFunc])),
  some (.mk .func 1 8 ([.nilFunc])),
  some (.mk .func 1 8 ([.nilFunc])),
  some (.mk .func 1 8 ([.nilFunc])),
  some (.mk (.slice 69) 1 24 ([.slice none 0 0])),
  some (.mk .func 1 8 ([.nilFunc])),
  some (.mk .func 1 8 ([.nilFunc])),
  some (.mk .func 1 8 ([.nilFunc])),
  some (.mk (.struct [(0, 3), (1, 118), (2, 118), (3, 146)]) 4 32 ([.int .i64 0, .nilFunc, .nilFunc, .nilFunc])),
  some (.mk (.struct [(0, 3), (1, 118), (2, 118), (3, 146)]) 4 32 ([.int .i64 0, .nilFunc, .nilFunc, .nilFunc])),
  some (.mk .func 1 8 ([.nilFunc])),
  some (.mk .func 1 8 ([.nilFunc])),
  some (.mk .func 1 8 ([.nilFunc])),
  some (.mk .func 1 8 ([.nilFunc])),
  some (.mk .func 1 8 ([.nilFunc])),
  some (.mk (.int .u64) 1 8 ([.int .u64 0])),
  none,
  some (.mk .func 1 8 ([.nilFunc])),
  some (.mk .func 1 8 ([.nilFunc])),
  some (.mk .func 1 8 ([.nilFunc])),
  some (.mk .func 1 8 ([.nilFunc])),
  some (.mk .func 1 8 ([.nilFunc])),
  some (.mk .func 1 8 ([.nilFunc])),
  some (.mk .func 1 8 ([.nilFunc])),
  some (.mk .func 1 8 ([.nilFunc])),
  some (.mk .func 1 8 ([.nilFunc])),
  some (.mk .func 1 8 ([.nilFunc])),
  some (.mk (.int .i64) 1 8 ([.int .i64 0])),
  none,
  some (.mk .func 1 8 ([.nilFunc])),
  some (.mk .func 1 8 ([.nilFunc])),
  some (.mk .func 1 8 ([.nilFunc])),
  some (.mk .func 1 8 ([.nilFunc])),
  some (.mk .func 1 8 ([.nilFunc])),
  some (.mk .func 1 8 ([.nilFunc])),
  some (.mk (.int .u32) 1 4 ([.int .u32 0])),
  some (.mk .func 1 8 ([.nilFunc])),
  some (.mk .func 1 8 ([.nilFunc])),
  some (.mk .func 1 8 ([.nilFunc])),
  some (.mk .func 1 8 ([.nilFunc])),
  some (.mk .func 1 8 ([.nilFunc])),
  some (.mk .func 1 8 ([.nilFunc])),
  some (.mk .func 1 8 ([.nilFunc])),
  some (.mk .func 1 8 ([.nilFunc])),
  some (.mk (.int .u64) 1 8 ([.int .u64 0])),
  some (.mk .func 1 8 ([.nilFunc])),
  some (.mk .func 1 8 ([.nilFunc])),
  some (.mk .func 1 8 ([.nilFunc])),
  some (.mk (.ptr 3) 1 8 ([.pointer none])),
  some (.mk .func 1 8 ([.nilFunc])),
  some (.mk .func 1 8 ([.nilFunc])),
  some (.mk .func 1 8 ([.nilFunc])),
  some (.mk (.ptr 183) 1 8 ([.pointer none])),
  none,
  some (.mk .func 1 8 ([.nilFunc])),
  some (.mk .func 1 8 ([.nilFunc])),
  some (.mk .func 1 8 ([.nilFunc])),
  none,
  none,
  some (.mk (.array 0 16) 0 0 ([])),
  none,
  none,
  some (.mk (.int .u8) 1 1 ([.int .u8 0])),
  some (.mk (.int .u8) 1 1 ([.int .u8 0])),
  some (.mk .func 1 8 ([.nilFunc])),
  some (.mk (.ptr 5) 1 8 ([.pointer none])),
  some (.mk (.int .i32) 1 4 ([.int .i32 0])),
  some (.mk (.int .i32) 1 4 ([.int .i32 0])),
  none,
  none,
  some (.mk .other 1 8 ([.pointer none]))]
def tabG : List Bool := [false, false, true, true, true, true, true, true, true, true, true, true, true, true, true, true, true, true, true, true, true, true, true, true, true, true, true, true, true, true, true, true, true, true, true, true, true, true, true, true, true, true, true, true, true, true, true, true, true, true, true, true, true, true, true, true, true, true, true, true, true, true, true, true, true, true, true, true, true, true, true, true, true, true, true, true, true, true, true, true, true, true, true, true, true, true, true, true, true, true, true, true, true, true, true, true, true, true, true, true, true, true, true, true, true, true, true, true, true, true, true, true, true, true, true, true, true, true, true, true, true, true, true, true, true, true, true, true, true, true, true, true, true, true, true, true, true, true, true, true, true, true, true, true, true, true, true, true, true, true, true, true, true, true, true, true, true, true, true, true, true, true, true, true, true, true, true, true, true, true, true, true, true, true, true, true, true, false, false, false, false, false, false, false, false, false, false, false, false, false, false, false, false, false]
def X : Tab := ⟨tabT, tabG⟩
theorem tab_t1 : tiOf Tryz.prog 1 = some (.mk .func 1 8 ([.nilFunc])) := by kernel_rfl
theorem tab_t2 : tiOf Tryz.prog 2 = some (.mk (.int .i64) 1 8 ([.int .i64 0])) := by kernel_rfl
theorem tab_t3 : tiOf Tryz.prog 3 = some (.mk (.int .i64) 1 8 ([.int .i64 0])) := by kernel_rfl
theorem tab_t4 : tiOf Tryz.prog 4 = some (.mk .bool 1 1 ([.bool false])) := by kernel_rfl
theorem tab_t5 : tiOf Tryz.prog 5 = some (.mk (.int .u8) 1 1 ([.int .u8 0])) := by kernel_rfl
theorem tab_t6 : tiOf Tryz.prog 6 = some (.mk (.int .u8) 1 1 ([.int .u8 0])) := by kernel_rfl
theorem tab_t7 : tiOf Tryz.prog 7 = some (.mk (.struct [(0, 2), (1, 3), (2, 4), (3, 6)]) 4 24 ([.int .i64 0, .int .i64 0, .bool false, .int .u8 0])) := by kernel_rfl
theorem tab_t8 : tiOf Tryz.prog 8 = some (.mk (.struct [(0, 2), (1, 3), (2, 4), (3, 6)]) 4 24 ([.int .i64 0, .int .i64 0, .bool false, .int .u8 0])) := by kernel_rfl
theorem tab_t9 : tiOf Tryz.prog 9 = some (.mk .str 1 16 ([.string (ByteArray.mk (Array.mk []))])) := by kernel_rfl
theorem tab_t10 : tiOf Tryz.prog 10 = some (.mk .str 1 16 ([.string (ByteArray.mk (Array.mk []))])) := by kernel_rfl
theorem tab_t11 : tiOf Tryz.prog 11 = some (.mk .str 1 16 ([.string (ByteArray.mk (Array.mk []))])) := by kernel_rfl
theorem tab_t12 : tiOf Tryz.prog 12 = some (.mk (.int .u64) 1 8 ([.int .u64 0])) := by kernel_rfl
theorem tab_t15 : tiOf Tryz.prog 15 = some (.mk (.ptr 197) 1 8 ([.pointer none])) := by kernel_rfl
theorem tab_t16 : tiOf Tryz.prog 16 = some (.mk (.ptr 200) 1 8 ([.pointer none])) := by kernel_rfl
theorem tab_t17 : tiOf Tryz.prog 17 = some (.mk (.ptr 208) 1 8 ([.pointer none])) := by kernel_rfl
theorem tab_t20 : tiOf Tryz.prog 20 = some (.mk .iface 1 16 ([.nilIface])) := by kernel_rfl
theorem tab_t21 : tiOf Tryz.prog 21 = some (.mk (.int .i32) 1 4 ([.int .i32 0])) := by kernel_rfl
theorem tab_t22 : tiOf Tryz.prog 22 = some (.mk (.slice 30) 1 24 ([.slice none 0 0])) := by kernel_rfl
theorem tab_t23 : tiOf Tryz.prog 23 = some (.mk (.slice 5) 1 24 ([.slice none 0 0])) := by kernel_rfl
theorem tab_t24 : tiOf Tryz.prog 24 = some (.mk .func 1 8 ([.nilFunc])) := by kernel_rfl
theorem tab_t25 : tiOf Tryz.prog 25 = some (.mk .func 1 8 ([.nilFunc])) := by kernel_rfl
theorem tab_t26 : tiOf Tryz.prog 26 = some (.mk (.int .u64) 1 8 ([.int .u64 0])) := by kernel_rfl
theorem tab_t27 : tiOf Tryz.prog 27 = some (.mk (.array 4 26) 4 32 ([.int .u64 0, .int .u64 0, .int .u64 0, .int .u64 0])) := by kernel_rfl
theorem tab_t28 : tiOf Tryz.prog 28 = some (.mk (.array 4 26) 4 32 ([.int .u64 0, .int .u64 0, .int .u64 0, .int .u64 0])) := by kernel_rfl
theorem tab_t29 : tiOf Tryz.prog 29 = some (.mk (.struct [(0, 3), (1, 28), (5, 22), (6, 3), (7, 3), (8, 4)]) 9 88 ([.int .i64 0, .int .u64 0, .int .u64 0, .int .u64 0, .int .u64 0, .slice none 0 0, .int .i64 0, .int .i64 0, .bool false])) := by kernel_rfl
theorem tab_t30 : tiOf Tryz.prog 30 = some (.mk (.struct [(0, 3), (1, 28), (5, 22), (6, 3), (7, 3), (8, 4)]) 9 88 ([.int .i64 0, .int .u64 0, .int .u64 0, .int .u64 0, .int .u64 0, .slice none 0 0, .int .i64 0, .int .i64 0, .bool false])) := by kernel_rfl
theorem tab_t31 : tiOf Tryz.prog 31 = some (.mk .func 1 8 ([.nilFunc])) := by kernel_rfl
theorem tab_t32 : tiOf Tryz.prog 32 = some (.mk .func 1 8 ([.nilFunc])) := by kernel_rfl
theorem tab_t33 : tiOf Tryz.prog 33 = some (.mk .func 1 8 ([.nilFunc])) := by kernel_rfl
theorem tab_t34 : tiOf Tryz.prog 34 = some (.mk (.struct [(0, 22)]) 1 24 ([.slice none 0 0])) := by kernel_rfl
theorem tab_t35 : tiOf Tryz.prog 35 = some (.mk (.struct [(0, 22)]) 1 24 ([.slice none 0 0])) := by kernel_rfl
theorem tab_t36 : tiOf Tryz.prog 36 = some (.mk (.int .i64) 1 8 ([.int .i64 0])) := by kernel_rfl
theorem tab_t38 : tiOf Tryz.prog 38 = some (.mk .func 1 8 ([.nilFunc])) := by kernel_rfl
theorem tab_t39 : tiOf Tryz.prog 39 = some (.mk (.ptr 56) 1 8 ([.pointer none])) := by kernel_rfl
theorem tab_t41 : tiOf Tryz.prog 41 = some (.mk .func 1 8 ([.nilFunc])) := by kernel_rfl
theorem tab_t42 : tiOf Tryz.prog 42 = some (.mk .func 1 8 ([.nilFunc])) := by kernel_rfl
theorem tab_t43 : tiOf Tryz.prog 43 = some (.mk .func 1 8 ([.nilFunc])) := by kernel_rfl
theorem tab_t44 : tiOf Tryz.prog 44 = some (.mk .func 1 8 ([.nilFunc])) := by kernel_rfl
theorem tab_t45 : tiOf Tryz.prog 45 = some (.mk .func 1 8 ([.nilFunc])) := by kernel_rfl
theorem tab_t46 : tiOf Tryz.prog 46 = some (.mk .func 1 8 ([.nilFunc])) := by kernel_rfl
theorem tab_t47 : tiOf Tryz.prog 47 = some (.mk (.ptr 64) 1 8 ([.pointer none])) := by kernel_rfl
theorem tab_t48 : tiOf Tryz.prog 48 = some (.mk .func 1 8 ([.nilFunc])) := by kernel_rfl
theorem tab_t49 : tiOf Tryz.prog 49 = some (.mk .func 1 8 ([.nilFunc])) := by kernel_rfl
theorem tab_t50 : tiOf Tryz.prog 50 = some (.mk (.ptr 73) 1 8 ([.pointer none])) := by kernel_rfl
theorem tab_t52 : tiOf Tryz.prog 52 = some (.mk .func 1 8 ([.nilFunc])) := by kernel_rfl
theorem tab_t53 : tiOf Tryz.prog 53 = some (.mk .func 1 8 ([.nilFunc])) := by kernel_rfl
theorem tab_t54 : tiOf Tryz.prog 54 = some (.mk (.slice 50) 1 24 ([.slice none 0 0])) := by kernel_rfl
theorem tab_t55 : tiOf Tryz.prog 55 = some (.mk (.struct [(0, 54), (1, 4), (2, 5)]) 3 32 ([.slice none 0 0, .bool false, .int .u8 0])) := by kernel_rfl
theorem tab_t56 : tiOf Tryz.prog 56 = some (.mk (.struct [(0, 54), (1, 4), (2, 5)]) 3 32 ([.slice none 0 0, .bool false, .int .u8 0])) := by kernel_rfl
theorem tab_t58 : tiOf Tryz.prog 58 = some (.mk .func 1 8 ([.nilFunc])) := by kernel_rfl
theorem tab_t59 : tiOf Tryz.prog 59 = some (.mk .func 1 8 ([.nilFunc])) := by kernel_rfl
theorem tab_t60 : tiOf Tryz.prog 60 = some (.mk .func 1 8 ([.nilFunc])) := by kernel_rfl
theorem tab_t61 : tiOf Tryz.prog 61 = some (.mk (.map 80 3) 1 8 ([.map none])) := by kernel_rfl
theorem tab_t62 : tiOf Tryz.prog 62 = some (.mk (.slice 80) 1 24 ([.slice none 0 0])) := by kernel_rfl
theorem tab_t63 : tiOf Tryz.prog 63 = some (.mk (.struct [(0, 62), (1, 61)]) 2 32 ([.slice none 0 0, .map none])) := by kernel_rfl
theorem tab_t64 : tiOf Tryz.prog 64 = some (.mk (.struct [(0, 62), (1, 61)]) 2 32 ([.slice none 0 0, .map none])) := by kernel_rfl
theorem tab_t66 : tiOf Tryz.prog 66 = some (.mk .func 1 8 ([.nilFunc])) := by kernel_rfl
theorem tab_t67 : tiOf Tryz.prog 67 = some (.mk .func 1 8 ([.nilFunc])) := by kernel_rfl
theorem tab_t68 : tiOf Tryz.prog 68 = some (.mk (.slice 108) 1 24 ([.slice none 0 0])) := by kernel_rfl
theorem tab_t69 : tiOf Tryz.prog 69 = some (.mk (.slice 108) 1 24 ([.slice none 0 0])) := by kernel_rfl
theorem tab_t71 : tiOf Tryz.prog 71 = some (.mk .func 1 8 ([.nilFunc])) := by kernel_rfl
theorem tab_t72 : tiOf Tryz.prog 72 = some (.mk (.struct [(0, 47), (1, 69), (2, 69)]) 3 56 ([.pointer none, .slice none 0 0, .slice none 0 0])) := by kernel_rfl
theorem tab_t73 : tiOf Tryz.prog 73 = some (.mk (.struct [(0, 47), (1, 69), (2, 69)]) 3 56 ([.pointer none, .slice none 0 0, .slice none 0 0])) := by kernel_rfl
theorem tab_t74 : tiOf Tryz.prog 74 = some (.mk .func 1 8 ([.nilFunc])) := by kernel_rfl
theorem tab_t75 : tiOf Tryz.prog 75 = some (.mk .func 1 8 ([.nilFunc])) := by kernel_rfl
theorem tab_t76 : tiOf Tryz.prog 76 = some (.mk .func 1 8 ([.nilFunc])) := by kernel_rfl
theorem tab_t77 : tiOf Tryz.prog 77 = some (.mk .func 1 8 ([.nilFunc])) := by kernel_rfl
theorem tab_t78 : tiOf Tryz.prog 78 = some (.mk .func 1 8 ([.nilFunc])) := by kernel_rfl
theorem tab_t79 : tiOf Tryz.prog 79 = some (.mk (.struct [(0, 3), (1, 28), (5, 3), (6, 3), (7, 4)]) 8 64 ([.int .i64 0, .int .u64 0, .int .u64 0, .int .u64 0, .int .u64 0, .int .i64 0, .int .i64 0, .bool false])) := by kernel_rfl
theorem tab_t80 : tiOf Tryz.prog 80 = some (.mk (.struct [(0, 3), (1, 28), (5, 3), (6, 3), (7, 4)]) 8 64 ([.int .i64 0, .int .u64 0, .int .u64 0, .int .u64 0, .int .u64 0, .int .i64 0, .int .i64 0, .bool false])) := by kernel_rfl
theorem tab_t82 : tiOf Tryz.prog 82 = some (.mk .func 1 8 ([.nilFunc])) := by kernel_rfl
theorem tab_t83 : tiOf Tryz.prog 83 = some (.mk (.map 3 3) 1 8 ([.map none])) := by kernel_rfl
theorem tab_t84 : tiOf Tryz.prog 84 = some (.mk (.struct [(0, 47), (1, 83)]) 2 16 ([.pointer none, .map none])) := by kernel_rfl
theorem tab_t85 : tiOf Tryz.prog 85 = some (.mk (.struct [(0, 47), (1, 83)]) 2 16 ([.pointer none, .map none])) := by kernel_rfl
theorem tab_t86 : tiOf Tryz.prog 86 = some (.mk (.ptr 103) 1 8 ([.pointer none])) := by kernel_rfl
theorem tab_t87 : tiOf Tryz.prog 87 = some (.mk .func 1 8 ([.nilFunc])) := by kernel_rfl
theorem tab_t88 : tiOf Tryz.prog 88 = some (.mk .func 1 8 ([.nilFunc])) := by kernel_rfl
theorem tab_t89 : tiOf Tryz.prog 89 = some (.mk .func 1 8 ([.nilFunc])) := by kernel_rfl
theorem tab_t90 : tiOf Tryz.prog 90 = some (.mk .func 1 8 ([.nilFunc])) := by kernel_rfl
theorem tab_t91 : tiOf Tryz.prog 91 = some (.mk .func 1 8 ([.nilFunc])) := by kernel_rfl
theorem tab_t92 : tiOf Tryz.prog 92 = some (.mk .func 1 8 ([.nilFunc])) := by kernel_rfl
theorem tab_t93 : tiOf Tryz.prog 93 = some (.mk .func 1 8 ([.nilFunc])) := by kernel_rfl
theorem tab_t94 : tiOf Tryz.prog 94 = some (.mk (.ptr 35) 1 8 ([.pointer none])) := by kernel_rfl
theorem tab_t95 : tiOf Tryz.prog 95 = some (.mk (.ptr 97) 1 8 ([.pointer none])) := by kernel_rfl
theorem tab_t96 : tiOf Tryz.prog 96 = some (.mk (.struct [(0, 47), (1, 44), (2, 36)]) 3 24 ([.pointer none, .nilFunc, .int .i64 0])) := by kernel_rfl
theorem tab_t97 : tiOf Tryz.prog 97 = some (.mk (.struct [(0, 47), (1, 44), (2, 36)]) 3 24 ([.pointer none, .nilFunc, .int .i64 0])) := by kernel_rfl
theorem tab_t98 : tiOf Tryz.prog 98 = some (.mk .func 1 8 ([.nilFunc])) := by kernel_rfl
theorem tab_t100 : tiOf Tryz.prog 100 = some (.mk .func 1 8 ([.nilFunc])) := by kernel_rfl
theorem tab_t101 : tiOf Tryz.prog 101 = some (.mk (.map 3 69) 1 8 ([.map none])) := by kernel_rfl
theorem tab_t102 : tiOf Tryz.prog 102 = some (.mk (.struct [(0, 47), (1, 5), (2, 5), (3, 36), (4, 101), (5, 101)]) 6 40 ([.pointer none, .int .u8 0, .int .u8 0, .int .i64 0, .map none, .map none])) := by kernel_rfl
theorem tab_t103 : tiOf Tryz.prog 103 = some (.mk (.struct [(0, 47), (1, 5), (2, 5), (3, 36), (4, 101), (5, 101)]) 6 40 ([.pointer none, .int .u8 0, .int .u8 0, .int .i64 0, .map none, .map none])) := by kernel_rfl
theorem tab_t104 : tiOf Tryz.prog 104 = some (.mk .func 1 8 ([.nilFunc])) := by kernel_rfl
theorem tab_t106 : tiOf Tryz.prog 106 = some (.mk .func 1 8 ([.nilFunc])) := by kernel_rfl
theorem tab_t107 : tiOf Tryz.prog 107 = some (.mk .func 1 8 ([.nilFunc])) := by kernel_rfl
theorem tab_t108 : tiOf Tryz.prog 108 = some (.mk (.slice 3) 1 24 ([.slice none 0 0])) := by kernel_rfl
theorem tab_t109 : tiOf Tryz.prog 109 = some (.mk .func 1 8 ([.nilFunc])) := by kernel_rfl
theorem tab_t110 : tiOf Tryz.prog 110 = some (.mk .func 1 8 ([.nilFunc])) := by kernel_rfl
theorem tab_t111 : tiOf Tryz.prog 111 = some (.mk .func 1 8 ([.nilFunc])) := by kernel_rfl
theorem tab_t112 : tiOf Tryz.prog 112 = some (.mk .func 1 8 ([.nilFunc])) := by kernel_rfl
theorem tab_t113 : tiOf Tryz.prog 113 = some (.mk .func 1 8 ([.nilFunc])) := by kernel_rfl
theorem tab_t114 : tiOf Tryz.prog 114 = some (.mk .func 1 8 ([.nilFunc])) := by kernel_rfl
theorem tab_t115 : tiOf Tryz.prog 115 = some (.mk .func 1 8 ([.nilFunc])) := by kernel_rfl
theorem tab_t116 : tiOf Tryz.prog 116 = some (.mk .func 1 8 ([.nilFunc])) := by kernel_rfl
theorem tab_t117 : tiOf Tryz.prog 117 = some (.mk .func 1 8 ([.nilFunc])) := by kernel_rfl
theorem tab_t118 : tiOf Tryz.prog 118 = some (.mk .func 1 8 ([.nilFunc])) := by kernel_rfl
theorem tab_t119 : tiOf Tryz.prog 119 = some (.mk .func 1 8 ([.nilFunc])) := by kernel_rfl
theorem tab_t120 : tiOf Tryz.prog 120 = some (.mk .func 1 8 ([.nilFunc])) := by kernel_rfl
theorem tab_t121 : tiOf Tryz.prog 121 = some (.mk .func 1 8 ([.nilFunc])) := by kernel_rfl
theorem tab_t122 : tiOf Tryz.prog 122 = some (.mk .func 1 8 ([.nilFunc])) := by kernel_rfl
theorem tab_t123 : tiOf Tryz.prog 123 = some (.mk .func 1 8 ([.nilFunc])) := by kernel_rfl
theorem tab_t124 : tiOf Tryz.prog 124 = some (.mk .func 1 8 ([.nilFunc])) := by kernel_rfl
theorem tab_t125 : tiOf Tryz.prog 125 = some (.mk .func 1 8 ([.nilFunc])) := by kernel_rfl
theorem tab_t126 : tiOf Tryz.prog 126 = some (.mk .func 1 8 ([.nilFunc])) := by kernel_rfl
theorem tab_t127 : tiOf Tryz.prog 127 = some (.mk .func 1 8 ([.nilFunc])) := by kernel_rfl
theorem tab_t128 : tiOf Tryz.prog 128 = some (.mk .func 1 8 ([.nilFunc])) := by kernel_rfl
theorem tab_t129 : tiOf Tryz.prog 129 = some (.mk .func 1 8 ([.nilFunc])) := by kernel_rfl
theorem tab_t130 : tiOf Tryz.prog 130 = some (.mk .func 1 8 ([.nilFunc])) := by kernel_rfl
theorem tab_t131 : tiOf Tryz.prog 131 = some (.mk .func 1 8 ([.nilFunc])) := by kernel_rfl
theorem tab_t132 : tiOf Tryz.prog 132 = some (.mk .func 1 8 ([.nilFunc])) := by kernel_rfl
theorem tab_t133 : tiOf Tryz.prog 133 = some (.mk .func 1 8 ([.nilFunc])) := by kernel_rfl
theorem tab_t134 : tiOf Tryz.prog 134 = some (.mk (.map 3 4) 1 8 ([.map none])) := by kernel_rfl
theorem tab_t135 : tiOf Tryz.prog 135 = some (.mk (.struct [(0, 47), (1, 5), (2, 134)]) 3 24 ([.pointer none, .int .u8 0, .map none])) := by kernel_rfl
theorem tab_t136 : tiOf Tryz.prog 136 = some (.mk (.struct [(0, 47), (1, 5), (2, 134)]) 3 24 ([.pointer none, .int .u8 0, .map none])) := by kernel_rfl
theorem tab_t137 : tiOf Tryz.prog 137 = some (.mk .func 1 8 ([.nilFunc])) := by kernel_rfl
theorem tab_t138 : tiOf Tryz.prog 138 = some (.mk .func 1 8 ([.nilFunc])) := by kernel_rfl
theorem tab_t139 : tiOf Tryz.prog 139 = some (.mk .func 1 8 ([.nilFunc])) := by kernel_rfl
theorem tab_t140 : tiOf Tryz.prog 140 = some (.mk .func 1 8 ([.nilFunc])) := by kernel_rfl
theorem tab_t141 : tiOf Tryz.prog 141 = some (.mk .func 1 8 ([.nilFunc])) := by kernel_rfl
theorem tab_t142 : tiOf Tryz.prog 142 = some (.mk .func 1 8 ([.nilFunc])) := by kernel_rfl
theorem tab_t143 : tiOf Tryz.prog 143 = some (.mk (.slice 69) 1 24 ([.slice none 0 0])) := by kernel_rfl
theorem tab_t144 : tiOf Tryz.prog 144 = some (.mk .func 1 8 ([.nilFunc])) := by kernel_rfl
theorem tab_t145 : tiOf Tryz.prog 145 = some (.mk .func 1 8 ([.nilFunc])) := by kernel_rfl
theorem tab_t146 : tiOf Tryz.prog 146 = some (.mk .func 1 8 ([.nilFunc])) := by kernel_rfl
theorem tab_t147 : tiOf Tryz.prog 147 = some (.mk (.struct [(0, 3), (1, 118), (2, 118), (3, 146)]) 4 32 ([.int .i64 0, .nilFunc, .nilFunc, .nilFunc])) := by kernel_rfl
theorem tab_t148 : tiOf Tryz.prog 148 = some (.mk (.struct [(0, 3), (1, 118), (2, 118), (3, 146)]) 4 32 ([.int .i64 0, .nilFunc, .nilFunc, .nilFunc])) := by kernel_rfl
theorem tab_t149 : tiOf Tryz.prog 149 = some (.mk .func 1 8 ([.nilFunc])) := by kernel_rfl
theorem tab_t150 : tiOf Tryz.prog 150 = some (.mk .func 1 8 ([.nilFunc])) := by kernel_rfl
theorem tab_t151 : tiOf Tryz.prog 151 = some (.mk .func 1 8 ([.nilFunc])) := by kernel_rfl
theorem tab_t152 : tiOf Tryz.prog 152 = some (.mk .func 1 8 ([.nilFunc])) := by kernel_rfl
theorem tab_t153 : tiOf Tryz.prog 153 = some (.mk .func 1 8 ([.nilFunc])) := by kernel_rfl
theorem tab_t154 : tiOf Tryz.prog 154 = some (.mk (.int .u64) 1 8 ([.int .u64 0])) := by kernel_rfl
theorem tab_t156 : tiOf Tryz.prog 156 = some (.mk .func 1 8 ([.nilFunc])) := by kernel_rfl
theorem tab_t157 : tiOf Tryz.prog 157 = some (.mk .func 1 8 ([.nilFunc])) := by kernel_rfl
theorem tab_t158 : tiOf Tryz.prog 158 = some (.mk .func 1 8 ([.nilFunc])) := by kernel_rfl
theorem tab_t159 : tiOf Tryz.prog 159 = some (.mk .func 1 8 ([.nilFunc])) := by kernel_rfl
theorem tab_t160 : tiOf Tryz.prog 160 = some (.mk .func 1 8 ([.nilFunc])) := by kernel_rfl
theorem tab_t161 : tiOf Tryz.prog 161 = some (.mk .func 1 8 ([.nilFunc])) := by kernel_rfl
theorem tab_t162 : tiOf Tryz.prog 162 = some (.mk .func 1 8 ([.nilFunc])) := by kernel_rfl
theorem tab_t163 : tiOf Tryz.prog 163 = some (.mk .func 1 8 ([.nilFunc])) := by kernel_rfl
theorem tab_t164 : tiOf Tryz.prog 164 = some (.mk .func 1 8 ([.nilFunc])) := by kernel_rfl
theorem tab_t165 : tiOf Tryz.prog 165 = some (.mk .func 1 8 ([.nilFunc])) := by kernel_rfl
theorem tab_t166 : tiOf Tryz.prog 166 = some (.mk (.int .i64) 1 8 ([.int .i64 0])) := by kernel_rfl
theorem tab_t168 : tiOf Tryz.prog 168 = some (.mk .func 1 8 ([.nilFunc])) := by kernel_rfl
theorem tab_t169 : tiOf Tryz.prog 169 = some (.mk .func 1 8 ([.nilFunc])) := by kernel_rfl
theorem tab_t170 : tiOf Tryz.prog 170 = some (.mk .func 1 8 ([.nilFunc])) := by kernel_rfl
theorem tab_t171 : tiOf Tryz.prog 171 = some (.mk .func 1 8 ([.nilFunc])) := by kernel_rfl
theorem tab_t172 : tiOf Tryz.prog 172 = some (.mk .func 1 8 ([.nilFunc])) := by kernel_rfl
theorem tab_t173 : tiOf Tryz.prog 173 = some (.mk .func 1 8 ([.nilFunc])) := by kernel_rfl
theorem tab_t174 : tiOf Tryz.prog 174 = some (.mk (.int .u32) 1 4 ([.int .u32 0])) := by kernel_rfl
theorem tab_t175 : tiOf Tryz.prog 175 = some (.mk .func 1 8 ([.nilFunc])) := by kernel_rfl
theorem tab_t176 : tiOf Tryz.prog 176 = some (.mk .func 1 8 ([.nilFunc])) := by kernel_rfl
theorem tab_t177 : tiOf Tryz.prog 177 = some (.mk .func 1 8 ([.nilFunc])) := by kernel_rfl
theorem tab_t178 : tiOf Tryz.prog 178 = some (.mk .func 1 8 ([.nilFunc])) := by kernel_rfl
theorem tab_t179 : tiOf Tryz.prog 179 = some (.mk .func 1 8 ([.nilFunc])) := by kernel_rfl
theorem tab_t180 : tiOf Tryz.prog 180 = some (.mk .func 1 8 ([.nilFunc])) := by kernel_rfl
theorem tab_t181 : tiOf Tryz.prog 181 = some (.mk .func 1 8 ([.nilFunc])) := by kernel_rfl
theorem tab_t182 : tiOf Tryz.prog 182 = some (.mk .func 1 8 ([.nilFunc])) := by kernel_rfl
theorem tab_t183 : tiOf Tryz.prog 183 = some (.mk (.int .u64) 1 8 ([.int .u64 0])) := by kernel_rfl
theorem tab_t184 : tiOf Tryz.prog 184 = some (.mk .func 1 8 ([.nilFunc])) := by kernel_rfl
theorem tab_t185 : tiOf Tryz.prog 185 = some (.mk .func 1 8 ([.nilFunc])) := by kernel_rfl
theorem tab_t186 : tiOf Tryz.prog 186 = some (.mk .func 1 8 ([.nilFunc])) := by kernel_rfl
theorem tab_t187 : tiOf Tryz.prog 187 = some (.mk (.ptr 3) 1 8 ([.pointer none])) := by kernel_rfl
theorem tab_t188 : tiOf Tryz.prog 188 = some (.mk .func 1 8 ([.nilFunc])) := by kernel_rfl
theorem tab_t189 : tiOf Tryz.prog 189 = some (.mk .func 1 8 ([.nilFunc])) := by kernel_rfl
theorem tab_t190 : tiOf Tryz.prog 190 = some (.mk .func 1 8 ([.nilFunc])) := by kernel_rfl
theorem tab_t191 : tiOf Tryz.prog 191 = some (.mk (.ptr 183) 1 8 ([.pointer none])) := by kernel_rfl
theorem tab_t193 : tiOf Tryz.prog 193 = some (.mk .func 1 8 ([.nilFunc])) := by kernel_rfl
theorem tab_t194 : tiOf Tryz.prog 194 = some (.mk .func 1 8 ([.nilFunc])) := by kernel_rfl
theorem tab_t195 : tiOf Tryz.prog 195 = some (.mk .func 1 8 ([.nilFunc])) := by kernel_rfl
theorem tab_t198 : tiOf Tryz.prog 198 = some (.mk (.array 0 16) 0 0 ([])) := by kernel_rfl
theorem tab_t201 : tiOf Tryz.prog 201 = some (.mk (.int .u8) 1 1 ([.int .u8 0])) := by kernel_rfl
theorem tab_t202 : tiOf Tryz.prog 202 = some (.mk (.int .u8) 1 1 ([.int .u8 0])) := by kernel_rfl
theorem tab_t203 : tiOf Tryz.prog 203 = some (.mk .func 1 8 ([.nilFunc])) := by kernel_rfl
theorem tab_t204 : tiOf Tryz.prog 204 = some (.mk (.ptr 5) 1 8 ([.pointer none])) := by kernel_rfl
theorem tab_t205 : tiOf Tryz.prog 205 = some (.mk (.int .i32) 1 4 ([.int .i32 0])) := by kernel_rfl
theorem tab_t206 : tiOf Tryz.prog 206 = some (.mk (.int .i32) 1 4 ([.int .i32 0])) := by kernel_rfl
theorem tab_t209 : tiOf Tryz.prog 209 = some (.mk .other 1 8 ([.pointer none])) := by kernel_rfl
theorem tab_all : tabAll Tryz.prog 0 tabT := by
  refine And.intro tab_t1 ?_
  refine And.intro tab_t2 ?_
  refine And.intro tab_t3 ?_
  refine And.intro tab_t4 ?_
  refine And.intro tab_t5 ?_
  refine And.intro tab_t6 ?_
  refine And.intro tab_t7 ?_
  refine And.intro tab_t8 ?_
  refine And.intro tab_t9 ?_
  refine And.intro tab_t10 ?_
  refine And.intro tab_t11 ?_
  refine And.intro tab_t12 ?_
  refine And.intro tab_t15 ?_
  refine And.intro tab_t16 ?_
  refine And.intro tab_t17 ?_
  refine And.intro tab_t20 ?_
  refine And.intro tab_t21 ?_
  refine And.intro tab_t22 ?_
  refine And.intro tab_t23 ?_
  refine And.intro tab_t24 ?_
  refine And.intro tab_t25 ?_
  refine And.intro tab_t26 ?_
  refine And.intro tab_t27 ?_
  refine And.intro tab_t28 ?_
  refine And.intro tab_t29 ?_
  refine And.intro tab_t30 ?_
  refine And.intro tab_t31 ?_
  refine And.intro tab_t32 ?_
  refine And.intro tab_t33 ?_
  refine And.intro tab_t34 ?_
  refine And.intro tab_t35 ?_
  refine And.intro tab_t36 ?_
  refine And.intro tab_t38 ?_
  refine And.intro tab_t39 ?_
  refine And.intro tab_t41 ?_
  refine And.intro tab_t42 ?_
  refine And.intro tab_t43 ?_
  refine And.intro tab_t44 ?_
  refine And.intro tab_t45 ?_
  refine And.intro tab_t46 ?_
  refine And.intro tab_t47 ?_
  refine And.intro tab_t48 ?_
  refine And.intro tab_t49 ?_
  refine And.intro tab_t50 ?_
  refine And.intro tab_t52 ?_
  refine And.intro tab_t53 ?_
  refine And.intro tab_t54 ?_
  refine And.intro tab_t55 ?_
  refine And.intro tab_t56 ?_
  refine And.intro tab_t58 ?_
  refine And.intro tab_t59 ?_
  refine And.intro tab_t60 ?_
  refine And.intro tab_t61 ?_
  refine And.intro tab_t62 ?_
  refine And.intro tab_t63 ?_
  refine And.intro tab_t64 ?_
  refine And.intro tab_t66 ?_
  refine And.intro tab_t67 ?_
  refine And.intro tab_t68 ?_
  refine And.intro tab_t69 ?_
  refine And.intro tab_t71 ?_
  refine And.intro tab_t72 ?_
  refine And.intro tab_t73 ?_
  refine And.intro tab_t74 ?_
  refine And.intro tab_t75 ?_
  refine And.intro tab_t76 ?_
  refine And.intro tab_t77 ?_
  refine And.intro tab_t78 ?_
  refine And.intro tab_t79 ?_
  refine And.intro tab_t80 ?_
  refine And.intro tab_t82 ?_
  refine And.intro tab_t83 ?_
  refine And.intro tab_t84 ?_
  refine And.intro tab_t85 ?_
  refine And.intro tab_t86 ?_
  refine And.intro tab_t87 ?_
  refine And.intro tab_t88 ?_
  refine And.intro tab_t89 ?_
  refine And.intro tab_t90 ?_
  refine And.intro tab_t91 ?_
  refine And.intro tab_t92 ?_
  refine And.intro tab_t93 ?_
  refine And.intro tab_t94 ?_
  refine And.intro tab_t95 ?_
  refine And.intro tab_t96 ?_
  refine And.intro tab_t97 ?_
  refine And.intro tab_t98 ?_
  refine And.intro tab_t100 ?_
  refine And.intro tab_t101 ?_
  refine And.intro tab_t102 ?_
  refine And.intro tab_t103 ?_
  refine And.intro tab_t104 ?_
  refine And.intro tab_t106 ?_
  refine And.intro tab_t107 ?_
  refine And.intro tab_t108 ?_
  refine And.intro tab_t109 ?_
  refine And.intro tab_t110 ?_
  refine And.intro tab_t111 ?_
  refine And.intro tab_t112 ?_
  refine And.intro tab_t113 ?_
  refine And.intro tab_t114 ?_
  refine And.intro tab_t115 ?_
  refine And.intro tab_t116 ?_
  refine And.intro tab_t117 ?_
  refine And.intro tab_t118 ?_
  refine And.intro tab_t119 ?_
  refine And.intro tab_t120 ?_
  refine And.intro tab_t121 ?_
  refine And.intro tab_t122 ?_
  refine And.intro tab_t123 ?_
  refine And.intro tab_t124 ?_
  refine And.intro tab_t125 ?_
  refine And.intro tab_t126 ?_
  refine And.intro tab_t127 ?_
  refine And.intro tab_t128 ?_
  refine And.intro tab_t129 ?_
  refine And.intro tab_t130 ?_
  refine And.intro tab_t131 ?_
  refine And.intro tab_t132 ?_
  refine And.intro tab_t133 ?_
  refine And.intro tab_t134 ?_
  refine And.intro tab_t135 ?_
  refine And.intro tab_t136 ?_
  refine And.intro tab_t137 ?_
  refine And.intro tab_t138 ?_
  refine And.intro tab_t139 ?_
  refine And.intro tab_t140 ?_
  refine And.intro tab_t141 ?_
  refine And.intro tab_t142 ?_
  refine And.intro tab_t143 ?_
  refine And.intro tab_t144 ?_
  refine And.intro tab_t145 ?_
  refine And.intro tab_t146 ?_
  refine And.intro tab_t147 ?_
  refine And.intro tab_t148 ?_
  refine And.intro tab_t149 ?_
  refine And.intro tab_t150 ?_
  refine And.intro tab_t151 ?_
  refine And.intro tab_t152 ?_
  refine And.intro tab_t153 ?_
  refine And.intro tab_t154 ?_
  refine And.intro tab_t156 ?_
  refine And.intro tab_t157 ?_
  refine And.intro tab_t158 ?_
  refine And.intro tab_t159 ?_
  refine And.intro tab_t160 ?_
  refine And.intro tab_t161 ?_
  refine And.intro tab_t162 ?_
  refine And.intro tab_t163 ?_
  refine And.intro tab_t164 ?_
  refine And.intro tab_t165 ?_
  refine And.intro tab_t166 ?_
  refine And.intro tab_t168 ?_
  refine And.intro tab_t169 ?_
  refine And.intro tab_t170 ?_
  refine And.intro tab_t171 ?_
  refine And.intro tab_t172 ?_
  refine And.intro tab_t173 ?_
  refine And.intro tab_t174 ?_
  refine And.intro tab_t175 ?_
  refine And.intro tab_t176 ?_
  refine And.intro tab_t177 ?_
  refine And.intro tab_t178 ?_
  refine And.intro tab_t179 ?_
  refine And.intro tab_t180 ?_
  refine And.intro tab_t181 ?_
  refine And.intro tab_t182 ?_
  refine And.intro tab_t183 ?_
  refine And.intro tab_t184 ?_
  refine And.intro tab_t185 ?_
  refine And.intro tab_t186 ?_
  refine And.intro tab_t187 ?_
  refine And.intro tab_t188 ?_
  refine And.intro tab_t189 ?_
  refine And.intro tab_t190 ?_
  refine And.intro tab_t191 ?_
  refine And.intro tab_t193 ?_
  refine And.intro tab_t194 ?_
  refine And.intro tab_t195 ?_
  refine And.intro tab_t198 ?_
  refine And.intro tab_t201 ?_
  refine And.intro tab_t202 ?_
  refine And.intro tab_t203 ?_
  refine And.intro tab_t204 ?_
  refine And.intro tab_t205 ?_
  refine And.intro tab_t206 ?_
  refine And.intro tab_t209 ?_
  exact trivial
theorem tab_ok : TabOk Tryz.prog tabT := fun t ti h => by have := tabAll_ok tabT 0 tab_all t ti h; rwa [Nat.zero_add] at this
theorem fns_all : fnAll Tryz.prog 0 tabG := by
  refine And.intro ⟨Tryz.f2, Tryz.func2, rfl, by kernel_rfl⟩ ?_
  refine And.intro ⟨Tryz.f3, Tryz.func3, rfl, by kernel_rfl⟩ ?_
  refine And.intro ⟨Tryz.f4, Tryz.func4, rfl, by kernel_rfl⟩ ?_
  refine And.intro ⟨Tryz.f5, Tryz.func5, rfl, by kernel_rfl⟩ ?_
  refine And.intro ⟨Tryz.f6, Tryz.func6, rfl, by kernel_rfl⟩ ?_
  refine And.intro ⟨Tryz.f7, Tryz.func7, rfl, by kernel_rfl⟩ ?_
  refine And.intro ⟨Tryz.f8, Tryz.func8, rfl, by kernel_rfl⟩ ?_
  refine And.intro ⟨Tryz.f9, Tryz.func9, rfl, by kernel_rfl⟩ ?_
  refine And.intro ⟨Tryz.f10, Tryz.func10, rfl, by kernel_rfl⟩ ?_
  refine And.intro ⟨Tryz.f11, Tryz.func11, rfl, by kernel_rfl⟩ ?_
  refine And.intro ⟨Tryz.f12, Tryz.func12, rfl, by kernel_rfl⟩ ?_
  refine And.intro ⟨Tryz.f13, Tryz.func13, rfl, by kernel_rfl⟩ ?_
  refine And.intro ⟨Tryz.f14, Tryz.func14, rfl, by kernel_rfl⟩ ?_
  refine And.intro ⟨Tryz.f15, Tryz.func15, rfl, by kernel_rfl⟩ ?_
  refine And.intro ⟨Tryz.f16, Tryz.func16, rfl, by kernel_rfl⟩ ?_
  refine And.intro ⟨Tryz.f17, Tryz.func17, rfl, by kernel_rfl⟩ ?_
  refine And.intro ⟨Tryz.f18, Tryz.func18, rfl, by kernel_rfl⟩ ?_
  refine And.intro ⟨Tryz.f19, Tryz.func19, rfl, by kernel_rfl⟩ ?_
  refine And.intro ⟨Tryz.f20, Tryz.func20, rfl, by kernel_rfl⟩ ?_
  refine And.intro ⟨Tryz.f21, Tryz.func21, rfl, by kernel_rfl⟩ ?_
  refine And.intro ⟨Tryz.f22, Tryz.func22, rfl, by kernel_rfl⟩ ?_
  refine And.intro ⟨Tryz.f23, Tryz.func23, rfl, by kernel_rfl⟩ ?_
  refine And.intro ⟨Tryz.f24, Tryz.func24, rfl, by kernel_rfl⟩ ?_
  refine And.intro ⟨Tryz.f25, Tryz.func25, rfl, by kernel_rfl⟩ ?_
  refine And.intro ⟨Tryz.f26, Tryz.func26, rfl, by kernel_rfl⟩ ?_
  refine And.intro ⟨Tryz.f27, Tryz.func27, rfl, by kernel_rfl⟩ ?_
  refine And.intro ⟨Tryz.f28, Tryz.func28, rfl, by kernel_rfl⟩ ?_
  refine And.intro ⟨Tryz.f29, Tryz.func29, rfl, by kernel_rfl⟩ ?_
  refine And.intro ⟨Tryz.f30, Tryz.func30, rfl, by kernel_rfl⟩ ?_
  refine And.intro ⟨Tryz.f31, Tryz.func31, rfl, by kernel_rfl⟩ ?_
  refine And.intro ⟨Tryz.f32, Tryz.func32, rfl, by kernel_rfl⟩ ?_
  refine And.intro ⟨Tryz.f33, Tryz.func33, rfl, by kernel_rfl⟩ ?_
  refine And.intro ⟨Tryz.f34, Tryz.func34, rfl, by kernel_rfl⟩ ?_
  refine And.intro ⟨Tryz.f35, Tryz.func35, rfl, by kernel_rfl⟩ ?_
  refine And.intro ⟨Tryz.f36, Tryz.func36, rfl, by kernel_rfl⟩ ?_
  refine And.intro ⟨Tryz.f37, Tryz.func37, rfl, by kernel_rfl⟩ ?_
  refine And.intro ⟨Tryz.f38, Tryz.func38, rfl, by kernel_rfl⟩ ?_
  refine And.intro ⟨Tryz.f39, Tryz.func39, rfl, by kernel_rfl⟩ ?_
  refine And.intro ⟨Tryz.f40, Tryz.func40, rfl, by kernel_rfl⟩ ?_
  refine And.intro ⟨Tryz.f41, Tryz.func41, rfl, by kernel_rfl⟩ ?_
  refine And.intro ⟨Tryz.f42, Tryz.func42, rfl, by kernel_rfl⟩ ?_
  refine And.intro ⟨Tryz.f43, Tryz.func43, rfl, by kernel_rfl⟩ ?_
  refine And.intro ⟨Tryz.f44, Tryz.func44, rfl, by kernel_rfl⟩ ?_
  refine And.intro ⟨Tryz.f45, Tryz.func45, rfl, by kernel_rfl⟩ ?_
  refine And.intro ⟨Tryz.f46, Tryz.func46, rfl, by kernel_rfl⟩ ?_
  refine And.intro ⟨Tryz.f47, Tryz.func47, rfl, by kernel_rfl⟩ ?_
  refine And.intro ⟨Tryz.f48, Tryz.func48, rfl, by kernel_rfl⟩ ?_
  refine And.intro ⟨Tryz.f49, Tryz.func49, rfl, by kernel_rfl⟩ ?_
  refine And.intro ⟨Tryz.f50, Tryz.func50, rfl, by kernel_rfl⟩ ?_
  refine And.intro ⟨Tryz.f51, Tryz.func51, rfl, by kernel_rfl⟩ ?_
  refine And.intro ⟨Tryz.f52, Tryz.func52, rfl, by kernel_rfl⟩ ?_
  refine And.intro ⟨Tryz.f53, Tryz.func53, rfl, by kernel_rfl⟩ ?_
  refine And.intro ⟨Tryz.f54, Tryz.func54, rfl, by kernel_rfl⟩ ?_
  refine And.intro ⟨Tryz.f55, Tryz.func55, rfl, by kernel_rfl⟩ ?_
  refine And.intro ⟨Tryz.f56, Tryz.func56, rfl, by kernel_rfl⟩ ?_
  refine And.intro ⟨Tryz.f57, Tryz.func57, rfl, by kernel_rfl⟩ ?_
  refine And.intro ⟨Tryz.f58, Tryz.func58, rfl, by kernel_rfl⟩ ?_
  refine And.intro ⟨Tryz.f59, Tryz.func59, rfl, by kernel_rfl⟩ ?_
  refine And.intro ⟨Tryz.f60, Tryz.func60, rfl, by kernel_rfl⟩ ?_
  refine And.intro ⟨Tryz.f61, Tryz.func61, rfl, by kernel_rfl⟩ ?_
  refine And.intro ⟨Tryz.f62, Tryz.func62, rfl, by kernel_rfl⟩ ?_
  refine And.intro ⟨Tryz.f63, Tryz.func63, rfl, by kernel_rfl⟩ ?_
  refine And.intro ⟨Tryz.f64, Tryz.func64, rfl, by kernel_rfl⟩ ?_
  refine And.intro ⟨Tryz.f65, Tryz.func65, rfl, by kernel_rfl⟩ ?_
  refine And.intro ⟨Tryz.f66, Tryz.func66, rfl, by kernel_rfl⟩ ?_
  refine And.intro ⟨Tryz.f67, Tryz.func67, rfl, by kernel_rfl⟩ ?_
  refine And.intro ⟨Tryz.f68, Tryz.func68, rfl, by kernel_rfl⟩ ?_
  refine And.intro ⟨Tryz.f69, Tryz.func69, rfl, by kernel_rfl⟩ ?_
  refine And.intro ⟨Tryz.f70, Tryz.func70, rfl, by kernel_rfl⟩ ?_
  refine And.intro ⟨Tryz.f71, Tryz.func71, rfl, by kernel_rfl⟩ ?_
  refine And.intro ⟨Tryz.f72, Tryz.func72, rfl, by kernel_rfl⟩ ?_
  refine And.intro ⟨Tryz.f73, Tryz.func73, rfl, by kernel_rfl⟩ ?_
  refine And.intro ⟨Tryz.f74, Tryz.func74, rfl, by kernel_rfl⟩ ?_
  refine And.intro ⟨Tryz.f75, Tryz.func75, rfl, by kernel_rfl⟩ ?_
  refine And.intro ⟨Tryz.f76, Tryz.func76, rfl, by kernel_rfl⟩ ?_
  refine And.intro ⟨Tryz.f77, Tryz.func77, rfl, by kernel_rfl⟩ ?_
  refine And.intro ⟨Tryz.f78, Tryz.func78, rfl, by kernel_rfl⟩ ?_
  refine And.intro ⟨Tryz.f79, Tryz.func79, rfl, by kernel_rfl⟩ ?_
  refine And.intro ⟨Tryz.f80, Tryz.func80, rfl, by kernel_rfl⟩ ?_
  refine And.intro ⟨Tryz.f81, Tryz.func81, rfl, by kernel_rfl⟩ ?_
  refine And.intro ⟨Tryz.f82, Tryz.func82, rfl, by kernel_rfl⟩ ?_
  refine And.intro ⟨Tryz.f83, Tryz.func83, rfl, by kernel_rfl⟩ ?_
  refine And.intro ⟨Tryz.f84, Tryz.func84, rfl, by kernel_rfl⟩ ?_
  refine And.intro ⟨Tryz.f85, Tryz.func85, rfl, by kernel_rfl⟩ ?_
  refine And.intro ⟨Tryz.f86, Tryz.func86, rfl, by kernel_rfl⟩ ?_
  refine And.intro ⟨Tryz.f87, Tryz.func87, rfl, by kernel_rfl⟩ ?_
  refine And.intro ⟨Tryz.f88, Tryz.func88, rfl, by kernel_rfl⟩ ?_
  refine And.intro ⟨Tryz.f89, Tryz.func89, rfl, by kernel_rfl⟩ ?_
  refine And.intro ⟨Tryz.f90, Tryz.func90, rfl, by kernel_rfl⟩ ?_
  refine And.intro ⟨Tryz.f91, Tryz.func91, rfl, by kernel_rfl⟩ ?_
  refine And.intro ⟨Tryz.f92, Tryz.func92, rfl, by kernel_rfl⟩ ?_
  refine And.intro ⟨Tryz.f93, Tryz.func93, rfl, by kernel_rfl⟩ ?_
  refine And.intro ⟨Tryz.f94, Tryz.func94, rfl, by kernel_rfl⟩ ?_
  refine And.intro ⟨Tryz.f95, Tryz.func95, rfl, by kernel_rfl⟩ ?_
  refine And.intro ⟨Tryz.f96, Tryz.func96, rfl, by kernel_rfl⟩ ?_
  refine And.intro ⟨Tryz.f97, Tryz.func97, rfl, by kernel_rfl⟩ ?_
  refine And.intro ⟨Tryz.f98, Tryz.func98, rfl, by kernel_rfl⟩ ?_
  refine And.intro ⟨Tryz.f99, Tryz.func99, rfl, by kernel_rfl⟩ ?_
  refine And.intro ⟨Tryz.f100, Tryz.func100, rfl, by kernel_rfl⟩ ?_
  refine And.intro ⟨Tryz.f101, Tryz.func101, rfl, by kernel_rfl⟩ ?_
  refine And.intro ⟨Tryz.f102, Tryz.func102, rfl, by kernel_rfl⟩ ?_
  refine And.intro ⟨Tryz.f103, Tryz.func103, rfl, by kernel_rfl⟩ ?_
  refine And.intro ⟨Tryz.f104, Tryz.func104, rfl, by kernel_rfl⟩ ?_
  refine And.intro ⟨Tryz.f105, Tryz.func105, rfl, by kernel_rfl⟩ ?_
  refine And.intro ⟨Tryz.f106, Tryz.func106, rfl, by kernel_rfl⟩ ?_
  refine And.intro ⟨Tryz.f107, Tryz.func107, rfl, by kernel_rfl⟩ ?_
  refine And.intro ⟨Tryz.f108, Tryz.func108, rfl, by kernel_rfl⟩ ?_
  refine And.intro ⟨Tryz.f109, Tryz.func109, rfl, by kernel_rfl⟩ ?_
  refine And.intro ⟨Tryz.f110, Tryz.func110, rfl, by kernel_rfl⟩ ?_
  refine And.intro ⟨Tryz.f111, Tryz.func111, rfl, by kernel_rfl⟩ ?_
  refine And.intro ⟨Tryz.f112, Tryz.func112, rfl, by kernel_rfl⟩ ?_
  refine And.intro ⟨Tryz.f113, Tryz.func113, rfl, by kernel_rfl⟩ ?_
  refine And.intro ⟨Tryz.f114, Tryz.func114, rfl, by kernel_rfl⟩ ?_
  refine And.intro ⟨Tryz.f115, Tryz.func115, rfl, by kernel_rfl⟩ ?_
  refine And.intro ⟨Tryz.f116, Tryz.func116, rfl, by kernel_rfl⟩ ?_
  refine And.intro ⟨Tryz.f117, Tryz.func117, rfl, by kernel_rfl⟩ ?_
  refine And.intro ⟨Tryz.f118, Tryz.func118, rfl, by kernel_rfl⟩ ?_
  refine And.intro ⟨Tryz.f119, Tryz.func119, rfl, by kernel_rfl⟩ ?_
  refine And.intro ⟨Tryz.f120, Tryz.func120, rfl, by kernel_rfl⟩ ?_
  refine And.intro ⟨Tryz.f121, Tryz.func121, rfl, by kernel_rfl⟩ ?_
  refine And.intro ⟨Tryz.f122, Tryz.func122, rfl, by kernel_rfl⟩ ?_
  refine And.intro ⟨Tryz.f123, Tryz.func123, rfl, by kernel_rfl⟩ ?_
  refine And.intro ⟨Tryz.f124, Tryz.func124, rfl, by kernel_rfl⟩ ?_
  refine And.intro ⟨Tryz.f125, Tryz.func125, rfl, by kernel_rfl⟩ ?_
  refine And.intro ⟨Tryz.f126, Tryz.func126, rfl, by kernel_rfl⟩ ?_
  refine And.intro ⟨Tryz.f127, Tryz.func127, rfl, by kernel_rfl⟩ ?_
  refine And.intro ⟨Tryz.f128, Tryz.func128, rfl, by kernel_rfl⟩ ?_
  refine And.intro ⟨Tryz.f129, Tryz.func129, rfl, by kernel_rfl⟩ ?_
  refine And.intro ⟨Tryz.f130, Tryz.func130, rfl, by kernel_rfl⟩ ?_
  refine And.intro ⟨Tryz.f131, Tryz.func131, rfl, by kernel_rfl⟩ ?_
  refine And.intro ⟨Tryz.f132, Tryz.func132, rfl, by kernel_rfl⟩ ?_
  refine And.intro ⟨Tryz.f133, Tryz.func133, rfl, by kernel_rfl⟩ ?_
  refine And.intro ⟨Tryz.f134, Tryz.func134, rfl, by kernel_rfl⟩ ?_
  refine And.intro ⟨Tryz.f135, Tryz.func135, rfl, by kernel_rfl⟩ ?_
  refine And.intro ⟨Tryz.f136, Tryz.func136, rfl, by kernel_rfl⟩ ?_
  refine And.intro ⟨Tryz.f137, Tryz.func137, rfl, by kernel_rfl⟩ ?_
  refine And.intro ⟨Tryz.f138, Tryz.func138, rfl, by kernel_rfl⟩ ?_
  refine And.intro ⟨Tryz.f139, Tryz.func139, rfl, by kernel_rfl⟩ ?_
  refine And.intro ⟨Tryz.f140, Tryz.func140, rfl, by kernel_rfl⟩ ?_
  refine And.intro ⟨Tryz.f141, Tryz.func141, rfl, by kernel_rfl⟩ ?_
  refine And.intro ⟨Tryz.f142, Tryz.func142, rfl, by kernel_rfl⟩ ?_
  refine And.intro ⟨Tryz.f143, Tryz.func143, rfl, by kernel_rfl⟩ ?_
  refine And.intro ⟨Tryz.f144, Tryz.func144, rfl, by kernel_rfl⟩ ?_
  refine And.intro ⟨Tryz.f145, Tryz.func145, rfl, by kernel_rfl⟩ ?_
  refine And.intro ⟨Tryz.f146, Tryz.func146, rfl, by kernel_rfl⟩ ?_
  refine And.intro ⟨Tryz.f147, Tryz.func147, rfl, by kernel_rfl⟩ ?_
  refine And.intro ⟨Tryz.f148, Tryz.func148, rfl, by kernel_rfl⟩ ?_
  refine And.intro ⟨Tryz.f149, Tryz.func149, rfl, by kernel_rfl⟩ ?_
  refine And.intro ⟨Tryz.f150, Tryz.func150, rfl, by kernel_rfl⟩ ?_
  refine And.intro ⟨Tryz.f151, Tryz.func151, rfl, by kernel_rfl⟩ ?_
  refine And.intro ⟨Tryz.f152, Tryz.func152, rfl, by kernel_rfl⟩ ?_
  refine And.intro ⟨Tryz.f153, Tryz.func153, rfl, by kernel_rfl⟩ ?_
  refine And.intro ⟨Tryz.f154, Tryz.func154, rfl, by kernel_rfl⟩ ?_
  refine And.intro ⟨Tryz.f155, Tryz.func155, rfl, by kernel_rfl⟩ ?_
  refine And.intro ⟨Tryz.f156, Tryz.func156, rfl, by kernel_rfl⟩ ?_
  refine And.intro ⟨Tryz.f157, Tryz.func157, rfl, by kernel_rfl⟩ ?_
  refine And.intro ⟨Tryz.f158, Tryz.func158, rfl, by kernel_rfl⟩ ?_
  refine And.intro ⟨Tryz.f159, Tryz.func159, rfl, by kernel_rfl⟩ ?_
  refine And.intro ⟨Tryz.f160, Tryz.func160, rfl, by kernel_rfl⟩ ?_
  refine And.intro ⟨Tryz.f161, Tryz.func161, rfl, by kernel_rfl⟩ ?_
  refine And.intro ⟨Tryz.f162, Tryz.func162, rfl, by kernel_rfl⟩ ?_
  refine And.intro ⟨Tryz.f163, Tryz.func163, rfl, by kernel_rfl⟩ ?_
  refine And.intro ⟨Tryz.f164, Tryz.func164, rfl, by kernel_rfl⟩ ?_
  refine And.intro ⟨Tryz.f165, Tryz.func165, rfl, by kernel_rfl⟩ ?_
  refine And.intro ⟨Tryz.f166, Tryz.func166, rfl, by kernel_rfl⟩ ?_
  refine And.intro ⟨Tryz.f167, Tryz.func167, rfl, by kernel_rfl⟩ ?_
  refine And.intro ⟨Tryz.f168, Tryz.func168, rfl, by kernel_rfl⟩ ?_
  refine And.intro ⟨Tryz.f169, Tryz.func169, rfl, by kernel_rfl⟩ ?_
  refine And.intro ⟨Tryz.f170, Tryz.func170, rfl, by kernel_rfl⟩ ?_
  refine And.intro ⟨Tryz.f171, Tryz.func171, rfl, by kernel_rfl⟩ ?_
  refine And.intro ⟨Tryz.f172, Tryz.func172, rfl, by kernel_rfl⟩ ?_
  refine And.intro ⟨Tryz.f173, Tryz.func173, rfl, by kernel_rfl⟩ ?_
  refine And.intro ⟨Tryz.f174, Tryz.func174, rfl, by kernel_rfl⟩ ?_
  refine And.intro ⟨Tryz.f175, Tryz.func175, rfl, by kernel_rfl⟩ ?_
  refine And.intro ⟨Tryz.f176, Tryz.func176, rfl, by kernel_rfl⟩ ?_
  exact trivial
theorem fns_ok : FnsOk Tryz.prog tabG := fun f h => by have := fnAll_ok tabG 0 fns_all f h; rwa [Nat.zero_add] at this
theorem held_all : heldAll Tryz.prog 0 tabT := by
  refine And.intro trivial ?_
  refine And.intro trivial ?_
  refine And.intro trivial ?_
  refine And.intro trivial ?_
  refine And.intro trivial ?_
  refine And.intro trivial ?_
  refine And.intro Tryz.stoodInHeld7 ?_
  refine And.intro Tryz.stoodInHeld8 ?_
  refine And.intro trivial ?_
  refine And.intro trivial ?_
  refine And.intro trivial ?_
  refine And.intro trivial ?_
  refine And.intro trivial ?_
  refine And.intro trivial ?_
  refine And.intro trivial ?_
  refine And.intro trivial ?_
  refine And.intro trivial ?_
  refine And.intro trivial ?_
  refine And.intro trivial ?_
  refine And.intro trivial ?_
  refine And.intro trivial ?_
  refine And.intro trivial ?_
  refine And.intro trivial ?_
  refine And.intro trivial ?_
  refine And.intro Tryz.stoodInHeld29 ?_
  refine And.intro Tryz.stoodInHeld30 ?_
  refine And.intro trivial ?_
  refine And.intro trivial ?_
  refine And.intro trivial ?_
  refine And.intro Tryz.stoodInHeld34 ?_
  refine And.intro Tryz.stoodInHeld35 ?_
  refine And.intro trivial ?_
  refine And.intro trivial ?_
  refine And.intro trivial ?_
  refine And.intro trivial ?_
  refine And.intro trivial ?_
  refine And.intro trivial ?_
  refine And.intro trivial ?_
  refine And.intro trivial ?_
  refine And.intro trivial ?_
  refine And.intro trivial ?_
  refine And.intro trivial ?_
  refine And.intro trivial ?_
  refine And.intro trivial ?_
  refine And.intro trivial ?_
  refine And.intro trivial ?_
  refine And.intro trivial ?_
  refine And.intro Tryz.stoodInHeld55 ?_
  refine And.intro Tryz.stoodInHeld56 ?_
  refine And.intro trivial ?_
  refine And.intro trivial ?_
  refine And.intro trivial ?_
  refine And.intro trivial ?_
  refine And.intro trivial ?_
  refine And.intro Tryz.stoodInHeld63 ?_
  refine And.intro Tryz.stoodInHeld64 ?_
  refine And.intro trivial ?_
  refine And.intro trivial ?_
  refine And.intro trivial ?_
  refine And.intro trivial ?_
  refine And.intro trivial ?_
  refine And.intro Tryz.stoodInHeld72 ?_
  refine And.intro Tryz.stoodInHeld73 ?_
  refine And.intro trivial ?_
  refine And.intro trivial ?_
  refine And.intro trivial ?_
  refine And.intro trivial ?_
  refine And.intro trivial ?_
  refine And.intro Tryz.stoodInHeld79 ?_
  refine And.intro Tryz.stoodInHeld80 ?_
  refine And.intro trivial ?_
  refine And.intro trivial ?_
  refine And.intro Tryz.stoodInHeld84 ?_
  refine And.intro Tryz.stoodInHeld85 ?_
  refine And.intro trivial ?_
  refine And.intro trivial ?_
  refine And.intro trivial ?_
  refine And.intro trivial ?_
  refine And.intro trivial ?_
  refine And.intro trivial ?_
  refine And.intro trivial ?_
  refine And.intro trivial ?_
  refine And.intro trivial ?_
  refine And.intro trivial ?_
  refine And.intro Tryz.stoodInHeld96 ?_
  refine And.intro Tryz.stoodInHeld97 ?_
  refine And.intro trivial ?_
  refine And.intro trivial ?_
  refine And.intro trivial ?_
  refine And.intro Tryz.stoodInHeld102 ?_
  refine And.intro Tryz.stoodInHeld103 ?_
  refine And.intro trivial ?_
  refine And.intro trivial ?_
  refine And.intro trivial ?_
  refine And.intro trivial ?_
  refine And.intro trivial ?_
  refine And.intro trivial ?_
  refine And.intro trivial ?_
  refine And.intro trivial ?_
  refine And.intro trivial ?_
  refine And.intro trivial ?_
  refine And.intro trivial ?_
  refine And.intro trivial ?_
  refine And.intro trivial ?_
  refine And.intro trivial ?_
  refine And.intro trivial ?_
  refine And.intro trivial ?_
  refine And.intro trivial ?_
  refine And.intro trivial ?_
  refine And.intro trivial ?_
  refine And.intro trivial ?_
  refine And.intro trivial ?_
  refine And.intro trivial ?_
  refine And.intro trivial ?_
  refine And.intro trivial ?_
  refine And.intro trivial ?_
  refine And.intro trivial ?_
  refine And.intro trivial ?_
  refine And.intro trivial ?_
  refine And.intro trivial ?_
  refine And.intro trivial ?_
  refine And.intro Tryz.stoodInHeld135 ?_
  refine And.intro Tryz.stoodInHeld136 ?_
  refine And.intro trivial ?_
  refine And.intro trivial ?_
  refine And.intro trivial ?_
  refine And.intro trivial ?_
  refine And.intro trivial ?_
  refine And.intro trivial ?_
  refine And.intro trivial ?_
  refine And.intro trivial ?_
  refine And.intro trivial ?_
  refine And.intro trivial ?_
  refine And.intro Tryz.stoodInHeld147 ?_
  refine And.intro Tryz.stoodInHeld148 ?_
  refine And.intro trivial ?_
  refine And.intro trivial ?_
  refine And.intro trivial ?_
  refine And.intro trivial ?_
  refine And.intro trivial ?_
  refine And.intro trivial ?_
  refine And.intro trivial ?_
  refine And.intro trivial ?_
  refine And.intro trivial ?_
  refine And.intro trivial ?_
  refine And.intro trivial ?_
  refine And.intro trivial ?_
  refine And.intro trivial ?_
  refine And.intro trivial ?_
  refine And.intro trivial ?_
  refine And.intro trivial ?_
  refine And.intro trivial ?_
  refine And.intro trivial ?_
  refine And.intro trivial ?_
  refine And.intro trivial ?_
  refine And.intro trivial ?_
  refine And.intro trivial ?_
  refine And.intro trivial ?_
  refine And.intro trivial ?_
  refine And.intro trivial ?_
  refine And.intro trivial ?_
  refine And.intro trivial ?_
  refine And.intro trivial ?_
  refine And.intro trivial ?_
  refine And.intro trivial ?_
  refine And.intro trivial ?_
  refine And.intro trivial ?_
  refine And.intro trivial ?_
  refine And.intro trivial ?_
  refine And.intro trivial ?_
  refine And.intro trivial ?_
  refine And.intro trivial ?_
  refine And.intro trivial ?_
  refine And.intro trivial ?_
  refine And.intro trivial ?_
  refine And.intro trivial ?_
  refine And.intro trivial ?_
  refine And.intro trivial ?_
  refine And.intro trivial ?_
  refine And.intro trivial ?_
  refine And.intro trivial ?_
  refine And.intro trivial ?_
  refine And.intro trivial ?_
  refine And.intro trivial ?_
  refine And.intro trivial ?_
  refine And.intro trivial ?_
  refine And.intro trivial ?_
  exact trivial
theorem hX : TabsOk Tryz.prog X := ⟨tab_ok, fns_ok, fun t ti h => (by have := heldAll_ok tabT 0 held_all t ti h; rwa [Nat.zero_add] at this), by kernel_rfl⟩
end Go.Ev
namespace Go.Proofs.YtiololnblplloaaGreat.ar
open Go Go.Ev Go.Proofs
structure Nd where
  k : Int
  s0 : Int
  s1 : Int
  s2 : Int
  s3 : Int
  a : Int
  b : Int
  neg : Bool
  deriving DecidableEq
def ndC (x : Nd) : List Value := [.int .i64 x.k, .int .u64 x.s0, .int .u64 x.s1, .int .u64 x.s2, .int .u64 x.s3, .int .i64 x.a, .int .i64 x.b, .bool x.neg]
def nd0 : Nd := ⟨0, 0, 0, 0, 0, 0, 0, false⟩
theorem ndC_inj {x y : Nd} (h : ndC x = ndC y) : x = y := by
  cases x; cases y; simp [ndC] at h; simp [h]
theorem ndC_len (x : Nd) : (ndC x).length = 8 := rfl
def i64 (z : Int) : Prop := -9223372036854775808 ≤ z ∧ z ≤ 9223372036854775807
def u64 (z : Int) : Prop := 0 ≤ z ∧ z ≤ 18446744073709551615
structure InN (x : Nd) : Prop where
  k : i64 x.k
  s0 : u64 x.s0
  s1 : u64 x.s1
  s2 : u64 x.s2
  s3 : u64 x.s3
  a : i64 x.a
  b : i64 x.b
def rightN (x : Nd) (n : Nat) : Bool :=
  if x.k = 0 ∨ x.k = 1 then decide (⟨x.k, 0, 0, 0, 0, 0, 0, false⟩ = x)
  else if x.k = 2 then decide (⟨x.k, x.s0, x.s1, x.s2, x.s3, 0, 0, false⟩ = x)
  else if x.k = 3 ∨ x.k = 4 ∨ x.k = 5 then decide ((0 ≤ x.a ∧ x.a < n) ∧ (0 ≤ x.b ∧ x.b < n)) && decide (⟨x.k, 0, 0, 0, 0, x.a, x.b, false⟩ = x)
  else if x.k = 6 ∨ x.k = 7 then decide (0 ≤ x.a ∧ x.a < n) && decide (⟨x.k, 0, 0, 0, 0, x.a, 0, false⟩ = x)
  else if x.k = 8 then decide (0 ≤ x.a ∧ x.a < 4) && decide (⟨x.k, 0, 0, 0, 0, x.a, 0, x.neg⟩ = x)
  else false
def ndW : List Nd → Nat → List (Value × Value)
  | [], _ => []
  | x :: l, i => (.agg (toArr (ndC x)), .int .i64 i) :: ndW l (i + 1)
def arO (sl : Value) (mb : Nat) : Obj := .cells (toArr [sl, .map (some mb)]) 64 (0, 0)
theorem there_fn (m : Mem) (b2 ab mb n c : Nat) (A : Option Addr) (id : Int) :
    FnL Tryz.prog 123 [.int .i64 id, .pointer (some ⟨b2, 0, none⟩)] m [(b2, .cells (toArr [.pointer (some ⟨ab, 0, none⟩)]) 47 (0, 0)), (ab, arO (.slice A n c) mb)] (.bool (decide (0 ≤ id ∧ id < n))) := by
  refine Fn.enter (N := 15) hX Tryz.func123 rfl rfl (by show _ ≤ _; simp) (fun w0 hL => ?_)
  conv => whnf
  generalize keys [(b2, Obj.cells (toArr [.pointer (some ⟨ab, 0, none⟩)]) 47 (0, 0)), (ab, arO (.slice A n c) mb)] = S0 at hL ⊢
  conv => whnf
  repeat ((first | refine zT ?_ | refine zF ?_ | refine zL hX hL ?_ | refine zB hX hL ?_ | (refine zS hX hL ?_; clear hL; intro w hL) | refine zI ?_ | refine zG hX ?_ | refine zO ?_); conv => whnf)
  by_cases h0 : 0 ≤ id
  · conv => whnf
    repeat ((first | refine BrReq.yes (by omega) ?_ | refine zT ?_ | refine zF ?_ | refine zL hX hL ?_ | refine zB hX hL ?_ | (refine zS hX hL ?_; clear hL; intro w hL) | refine zI ?_ | refine zG hX ?_ | refine zO ?_); conv => whnf)
    exact RetReq.mk hL ⟨rfl, rfl, congrArg Value.bool (decide_eq_decide.2 (by omega))⟩
  · conv => whnf
    repeat ((first | refine BrReq.no (by omega) ?_ | refine zT ?_ | refine zF ?_ | refine zL hX hL ?_ | refine zB hX hL ?_ | (refine zS hX hL ?_; clear hL; intro w hL) | refine zI ?_ | refine zG hX ?_ | refine zO ?_); conv => whnf)
    exact RetReq.mk hL ⟨rfl, rfl, congrArg Value.bool (decide_eq_false (by omega)).symm⟩
theorem eq_nd (x y : Nd) : eqB X 9 80 (ndC x) (ndC y) = some (decide (x = y)) := by
  obtain ⟨k, s0, s1, s2, s3, a, b, neg⟩ := x
  obtain ⟨k', s0', s1', s2', s3', a', b', neg'⟩ := y
  conv => lhs; whnf
  refine congrArg some ?_
  rw [Bool.eq_iff_iff]
  simp only [Bool.and_eq_true, decide_eq_true_eq, Bool.and_true, beq_iff_eq, Nd.mk.injEq]
  constructor
  · rintro ⟨h1, ⟨h2, h3, h4, h5⟩, h6, h7, h8⟩; exact ⟨h1, h2, h3, h4, h5, h6, h7, h8⟩
  · rintro ⟨h1, h2, h3, h4, h5, h6, h7, h8⟩; exact ⟨h1, ⟨h2, h3, h4, h5⟩, h6, h7, h8⟩
set_option maxHeartbeats 2000000 in
theorem right_fn (m : Mem) (ab mb n c : Nat) (A : Option Addr) (x : Nd) :
    FnL Tryz.prog 86 [.pointer (some ⟨ab, 0, none⟩), .agg (toArr (ndC x))] m [(ab, arO (.slice A n c) mb)] (.bool (rightN x n)) := by
  obtain ⟨k, s0, s1, s2, s3, a, b, neg⟩ := x
  refine Fn.enter (N := 80) hX Tryz.func86 rfl rfl (by show _ ≤ _; simp) (fun w0 hL => ?_)
  conv => whnf
  generalize keys [(ab, arO (.slice A n c) mb)] = S0 at hL ⊢
  refine NewReq.mk hL ?_
  clear hL
  intro b2 w hL
  conv => whnf
  refine NewReq.mk hL ?_
  clear hL
  intro b3 w hL
  conv => whnf
  conv => whnf
  repeat ((first | refine zT ?_ | refine zF ?_ | refine zL hX hL ?_ | refine zB hX hL ?_ | (refine zS hX hL ?_; clear hL; intro w hL) | refine zI ?_ | refine zG hX ?_ | refine zO ?_); conv => whnf)
  refine NewReq.mk hL ?_
  clear hL
  intro b6 w hL
  conv => whnf
  conv => whnf
  repeat ((first | refine zT ?_ | refine zF ?_ | refine zL hX hL ?_ | refine zB hX hL ?_ | (refine zS hX hL ?_; clear hL; intro w hL) | refine zI ?_ | refine zG hX ?_ | refine zO ?_); conv => whnf)
  have hL := Loc.back (L1 := [_, _]) (L2 := [_, _]) hL
  by_cases k0 : k = 0
  · subst k0
    replace hL : Ev.Loc m S0 w0 m [(b2, .cells (toArr [.pointer (some ⟨ab, 0, none⟩)]) 47 (0, 0)), (ab, arO (.slice A n c) mb), (b6, .cells (toArr (ndC ⟨0, s0, s1, s2, s3, a, b, neg⟩)) 80 (0, 0)), (b3, .cells (toArr (ndC ⟨0, s0, s1, s2, s3, a, b, neg⟩)) 80 (0, 0))] w := hL
    conv => whnf
    repeat ((first | refine UGenReq.eqA hX (xs := ndC ⟨0, 0, 0, 0, 0, 0, 0, false⟩) (ys := ndC ⟨0, s0, s1, s2, s3, a, b, neg⟩) rfl rfl rfl Tryz.eqGuardType80 rfl rfl (eq_nd _ _) ?_ | refine zT ?_ | refine zF ?_ | refine zL hX hL ?_ | refine zB hX hL ?_ | (refine zS hX hL ?_; clear hL; intro w hL) | refine zI ?_ | refine zG hX ?_ | refine zO ?_); conv => whnf)
    refine RetReq.mk (hL.sublist (.cons _ (.cons_cons _ (List.nil_sublist _)))) ⟨rfl, rfl, congrArg Value.bool ?_⟩
    rfl
  by_cases k1 : k = 1
  · subst k1
    replace hL : Ev.Loc m S0 w0 m [(b2, .cells (toArr [.pointer (some ⟨ab, 0, none⟩)]) 47 (0, 0)), (ab, arO (.slice A n c) mb), (b6, .cells (toArr (ndC ⟨1, s0, s1, s2, s3, a, b, neg⟩)) 80 (0, 0)), (b3, .cells (toArr (ndC ⟨1, s0, s1, s2, s3, a, b, neg⟩)) 80 (0, 0))] w := hL
    conv => whnf
    repeat ((first | refine UGenReq.eqA hX (xs := ndC ⟨1, 0, 0, 0, 0, 0, 0, false⟩) (ys := ndC ⟨1, s0, s1, s2, s3, a, b, neg⟩) rfl rfl rfl Tryz.eqGuardType80 rfl rfl (eq_nd _ _) ?_ | refine zT ?_ | refine zF ?_ | refine zL hX hL ?_ | refine zB hX hL ?_ | (refine zS hX hL ?_; clear hL; intro w hL) | refine zI ?_ | refine zG hX ?_ | refine zO ?_); conv => whnf)
    refine RetReq.mk (hL.sublist (.cons _ (.cons_cons _ (List.nil_sublist _)))) ⟨rfl, rfl, congrArg Value.bool ?_⟩
    rfl
  by_cases k2 : k = 2
  · subst k2
    replace hL : Ev.Loc m S0 w0 m [(b2, .cells (toArr [.pointer (some ⟨ab, 0, none⟩)]) 47 (0, 0)), (ab, arO (.slice A n c) mb), (b6, .cells (toArr (ndC ⟨2, s0, s1, s2, s3, a, b, neg⟩)) 80 (0, 0)), (b3, .cells (toArr (ndC ⟨2, s0, s1, s2, s3, a, b, neg⟩)) 80 (0, 0))] w := hL
    conv => whnf
    repeat ((first | refine UGenReq.eqA hX (xs := ndC ⟨2, s0, s1, s2, s3, 0, 0, false⟩) (ys := ndC ⟨2, s0, s1, s2, s3, a, b, neg⟩) rfl rfl rfl Tryz.eqGuardType80 rfl rfl (eq_nd _ _) ?_ | refine zT ?_ | refine zF ?_ | refine zL hX hL ?_ | refine zB hX hL ?_ | (refine zS hX hL ?_; clear hL; intro w hL) | refine zI ?_ | refine zG hX ?_ | refine zO ?_); conv => whnf)
    refine RetReq.mk (hL.sublist (.cons _ (.cons_cons _ (List.nil_sublist _)))) ⟨rfl, rfl, congrArg Value.bool ?_⟩
    rfl
  by_cases k3 : k = 3
  · subst k3
    replace hL : Ev.Loc m S0 w0 m [(b2, .cells (toArr [.pointer (some ⟨ab, 0, none⟩)]) 47 (0, 0)), (ab, arO (.slice A n c) mb), (b6, .cells (toArr (ndC ⟨3, s0, s1, s2, s3, a, b, neg⟩)) 80 (0, 0)), (b3, .cells (toArr (ndC ⟨3, s0, s1, s2, s3, a, b, neg⟩)) 80 (0, 0))] w := hL
    conv => whnf
    repeat ((first | refine zT ?_ | refine zF ?_ | refine zL hX hL ?_ | refine zB hX hL ?_ | (refine zS hX hL ?_; clear hL; intro w hL) | refine zI ?_ | refine zG hX ?_ | refine zO ?_); conv => whnf)
    replace hL : Ev.Loc m S0 w0 m ([(b2, .cells (toArr [.pointer (some ⟨ab, 0, none⟩)]) 47 (0, 0)), (ab, arO (.slice A n c) mb)] ++ [(b6, .cells (toArr (ndC ⟨3, 0, 0, 0, 0, a, b, false⟩)) 80 (0, 0)), (b3, .cells (toArr (ndC ⟨3, s0, s1, s2, s3, a, b, neg⟩)) 80 (0, 0))]) w := hL
    refine CallReq.li (there_fn m b2 ab mb n c A a) hL ?_
    clear hL
    intro w hL
    replace hL : Ev.Loc m S0 w0 m [(b2, .cells (toArr [.pointer (some ⟨ab, 0, none⟩)]) 47 (0, 0)), (ab, arO (.slice A n c) mb), (b6, .cells (toArr (ndC ⟨3, 0, 0, 0, 0, a, b, false⟩)) 80 (0, 0)), (b3, .cells (toArr (ndC ⟨3, s0, s1, s2, s3, a, b, neg⟩)) 80 (0, 0))] w := hL
    by_cases ha : 0 ≤ a ∧ a < n
    · rw [decide_eq_true ha]
      conv => whnf
      repeat ((first | refine zT ?_ | refine zF ?_ | refine zL hX hL ?_ | refine zB hX hL ?_ | (refine zS hX hL ?_; clear hL; intro w hL) | refine zI ?_ | refine zG hX ?_ | refine zO ?_); conv => whnf)
      replace hL : Ev.Loc m S0 w0 m ([(b2, .cells (toArr [.pointer (some ⟨ab, 0, none⟩)]) 47 (0, 0)), (ab, arO (.slice A n c) mb)] ++ [(b6, .cells (toArr (ndC ⟨3, 0, 0, 0, 0, a, b, false⟩)) 80 (0, 0)), (b3, .cells (toArr (ndC ⟨3, s0, s1, s2, s3, a, b, neg⟩)) 80 (0, 0))]) w := hL
      refine CallReq.li (there_fn m b2 ab mb n c A b) hL ?_
      clear hL
      intro w hL
      replace hL : Ev.Loc m S0 w0 m [(b2, .cells (toArr [.pointer (some ⟨ab, 0, none⟩)]) 47 (0, 0)), (ab, arO (.slice A n c) mb), (b6, .cells (toArr (ndC ⟨3, 0, 0, 0, 0, a, b, false⟩)) 80 (0, 0)), (b3, .cells (toArr (ndC ⟨3, s0, s1, s2, s3, a, b, neg⟩)) 80 (0, 0))] w := hL
      by_cases hb : 0 ≤ b ∧ b < n
      · rw [decide_eq_true hb]
        conv => whnf
        repeat ((first | refine UGenReq.eqA hX (xs := ndC ⟨3, 0, 0, 0, 0, a, b, false⟩) (ys := ndC ⟨3, s0, s1, s2, s3, a, b, neg⟩) rfl rfl rfl Tryz.eqGuardType80 rfl rfl (eq_nd _ _) ?_ | refine zT ?_ | refine zF ?_ | refine zL hX hL ?_ | refine zB hX hL ?_ | (refine zS hX hL ?_; clear hL; intro w hL) | refine zI ?_ | refine zG hX ?_ | refine zO ?_); conv => whnf)
        refine RetReq.mk (hL.sublist (.cons _ (.cons_cons _ (List.nil_sublist _)))) ⟨rfl, rfl, congrArg Value.bool ?_⟩
        show _ = (decide ((0 ≤ a ∧ a < n) ∧ (0 ≤ b ∧ b < n)) && _)
        rw [decide_eq_true (show (0 ≤ a ∧ a < n) ∧ (0 ≤ b ∧ b < n) from ⟨ha, hb⟩)]; rfl
      · rw [decide_eq_false hb]
        conv => whnf
        repeat ((first | refine zT ?_ | refine zF ?_ | refine zL hX hL ?_ | refine zB hX hL ?_ | (refine zS hX hL ?_; clear hL; intro w hL) | refine zI ?_ | refine zG hX ?_ | refine zO ?_); conv => whnf)
        refine RetReq.mk (hL.sublist (.cons _ (.cons_cons _ (List.nil_sublist _)))) ⟨rfl, rfl, congrArg Value.bool ?_⟩
        show _ = (decide ((0 ≤ a ∧ a < n) ∧ (0 ≤ b ∧ b < n)) && _)
        rw [decide_eq_false (fun h : (0 ≤ a ∧ a < n) ∧ (0 ≤ b ∧ b < n) => hb h.2)]; rfl
    · rw [decide_eq_false ha]
      conv => whnf
      repeat ((first | refine zT ?_ | refine zF ?_ | refine zL hX hL ?_ | refine zB hX hL ?_ | (refine zS hX hL ?_; clear hL; intro w hL) | refine zI ?_ | refine zG hX ?_ | refine zO ?_); conv => whnf)
      refine RetReq.mk (hL.sublist (.cons _ (.cons_cons _ (List.nil_sublist _)))) ⟨rfl, rfl, congrArg Value.bool ?_⟩
      show _ = (decide ((0 ≤ a ∧ a < n) ∧ (0 ≤ b ∧ b < n)) && _)
      rw [decide_eq_false (fun h : (0 ≤ a ∧ a < n) ∧ (0 ≤ b ∧ b < n) => ha h.1)]; rfl
  by_cases k4 : k = 4
  · subst k4
    replace hL : Ev.Loc m S0 w0 m [(b2, .cells (toArr [.pointer (some ⟨ab, 0, none⟩)]) 47 (0, 0)), (ab, arO (.slice A n c) mb), (b6, .cells (toArr (ndC ⟨4, s0, s1, s2, s3, a, b, neg⟩)) 80 (0, 0)), (b3, .cells (toArr (ndC ⟨4, s0, s1, s2, s3, a, b, neg⟩)) 80 (0, 0))] w := hL
    conv => whnf
    repeat ((first | refine zT ?_ | refine zF ?_ | refine zL hX hL ?_ | refine zB hX hL ?_ | (refine zS hX hL ?_; clear hL; intro w hL) | refine zI ?_ | refine zG hX ?_ | refine zO ?_); conv => whnf)
    replace hL : Ev.Loc m S0 w0 m ([(b2, .cells (toArr [.pointer (some ⟨ab, 0, none⟩)]) 47 (0, 0)), (ab, arO (.slice A n c) mb)] ++ [(b6, .cells (toArr (ndC ⟨4, 0, 0, 0, 0, a, b, false⟩)) 80 (0, 0)), (b3, .cells (toArr (ndC ⟨4, s0, s1, s2, s3, a, b, neg⟩)) 80 (0, 0))]) w := hL
    refine CallReq.li (there_fn m b2 ab mb n c A a) hL ?_
    clear hL
    intro w hL
    replace hL : Ev.Loc m S0 w0 m [(b2, .cells (toArr [.pointer (some ⟨ab, 0, none⟩)]) 47 (0, 0)), (ab, arO (.slice A n c) mb), (b6, .cells (toArr (ndC ⟨4, 0, 0, 0, 0, a, b, false⟩)) 80 (0, 0)), (b3, .cells (toArr (ndC ⟨4, s0, s1, s2, s3, a, b, neg⟩)) 80 (0, 0))] w := hL
    by_cases ha : 0 ≤ a ∧ a < n
    · rw [decide_eq_true ha]
      conv => whnf
      repeat ((first | refine zT ?_ | refine zF ?_ | refine zL hX hL ?_ | refine zB hX hL ?_ | (refine zS hX hL ?_; clear hL; intro w hL) | refine zI ?_ | refine zG hX ?_ | refine zO ?_); conv => whnf)
      replace hL : Ev.Loc m S0 w0 m ([(b2, .cells (toArr [.pointer (some ⟨ab, 0, none⟩)]) 47 (0, 0)), (ab, arO (.slice A n c) mb)] ++ [(b6, .cells (toArr (ndC ⟨4, 0, 0, 0, 0, a, b, false⟩)) 80 (0, 0)), (b3, .cells (toArr (ndC ⟨4, s0, s1, s2, s3, a, b, neg⟩)) 80 (0, 0))]) w := hL
      refine CallReq.li (there_fn m b2 ab mb n c A b) hL ?_
      clear hL
      intro w hL
      replace hL : Ev.Loc m S0 w0 m [(b2, .cells (toArr [.pointer (some ⟨ab, 0, none⟩)]) 47 (0, 0)), (ab, arO (.slice A n c) mb), (b6, .cells (toArr (ndC ⟨4, 0, 0, 0, 0, a, b, false⟩)) 80 (0, 0)), (b3, .cells (toArr (ndC ⟨4, s0, s1, s2, s3, a, b, neg⟩)) 80 (0, 0))] w := hL
      by_cases hb : 0 ≤ b ∧ b < n
      · rw [decide_eq_true hb]
        conv => whnf
        repeat ((first | refine UGenReq.eqA hX (xs := ndC ⟨4, 0, 0, 0, 0, a, b, false⟩) (ys := ndC ⟨4, s0, s1, s2, s3, a, b, neg⟩) rfl rfl rfl Tryz.eqGuardType80 rfl rfl (eq_nd _ _) ?_ | refine zT ?_ | refine zF ?_ | refine zL hX hL ?_ | refine zB hX hL ?_ | (refine zS hX hL ?_; clear hL; intro w hL) | refine zI ?_ | refine zG hX ?_ | refine zO ?_); conv => whnf)
        refine RetReq.mk (hL.sublist (.cons _ (.cons_cons _ (List.nil_sublist _)))) ⟨rfl, rfl, congrArg Value.bool ?_⟩
        show _ = (decide ((0 ≤ a ∧ a < n) ∧ (0 ≤ b ∧ b < n)) && _)
        rw [decide_eq_true (show (0 ≤ a ∧ a < n) ∧ (0 ≤ b ∧ b < n) from ⟨ha, hb⟩)]; rfl
      · rw [decide_eq_false hb]
        conv => whnf
        repeat ((first | refine zT ?_ | refine zF ?_ | refine zL hX hL ?_ | refine zB hX hL ?_ | (refine zS hX hL ?_; clear hL; intro w hL) | refine zI ?_ | refine zG hX ?_ | refine zO ?_); conv => whnf)
        refine RetReq.mk (hL.sublist (.cons _ (.cons_cons _ (List.nil_sublist _)))) ⟨rfl, rfl, congrArg Value.bool ?_⟩
        show _ = (decide ((0 ≤ a ∧ a < n) ∧ (0 ≤ b ∧ b < n)) && _)
        rw [decide_eq_false (fun h : (0 ≤ a ∧ a < n) ∧ (0 ≤ b ∧ b < n) => hb h.2)]; rfl
    · rw [decide_eq_false ha]
      conv => whnf
      repeat ((first | refine zT ?_ | refine zF ?_ | refine zL hX hL ?_ | refine zB hX hL ?_ | (refine zS hX hL ?_; clear hL; intro w hL) | refine zI ?_ | refine zG hX ?_ | refine zO ?_); conv => whnf)
      refine RetReq.mk (hL.sublist (.cons _ (.cons_cons _ (List.nil_sublist _)))) ⟨rfl, rfl, congrArg Value.bool ?_⟩
      show _ = (decide ((0 ≤ a ∧ a < n) ∧ (0 ≤ b ∧ b < n)) && _)
      rw [decide_eq_false (fun h : (0 ≤ a ∧ a < n) ∧ (0 ≤ b ∧ b < n) => ha h.1)]; rfl
  by_cases k5 : k = 5
  · subst k5
    replace hL : Ev.Loc m S0 w0 m [(b2, .cells (toArr [.pointer (some ⟨ab, 0, none⟩)]) 47 (0, 0)), (ab, arO (.slice A n c) mb), (b6, .cells (toArr (ndC ⟨5, s0, s1, s2, s3, a, b, neg⟩)) 80 (0, 0)), (b3, .cells (toArr (ndC ⟨5, s0, s1, s2, s3, a, b, neg⟩)) 80 (0, 0))] w := hL
    conv => whnf
    repeat ((first | refine zT ?_ | refine zF ?_ | refine zL hX hL ?_ | refine zB hX hL ?_ | (refine zS hX hL ?_; clear hL; intro w hL) | refine zI ?_ | refine zG hX ?_ | refine zO ?_); conv => whnf)
    replace hL : Ev.Loc m S0 w0 m ([(b2, .cells (toArr [.pointer (some ⟨ab, 0, none⟩)]) 47 (0, 0)), (ab, arO (.slice A n c) mb)] ++ [(b6, .cells (toArr (ndC ⟨5, 0, 0, 0, 0, a, b, false⟩)) 80 (0, 0)), (b3, .cells (toArr (ndC ⟨5, s0, s1, s2, s3, a, b, neg⟩)) 80 (0, 0))]) w := hL
    refine CallReq.li (there_fn m b2 ab mb n c A a) hL ?_
    clear hL
    intro w hL
    replace hL : Ev.Loc m S0 w0 m [(b2, .cells (toArr [.pointer (some ⟨ab, 0, none⟩)]) 47 (0, 0)), (ab, arO (.slice A n c) mb), (b6, .cells (toArr (ndC ⟨5, 0, 0, 0, 0, a, b, false⟩)) 80 (0, 0)), (b3, .cells (toArr (ndC ⟨5, s0, s1, s2, s3, a, b, neg⟩)) 80 (0, 0))] w := hL
    by_cases ha : 0 ≤ a ∧ a < n
    · rw [decide_eq_true ha]
      conv => whnf
      repeat ((first | refine zT ?_ | refine zF ?_ | refine zL hX hL ?_ | refine zB hX hL ?_ | (refine zS hX hL ?_; clear hL; intro w hL) | refine zI ?_ | refine zG hX ?_ | refine zO ?_); conv => whnf)
      replace hL : Ev.Loc m S0 w0 m ([(b2, .cells (toArr [.pointer (some ⟨ab, 0, none⟩)]) 47 (0, 0)), (ab, arO (.slice A n c) mb)] ++ [(b6, .cells (toArr (ndC ⟨5, 0, 0, 0, 0, a, b, false⟩)) 80 (0, 0)), (b3, .cells (toArr (ndC ⟨5, s0, s1, s2, s3, a, b, neg⟩)) 80 (0, 0))]) w := hL
      refine CallReq.li (there_fn m b2 ab mb n c A b) hL ?_
      clear hL
      intro w hL
      replace hL : Ev.Loc m S0 w0 m [(b2, .cells (toArr [.pointer (some ⟨ab, 0, none⟩)]) 47 (0, 0)), (ab, arO (.slice A n c) mb), (b6, .cells (toArr (ndC ⟨5, 0, 0, 0, 0, a, b, false⟩)) 80 (0, 0)), (b3, .cells (toArr (ndC ⟨5, s0, s1, s2, s3, a, b, neg⟩)) 80 (0, 0))] w := hL
      by_cases hb : 0 ≤ b ∧ b < n
      · rw [decide_eq_true hb]
        conv => whnf
        repeat ((first | refine UGenReq.eqA hX (xs := ndC ⟨5, 0, 0, 0, 0, a, b, false⟩) (ys := ndC ⟨5, s0, s1, s2, s3, a, b, neg⟩) rfl rfl rfl Tryz.eqGuardType80 rfl rfl (eq_nd _ _) ?_ | refine zT ?_ | refine zF ?_ | refine zL hX hL ?_ | refine zB hX hL ?_ | (refine zS hX hL ?_; clear hL; intro w hL) | refine zI ?_ | refine zG hX ?_ | refine zO ?_); conv => whnf)
        refine RetReq.mk (hL.sublist (.cons _ (.cons_cons _ (List.nil_sublist _)))) ⟨rfl, rfl, congrArg Value.bool ?_⟩
        show _ = (decide ((0 ≤ a ∧ a < n) ∧ (0 ≤ b ∧ b < n)) && _)
        rw [decide_eq_true (show (0 ≤ a ∧ a < n) ∧ (0 ≤ b ∧ b < n) from ⟨ha, hb⟩)]; rfl
      · rw [decide_eq_false hb]
        conv => whnf
        repeat ((first | refine zT ?_ | refine zF ?_ | refine zL hX hL ?_ | refine zB hX hL ?_ | (refine zS hX hL ?_; clear hL; intro w hL) | refine zI ?_ | refine zG hX ?_ | refine zO ?_); conv => whnf)
        refine RetReq.mk (hL.sublist (.cons _ (.cons_cons _ (List.nil_sublist _)))) ⟨rfl, rfl, congrArg Value.bool ?_⟩
        show _ = (decide ((0 ≤ a ∧ a < n) ∧ (0 ≤ b ∧ b < n)) && _)
        rw [decide_eq_false (fun h : (0 ≤ a ∧ a < n) ∧ (0 ≤ b ∧ b < n) => hb h.2)]; rfl
    · rw [decide_eq_false ha]
      conv => whnf
      repeat ((first | refine zT ?_ | refine zF ?_ | refine zL hX hL ?_ | refine zB hX hL ?_ | (refine zS hX hL ?_; clear hL; intro w hL) | refine zI ?_ | refine zG hX ?_ | refine zO ?_); conv => whnf)
      refine RetReq.mk (hL.sublist (.cons _ (.cons_cons _ (List.nil_sublist _)))) ⟨rfl, rfl, congrArg Value.bool ?_⟩
      show _ = (decide ((0 ≤ a ∧ a < n) ∧ (0 ≤ b ∧ b < n)) && _)
      rw [decide_eq_false (fun h : (0 ≤ a ∧ a < n) ∧ (0 ≤ b ∧ b < n) => ha h.1)]; rfl
  by_cases k6 : k = 6
  · subst k6
    replace hL : Ev.Loc m S0 w0 m [(b2, .cells (toArr [.pointer (some ⟨ab, 0, none⟩)]) 47 (0, 0)), (ab, arO (.slice A n c) mb), (b6, .cells (toArr (ndC ⟨6, s0, s1, s2, s3, a, b, neg⟩)) 80 (0, 0)), (b3, .cells (toArr (ndC ⟨6, s0, s1, s2, s3, a, b, neg⟩)) 80 (0, 0))] w := hL
    conv => whnf
    repeat ((first | refine zT ?_ | refine zF ?_ | refine zL hX hL ?_ | refine zB hX hL ?_ | (refine zS hX hL ?_; clear hL; intro w hL) | refine zI ?_ | refine zG hX ?_ | refine zO ?_); conv => whnf)
    replace hL : Ev.Loc m S0 w0 m ([(b2, .cells (toArr [.pointer (some ⟨ab, 0, none⟩)]) 47 (0, 0)), (ab, arO (.slice A n c) mb)] ++ [(b6, .cells (toArr (ndC ⟨6, 0, 0, 0, 0, a, 0, false⟩)) 80 (0, 0)), (b3, .cells (toArr (ndC ⟨6, s0, s1, s2, s3, a, b, neg⟩)) 80 (0, 0))]) w := hL
    refine CallReq.li (there_fn m b2 ab mb n c A a) hL ?_
    clear hL
    intro w hL
    replace hL : Ev.Loc m S0 w0 m [(b2, .cells (toArr [.pointer (some ⟨ab, 0, none⟩)]) 47 (0, 0)), (ab, arO (.slice A n c) mb), (b6, .cells (toArr (ndC ⟨6, 0, 0, 0, 0, a, 0, false⟩)) 80 (0, 0)), (b3, .cells (toArr (ndC ⟨6, s0, s1, s2, s3, a, b, neg⟩)) 80 (0, 0))] w := hL
    by_cases ha : 0 ≤ a ∧ a < n
    · rw [decide_eq_true ha]
      conv => whnf
      repeat ((first | refine UGenReq.eqA hX (xs := ndC ⟨6, 0, 0, 0, 0, a, 0, false⟩) (ys := ndC ⟨6, s0, s1, s2, s3, a, b, neg⟩) rfl rfl rfl Tryz.eqGuardType80 rfl rfl (eq_nd _ _) ?_ | refine zT ?_ | refine zF ?_ | refine zL hX hL ?_ | refine zB hX hL ?_ | (refine zS hX hL ?_; clear hL; intro w hL) | refine zI ?_ | refine zG hX ?_ | refine zO ?_); conv => whnf)
      refine RetReq.mk (hL.sublist (.cons _ (.cons_cons _ (List.nil_sublist _)))) ⟨rfl, rfl, congrArg Value.bool ?_⟩
      show _ = (decide (0 ≤ a ∧ a < n) && _)
      rw [decide_eq_true ha]; rfl
    · rw [decide_eq_false ha]
      conv => whnf
      repeat ((first | refine zT ?_ | refine zF ?_ | refine zL hX hL ?_ | refine zB hX hL ?_ | (refine zS hX hL ?_; clear hL; intro w hL) | refine zI ?_ | refine zG hX ?_ | refine zO ?_); conv => whnf)
      refine RetReq.mk (hL.sublist (.cons _ (.cons_cons _ (List.nil_sublist _)))) ⟨rfl, rfl, congrArg Value.bool ?_⟩
      show _ = (decide (0 ≤ a ∧ a < n) && _)
      rw [decide_eq_false ha]; rfl
  by_cases k7 : k = 7
  · subst k7
    replace hL : Ev.Loc m S0 w0 m [(b2, .cells (toArr [.pointer (some ⟨ab, 0, none⟩)]) 47 (0, 0)), (ab, arO (.slice A n c) mb), (b6, .cells (toArr (ndC ⟨7, s0, s1, s2, s3, a, b, neg⟩)) 80 (0, 0)), (b3, .cells (toArr (ndC ⟨7, s0, s1, s2, s3, a, b, neg⟩)) 80 (0, 0))] w := hL
    conv => whnf
    repeat ((first | refine zT ?_ | refine zF ?_ | refine zL hX hL ?_ | refine zB hX hL ?_ | (refine zS hX hL ?_; clear hL; intro w hL) | refine zI ?_ | refine zG hX ?_ | refine zO ?_); conv => whnf)
    replace hL : Ev.Loc m S0 w0 m ([(b2, .cells (toArr [.pointer (some ⟨ab, 0, none⟩)]) 47 (0, 0)), (ab, arO (.slice A n c) mb)] ++ [(b6, .cells (toArr (ndC ⟨7, 0, 0, 0, 0, a, 0, false⟩)) 80 (0, 0)), (b3, .cells (toArr (ndC ⟨7, s0, s1, s2, s3, a, b, neg⟩)) 80 (0, 0))]) w := hL
    refine CallReq.li (there_fn m b2 ab mb n c A a) hL ?_
    clear hL
    intro w hL
    replace hL : Ev.Loc m S0 w0 m [(b2, .cells (toArr [.pointer (some ⟨ab, 0, none⟩)]) 47 (0, 0)), (ab, arO (.slice A n c) mb), (b6, .cells (toArr (ndC ⟨7, 0, 0, 0, 0, a, 0, false⟩)) 80 (0, 0)), (b3, .cells (toArr (ndC ⟨7, s0, s1, s2, s3, a, b, neg⟩)) 80 (0, 0))] w := hL
    by_cases ha : 0 ≤ a ∧ a < n
    · rw [decide_eq_true ha]
      conv => whnf
      repeat ((first | refine UGenReq.eqA hX (xs := ndC ⟨7, 0, 0, 0, 0, a, 0, false⟩) (ys := ndC ⟨7, s0, s1, s2, s3, a, b, neg⟩) rfl rfl rfl Tryz.eqGuardType80 rfl rfl (eq_nd _ _) ?_ | refine zT ?_ | refine zF ?_ | refine zL hX hL ?_ | refine zB hX hL ?_ | (refine zS hX hL ?_; clear hL; intro w hL) | refine zI ?_ | refine zG hX ?_ | refine zO ?_); conv => whnf)
      refine RetReq.mk (hL.sublist (.cons _ (.cons_cons _ (List.nil_sublist _)))) ⟨rfl, rfl, congrArg Value.bool ?_⟩
      show _ = (decide (0 ≤ a ∧ a < n) && _)
      rw [decide_eq_true ha]; rfl
    · rw [decide_eq_false ha]
      conv => whnf
      repeat ((first | refine zT ?_ | refine zF ?_ | refine zL hX hL ?_ | refine zB hX hL ?_ | (refine zS hX hL ?_; clear hL; intro w hL) | refine zI ?_ | refine zG hX ?_ | refine zO ?_); conv => whnf)
      refine RetReq.mk (hL.sublist (.cons _ (.cons_cons _ (List.nil_sublist _)))) ⟨rfl, rfl, congrArg Value.bool ?_⟩
      show _ = (decide (0 ≤ a ∧ a < n) && _)
      rw [decide_eq_false ha]; rfl
  by_cases k8 : k = 8
  · subst k8
    replace hL : Ev.Loc m S0 w0 m [(b2, .cells (toArr [.pointer (some ⟨ab, 0, none⟩)]) 47 (0, 0)), (ab, arO (.slice A n c) mb), (b6, .cells (toArr (ndC ⟨8, s0, s1, s2, s3, a, b, neg⟩)) 80 (0, 0)), (b3, .cells (toArr (ndC ⟨8, s0, s1, s2, s3, a, b, neg⟩)) 80 (0, 0))] w := hL
    conv => whnf
    repeat ((first | refine zT ?_ | refine zF ?_ | refine zL hX hL ?_ | refine zB hX hL ?_ | (refine zS hX hL ?_; clear hL; intro w hL) | refine zI ?_ | refine zG hX ?_ | refine zO ?_); conv => whnf)
    by_cases ha : 0 ≤ a
    · by_cases ha4 : a < 4
      · conv => whnf
        repeat ((first | (refine BrReq.no (by simp only; omega) ?_) | refine zT ?_ | refine zF ?_ | refine zL hX hL ?_ | refine zB hX hL ?_ | (refine zS hX hL ?_; clear hL; intro w hL) | refine zI ?_ | refine zG hX ?_ | refine zO ?_); conv => whnf)
        conv => whnf
        repeat ((first | refine UGenReq.eqA hX (xs := ndC ⟨8, 0, 0, 0, 0, a, 0, neg⟩) (ys := ndC ⟨8, s0, s1, s2, s3, a, b, neg⟩) rfl rfl rfl Tryz.eqGuardType80 rfl rfl (eq_nd _ _) ?_ | refine zT ?_ | refine zF ?_ | refine zL hX hL ?_ | refine zB hX hL ?_ | (refine zS hX hL ?_; clear hL; intro w hL) | refine zI ?_ | refine zG hX ?_ | refine zO ?_); conv => whnf)
        refine RetReq.mk (hL.sublist (.cons _ (.cons_cons _ (List.nil_sublist _)))) ⟨rfl, rfl, congrArg Value.bool ?_⟩
        show _ = (decide (0 ≤ a ∧ a < 4) && _)
        rw [decide_eq_true (show 0 ≤ a ∧ a < 4 from ⟨ha, ha4⟩)]; rfl
      · conv => whnf
        repeat ((first | (refine BrReq.no (by simp only; omega) ?_) | refine zT ?_ | refine zF ?_ | refine zL hX hL ?_ | refine zB hX hL ?_ | (refine zS hX hL ?_; clear hL; intro w hL) | refine zI ?_ | refine zG hX ?_ | refine zO ?_); conv => whnf)
        refine BrReq.yes (by simp only; omega) ?_
        conv => whnf
        repeat ((first | refine zT ?_ | refine zF ?_ | refine zL hX hL ?_ | refine zB hX hL ?_ | (refine zS hX hL ?_; clear hL; intro w hL) | refine zI ?_ | refine zG hX ?_ | refine zO ?_); conv => whnf)
        refine RetReq.mk (hL.sublist (.cons _ (.cons_cons _ (List.nil_sublist _)))) ⟨rfl, rfl, congrArg Value.bool ?_⟩
        show _ = (decide (0 ≤ a ∧ a < 4) && _)
        rw [decide_eq_false (fun h : 0 ≤ a ∧ a < 4 => ha4 h.2)]; rfl
    · conv => whnf
      repeat ((first | (refine BrReq.yes (by simp only; omega) ?_) | refine zT ?_ | refine zF ?_ | refine zL hX hL ?_ | refine zB hX hL ?_ | (refine zS hX hL ?_; clear hL; intro w hL) | refine zI ?_ | refine zG hX ?_ | refine zO ?_); conv => whnf)
      refine RetReq.mk (hL.sublist (.cons _ (.cons_cons _ (List.nil_sublist _)))) ⟨rfl, rfl, congrArg Value.bool ?_⟩
      show _ = (decide (0 ≤ a ∧ a < 4) && _)
      rw [decide_eq_false (fun h : 0 ≤ a ∧ a < 4 => ha h.1)]; rfl
  replace hL : Ev.Loc m S0 w0 m [(b2, .cells (toArr [.pointer (some ⟨ab, 0, none⟩)]) 47 (0, 0)), (ab, arO (.slice A n c) mb), (b6, .cells (toArr (ndC ⟨k, s0, s1, s2, s3, a, b, neg⟩)) 80 (0, 0)), (b3, .cells (toArr (ndC ⟨k, s0, s1, s2, s3, a, b, neg⟩)) 80 (0, 0))] w := hL
  conv => whnf
  repeat ((first | refine BrReq.no (by omega) ?_ | refine zT ?_ | refine zF ?_ | refine zL hX hL ?_ | refine zB hX hL ?_ | (refine zS hX hL ?_; clear hL; intro w hL) | refine zI ?_ | refine zG hX ?_ | refine zO ?_); conv => whnf)
  refine RetReq.mk (hL.sublist (.cons _ (.cons_cons _ (List.nil_sublist _)))) ⟨rfl, rfl, congrArg Value.bool ?_⟩
  unfold rightN
  rw [if_neg (show ¬ (k = 0 ∨ k = 1) by omega), if_neg (show ¬ k = 2 from k2), if_neg (show ¬ (k = 3 ∨ k = 4 ∨ k = 5) by omega), if_neg (show ¬ (k = 6 ∨ k = 7) by omega), if_neg (show ¬ k = 8 from k8)]
end Go.Proofs.YtiololnblplloaaGreat.ar
namespace Go.Proofs.YtiololnblplloaaGreat.ar
open Go Go.Ev Go.Proofs
open Go.Maps (Keyed)
theorem key_nd : Keyed Tryz.prog 80 := Keyed.of_law (deep_law_laid (m := 4) (by kernel_rfl) (by omega) (of_decide_eq_true (by kernel_rfl)) (by kernel_rfl) (by rw [Tryz.underlying80]))
theorem key_int : Keyed Tryz.prog 3 := Go.Maps.int_keyed Tryz.underlying3
theorem isK_int (z : Int) (h : i64 z) : IsK Tryz.prog 3 (.int .i64 z) := ⟨_, Go.Maps.keyOf_int_mk Tryz.underlying3 (by unfold Lit.wf; simp only [Bool.and_eq_true, decide_eq_true_eq]; exact h)⟩
theorem wf_i {z : Int} (h : i64 z) : (Lit.int .i64 z).wf = true := by unfold Lit.wf; simp only [Bool.and_eq_true, decide_eq_true_eq]; exact h
theorem wf_u {z : Int} (h : u64 z) : (Lit.int .u64 z).wf = true := by unfold Lit.wf; simp only [Bool.and_eq_true, decide_eq_true_eq]; exact h
theorem lit_i (d : Nat) {z : Int} (h : i64 z) : Tryz.prog.keyLits (d + 1) 3 [.int .i64 z] = some [.int .i64 z] := by
  unfold Program.keyLits
  simp only [Tryz.underlying3]
  exact if_pos ⟨trivial, wf_i h⟩
theorem lit_u (d : Nat) {z : Int} (h : u64 z) : Tryz.prog.keyLits (d + 1) 26 [.int .u64 z] = some [.int .u64 z] := by
  unfold Program.keyLits
  simp only [Tryz.underlying26]
  exact if_pos ⟨trivial, wf_u h⟩
theorem lit_b (d : Nat) (b : Bool) : Tryz.prog.keyLits (d + 1) 4 [.bool b] = some [.bool b] := by
  unfold Program.keyLits
  simp only [Tryz.underlying4]
theorem lit_set (d : Nat) {a b c e : Int} (h1 : u64 a) (h2 : u64 b) (h3 : u64 c) (h4 : u64 e) :
    Tryz.prog.keyLits (d + 2) 28 [.int .u64 a, .int .u64 b, .int .u64 c, .int .u64 e] = some [.int .u64 a, .int .u64 b, .int .u64 c, .int .u64 e] := by
  have c1 : Tryz.prog.cellsOf 26 = 1 := by kernel_rfl
  have c4 : Tryz.prog.cellsOf 28 = 4 := by kernel_rfl
  unfold Program.keyLits
  simp only [Tryz.underlying28]
  simp only [c1, c4, List.length_cons, List.length_nil, if_true, List.range, List.range.loop, List.mapM_cons, List.mapM_nil, Nat.mul_one, List.drop_zero, List.drop_succ_cons, List.take_succ_cons, List.take_zero, lit_u _ h1, lit_u _ h2, lit_u _ h3, lit_u _ h4]
  rfl
theorem lits_nd (d : Nat) (x : Nd) (h : InN x) : Tryz.prog.keyLits (d + 4) 80 (ndC x) = some [.int .i64 x.k, .int .u64 x.s0, .int .u64 x.s1, .int .u64 x.s2, .int .u64 x.s3, .int .i64 x.a, .int .i64 x.b, .bool x.neg] := by
  have c1 : Tryz.prog.cellsOf 3 = 1 := by kernel_rfl
  have c4 : Tryz.prog.cellsOf 28 = 4 := by kernel_rfl
  have c2 : Tryz.prog.cellsOf 4 = 1 := by kernel_rfl
  have c8 : Tryz.prog.cellsOf 80 = 8 := by kernel_rfl
  unfold Program.keyLits
  simp only [Tryz.underlying80]
  simp only [c8, ndC_len]
  rw [if_pos ⟨trivial, by decide +kernel⟩]
  simp only [List.mapM_cons, List.mapM_nil, c1, c2, c4, ndC, List.drop_zero, List.drop_succ_cons, List.take_succ_cons, List.take_zero, lit_i _ h.k, lit_set _ h.s0 h.s1 h.s2 h.s3, lit_i _ h.a, lit_i _ h.b, lit_b]
  rfl
theorem isK_nd (x : Nd) (h : InN x) : IsK Tryz.prog 80 (.agg (toArr (ndC x))) := by
  have hk : Tryz.prog.keyType 80 = true := by kernel_rfl
  have hs : ∃ d, Tryz.prog.types.size + 1 = d + 4 := ⟨Tryz.prog.types.size - 3, by have : 4 ≤ Tryz.prog.types.size := of_decide_eq_true (by kernel_rfl); omega⟩
  have c8 : Tryz.prog.cellsOf 80 = 8 := by kernel_rfl
  obtain ⟨d, hd⟩ := hs
  have hf : (Value.agg (toArr (ndC x))).formed Tryz.prog 80 = true := by
    unfold Value.formed
    rw [Tryz.underlying80]
    simp only [c8]; rfl
  have hl := lits_nd d x h
  refine ⟨.string (keyBytes [.int .i64 x.k, .int .u64 x.s0, .int .u64 x.s1, .int .u64 x.s2, .int .u64 x.s3, .int .i64 x.a, .int .i64 x.b, .bool x.neg]), ?_⟩
  unfold keyOf
  rw [Tryz.underlying80]
  simp only [hk, hf, Bool.and_true, if_true, hd]
  rw [show (Value.agg (toArr (ndC x))).cells.toList = ndC x from rfl, hl]
  rfl
theorem ndW_keys {ns : List Nd} (h : ∀ x ∈ ns, InN x) : ∀ i, ∀ y ∈ ndW ns i, IsK Tryz.prog 80 y.1 := by
  induction ns with
  | nil => intro i y hy; simp [ndW] at hy
  | cons a l ih =>
    intro i y hy
    rcases List.mem_cons.1 hy with rfl | hy
    · exact isK_nd a (h a (by simp))
    · exact ih (fun x hx => h x (by simp [hx])) _ y hy
end Go.Proofs.YtiololnblplloaaGreat.ar
