/- A verified evaluator of conditions, part 15: maps of one's own, of numbers to numbers. Conditions: none; over any program. -/
import Derived.Test.YtphgaomacnkfoaaDoorEvN
import Derived.MapKept
import Derived.Maps.RangeRun
namespace Go.Ev
open Go
open Go.ChangeMaps (setBlock)
open Go.MapKept (run_setObj_map run_checkKey run_findKey run_keyThatStays IsKey)

section
variable {P : Program} {X : Tab} {N : Nat} {m0 m : Mem} {S : List Nat} {w0 w : World} {L : Own}

/-- Another object in an owned block. -/
theorem Loc.setObj (h : Loc m0 S w0 m L w) {i b : Nat} {o o' : Obj} (hi : look L i = some (b, o)) : Loc m0 S w0 m (L.set i (b, o')) (setBlock w b o') := by
  rw [look_eq] at hi
  have hmem : (b, o) ∈ L := List.mem_of_getElem? hi
  have hb := h.own _ hmem
  have hlt : b < w.heap.size := heap_lt hb
  have hnew : (setBlock w b o').heap[b]? = some o' := by simp [setBlock, hlt]
  have hoth : ∀ k, k ≠ b → (setBlock w b o').heap[k]? = w.heap[k]? := fun k hk => by
    simp only [setBlock]; rw [Array.getElem?_setIfInBounds]; rw [if_neg (fun e => hk e.symm)]
  have hkeys : keys (L.set i (b, o')) = keys L := by
    clear hmem hb hnew hoth h
    induction L generalizing i with
    | nil => simp
    | cons x l ih =>
      cases i with
      | zero => simp at hi; subst hi; simp [keys]
      | succ i => simp only [List.set_cons_succ, keys]; rw [ih (by simpa using hi)]
  have hbk : b ∈ keys L := mem_keys.2 ⟨_, hmem⟩
  refine ⟨h.os, h.tape, h.output, by simpa [setBlock] using h.size, fun k hk hs => ?_, fun c o hc => ?_, fun c o hc => hkeys ▸ h.apart c o hc, fun x hx => ?_, hkeys ▸ h.nodup, fun c hc => h.new c (hkeys ▸ hc), h.le, h.mnew⟩
  · have : k ≠ b := fun e => by
      subst e
      rcases h.new k hbk with h1 | h1
      · omega
      · exact hs h1
    rw [hoth k this]; exact h.fr k hk hs
  · have : c ≠ b := fun e => by subst e; exact h.apart c o hc hbk
    rw [hoth c this]; exact h.sub c o hc
  · obtain ⟨j, hj⟩ := List.getElem?_of_mem hx
    rw [List.getElem?_set] at hj
    split at hj
    · split at hj
      · injection hj with hj; subst hj; exact hnew
      · cases hj
    · rename_i hij
      have hxm := List.mem_of_getElem? hj
      have hne : x.1 ≠ b := fun e => by
        have h1 : (keys L)[i]? = some b := by rw [keys_map, List.getElem?_map, hi]; rfl
        have h2 : (keys L)[j]? = some b := by rw [keys_map, List.getElem?_map, hj]; simp [e]
        have hl1 := (List.getElem?_eq_some_iff.1 h1).1
        exact hij ((List.getElem?_inj hl1 h.nodup).1 (h1.trans h2.symm))
      rw [hoth _ hne]; exact h.own _ hxm

/-! ### a map's entries -/
def ents : Nat → List (Int × Int) → List MapEntry
  | _, [] => []
  | b, x :: l => ⟨.int .i64 x.1, .int .i64 x.2, b⟩ :: ents (b + 1) l
def mapO (l : List (Int × Int)) : Obj := .map (ents 0 l).toArray l.length
def getV (k : Int) : List (Int × Int) → Int
  | [] => 0
  | x :: l => if k = x.1 then x.2 else getV k l
def setV (k v : Int) : List (Int × Int) → List (Int × Int)
  | [] => [(k, v)]
  | x :: l => if k = x.1 then (k, v) :: l else x :: setV k v l
def fnd (k : Int) : List (Int × Int) → Nat → Option (Nat × Value)
  | [], _ => none
  | x :: l, i => if k = x.1 then some (i, .int .i64 x.2) else fnd k l (i + 1)

theorem ents_len : ∀ (l : List (Int × Int)) (b : Nat), (ents b l).length = l.length
  | [], _ => rfl
  | x :: l, b => by simp [ents, ents_len l]
theorem ents_get : ∀ (l : List (Int × Int)) (b i : Nat), (ents b l)[i]? = (l[i]?).map fun x => ⟨.int .i64 x.1, .int .i64 x.2, b + i⟩
  | [], _, _ => by simp [ents]
  | x :: l, b, i => by
    cases i with
    | zero => simp [ents]
    | succ i => simp only [ents, List.getElem?_cons_succ]; rw [ents_get l (b + 1) i]; congr 1; funext x; rw [show b + 1 + i = b + (i + 1) from by omega]
theorem findNow_ents (k : Int) : ∀ (l : List (Int × Int)) (b i : Nat), Instr.findNow (.int .i64) (.int .i64 k) (ents b l) i = some (fnd k l i)
  | [], _, _ => rfl
  | x :: l, b, i => by
    simp only [ents, Instr.findNow, Instr.sameNow, if_true, fnd]
    by_cases h : k = x.1
    · simp [h]
    · have hb : (k == x.1) = false := by simpa using h
      rw [hb, if_neg h]; exact findNow_ents k l (b + 1) (i + 1)
theorem fnd_get (k : Int) : ∀ (l : List (Int × Int)) (i : Nat), (match fnd k l i with | some (_, v) => v | none => .int .i64 0) = .int .i64 (getV k l)
  | [], _ => rfl
  | x :: l, i => by
    by_cases h : k = x.1
    · simp [fnd, getV, h]
    · simp only [fnd, getV, if_neg h]; exact fnd_get k l (i + 1)
theorem fnd_set (k v : Int) : ∀ (l : List (Int × Int)) (i b : Nat), match fnd k l i with
    | some (j, _) => ∃ q, j = i + q ∧ q < l.length ∧ (∃ x, l[q]? = some x ∧ x.1 = k) ∧ (setV k v l).length = l.length ∧ ents b (setV k v l) = (ents b l).modify q (fun e => { e with key := .int .i64 k, val := .int .i64 v })
    | none => setV k v l = l ++ [(k, v)]
  | [], _, _ => rfl
  | x :: l, i, b => by
    by_cases h : k = x.1
    · simp only [fnd, if_pos h, setV]
      exact ⟨0, rfl, by simp, ⟨x, rfl, h.symm⟩, rfl, rfl⟩
    · simp only [fnd, if_neg h, setV]
      have ih := fnd_set k v l (i + 1) (b + 1)
      revert ih
      cases fnd k l (i + 1) with
      | none => intro ih; simp only at ih ⊢; rw [ih]; rfl
      | some p =>
        obtain ⟨j, u⟩ := p
        simp only
        rintro ⟨q, rfl, hq, ⟨y, hy, hyk⟩, hlen, he⟩
        exact ⟨q + 1, by omega, by simpa using hq, ⟨y, by simpa using hy, hyk⟩, by simp [hlen], by simp only [ents, he]; rfl⟩
theorem ents_push (k v : Int) : ∀ (l : List (Int × Int)) (b : Nat), ents b (l ++ [(k, v)]) = ents b l ++ [⟨.int .i64 k, .int .i64 v, b + l.length⟩]
  | [], b => rfl
  | x :: l, b => by simp only [List.cons_append, ents, ents_push k v l (b + 1)]; rw [show b + 1 + l.length = b + (x :: l).length from by simp; omega]

theorem RunReq.makeMap {t : Nat} {K : Value → World → Prop} (hL : Loc m0 S w0 m L w)
    (h : ∀ b w', Loc m0 S w0 m ((b, mapO []) :: L) w' → K (.map (some b)) w') : RunReq P (Instr.makeMap t none) w K := by
  refine ⟨_, _, ?_, h w.heap.size (w.alloc (.map #[] 0)) (hL.alloc _)⟩
  simp [Instr.makeMap, Result.andThen]

theorem rgm {w : World} {r : Nat} {es : Array MapEntry} {clock : Nat} (hb : w.heap[r]? = some (.map es clock)) : (getObj r).run P w = .ok (.map es clock) w := by
  simp [getObj, Sem.run, hb]

theorem run_checkInt {kt : Nat} (hu : P.underlying kt = some (.int .i64)) (k : Int) (e : Bool) (w : World) : (Instr.checkKey e 10000 kt (.int .i64 k)).run P w = .ok () w :=
  run_checkKey hu (by simp [IsKey]) e 9999

theorem RunReq.lookup (hX : TabsOk P X) {t kt vt r : Nat} {ti tk : TI} {k : Int} {l : List (Int × Int)} {K : Value → World → Prop} (ht : look X.T t = some (some ti)) (hd : ti.d = .map kt vt)
    (htk : look X.T kt = some (some tk)) (hk : tk.d = .int .i64) (i : Nat) (hL : Loc m0 S w0 m L w) (hi : look L i = some (r, mapO l))
    (hz0 : (P.info? vt).bind (·.zero) = some (.int .i64 0))
    (h : K (.int .i64 (getV k l)) w) : RunReq P (Instr.lookup t (.map (some r)) (.int .i64 k) false) w K := by
  have hu := td_map (hX.t _ _ ht) hd
  have huk := td_int (hX.t _ _ htk) hk
  have hb : w.heap[r]? = some (.map (ents 0 l).toArray l.length) := hL.own _ (List.mem_of_getElem? (by rw [← look_eq]; exact hi))
  have hz : ∀ w, (zeroValue vt).run P w = .ok (.int .i64 0) w := by
    intro w
    cases hi : P.info? vt with
    | none => rw [hi] at hz0; cases hz0
    | some i => rw [hi] at hz0; simp only [Option.bind_some] at hz0; simp [zeroValue, run_typeInfo hi, hz0]
  refine ⟨_, _, ?_, h⟩
  have hf : (Instr.findKey kt (.int .i64 k) (ents 0 l).toArray.toList).run P w = .ok (fnd k l 0) w := run_findKey huk (by simpa using findNow_ents k l 0 0)
  have hg := fnd_get k l 0
  simp only [Instr.lookup, Sem.run_bind, run_underlying hu, Result.andThen_ok, rgm hb, Sem.run_pure, run_checkInt huk, hf]
  revert hg
  cases fnd k l 0 with
  | none => intro hg; simp only at hg ⊢; simp only [Sem.run_bind, hz, Result.andThen_ok, Sem.run_pure, Bool.false_eq_true, if_false, hg]
  | some p => obtain ⟨j, u⟩ := p; intro hg; simp only at hg; subst hg; simp

theorem RunUReq.update (hX : TabsOk P X) {t kt vt r : Nat} {ti tk : TI} {k v : Int} {l : List (Int × Int)} {K : World → Prop} (ht : look X.T t = some (some ti)) (hd : ti.d = .map kt vt)
    (htk : look X.T kt = some (some tk)) (hk : tk.d = .int .i64) (i : Nat) (hL : Loc m0 S w0 m L w) (hi : look L i = some (r, mapO l))
    (h : ∀ w', Loc m0 S w0 m (L.set i (r, mapO (setV k v l))) w' → K w') : RunUReq P (Instr.mapUpdate t (.map (some r)) (.int .i64 k) (.int .i64 v)) w K := by
  have hu := td_map (hX.t _ _ ht) hd
  have huk := td_int (hX.t _ _ htk) hk
  have hb : w.heap[r]? = some (.map (ents 0 l).toArray l.length) := hL.own _ (List.mem_of_getElem? (by rw [← look_eq]; exact hi))
  refine ⟨_, ?_, h _ (hL.setObj (o' := mapO (setV k v l)) hi)⟩
  have hf : (Instr.findKey kt (.int .i64 k) (ents 0 l).toArray.toList).run P w = .ok (fnd k l 0) w := run_findKey huk (by simpa using findNow_ents k l 0 0)
  have hg := fnd_set k v l 0 0
  simp only [Instr.mapUpdate, Sem.run_bind, run_underlying hu, Result.andThen_ok, rgm hb, run_checkInt huk, hf]
  revert hg
  cases fnd k l 0 with
  | none =>
    intro hg; simp only at hg ⊢
    rw [run_setObj_map _ hb, hg]
    simp only [setBlock, mapO, ents_push, Nat.zero_add, List.length_append, List.length_cons, List.length_nil, List.push_toArray]
  | some p =>
    obtain ⟨j, u⟩ := p
    simp only
    rintro ⟨q, rfl, hq, ⟨x, hx, hxk⟩, hlen, he⟩
    have hkey : (((ents 0 l).toArray[0 + q]?).map (·.key)).getD (.int .i64 k) = .int .i64 k := by
      rw [List.getElem?_toArray, ents_get, show l[0 + q]? = some x from by rw [Nat.zero_add]; exact hx]; simp [hxk]
    simp only [hkey, Sem.run_bind, run_keyThatStays (d := .int .i64) (k := .int .i64 k) (by simp [IsKey]), Result.andThen_ok, run_setObj_map _ hb]
    simp only [setBlock, mapO, he, hlen, Nat.zero_add]
    congr 3
    simp

theorem RunReq.range (hX : TabsOk P X) {t kt vt r : Nat} {ti : TI} {l : List (Int × Int)} {K : Value → World → Prop} (ht : look X.T t = some (some ti)) (hd : ti.d = .map kt vt)
    (i : Nat) (hL : Loc m0 S w0 m L w) (hi : look L i = some (r, mapO l))
    (h : ∀ b w', Loc m0 S w0 m ((b, .mapIter (some r) l.length #[] l.length) :: L) w' → K (.pointer (some ⟨b, 0, none⟩)) w') : RunReq P (Instr.range t (.map (some r))) w K := by
  have hu := td_map (hX.t _ _ ht) hd
  have hb : w.heap[r]? = some (.map (ents 0 l).toArray l.length) := hL.own _ (List.mem_of_getElem? (by rw [← look_eq]; exact hi))
  refine ⟨_, _, ?_, h w.heap.size (w.alloc _) (hL.alloc _)⟩
  simp [Instr.range, run_underlying hu, rgm hb, Result.andThen]

theorem mem_ents {l : List (Int × Int)} {e : MapEntry} (h : e ∈ ents 0 l) : ∃ q x, l[q]? = some x ∧ e = ⟨.int .i64 x.1, .int .i64 x.2, q⟩ := by
  obtain ⟨q, hq⟩ := List.getElem?_of_mem h
  rw [ents_get, Nat.zero_add] at hq
  cases hx : l[q]? with
  | none => rw [hx] at hq; cases hq
  | some x => rw [hx] at hq; simp at hq; exact ⟨q, x, hx, hq.symm⟩
theorem born_ents : ∀ (l : List (Int × Int)) (b : Nat), ((ents b l).map (·.born)).Nodup ∧ ∀ x ∈ (ents b l).map (·.born), b ≤ x
  | [], _ => ⟨by simp [ents], by simp [ents]⟩
  | x :: l, b => by
    obtain ⟨h1, h2⟩ := born_ents l (b + 1)
    refine ⟨?_, ?_⟩
    · simp only [ents, List.map_cons, List.nodup_cons]; exact ⟨fun hc => by have := h2 _ hc; omega, h1⟩
    · intro y hy
      simp only [ents, List.map_cons, List.mem_cons] at hy
      rcases hy with rfl | hy
      · exact Nat.le_refl _
      · have := h2 y hy; omega

theorem RunReq.next {r bm n : Nat} {seen : Array Nat} {l : List (Int × Int)} {ty : TypeId} {K : Value → World → Prop} (i j : Nat) (hL : Loc m0 S w0 m L w)
    (hi : look L i = some (r, .mapIter (some bm) n seen n)) (hj : look L j = some (bm, mapO l)) (hn : n = l.length)
    (h0 : (∀ q, q < l.length → q ∈ seen.toList) → K (.tuple (toArr [.bool false])) w)
    (h1 : ∀ q x w', l[q]? = some x → q ∉ seen.toList → Loc m0 S w0 m (L.set i (r, .mapIter (some bm) n (seen.push q) n)) w' → K (.tuple (toArr [.bool true, .int .i64 x.1, .int .i64 x.2])) w') :
    RunReq P (Instr.next (.pointer (some ⟨r, 0, none⟩)) false ty) w K := by
  have hr : w.heap[r]? = some (.mapIter (some bm) n seen n) := hL.own _ (List.mem_of_getElem? (by rw [← look_eq]; exact hi))
  have hb : w.heap[bm]? = some (.map (ents 0 l).toArray l.length) := hL.own _ (List.mem_of_getElem? (by rw [← look_eq]; exact hj))
  subst hn
  have hold : ∀ x ∈ (ents 0 l).toArray.toList, x.born < l.length := by
    intro x hx
    obtain ⟨q, y, hq, rfl⟩ := mem_ents (by simpa using hx)
    exact (List.getElem?_eq_some_iff.1 hq).1
  rcases run_next_at (P := P) w ty r bm l.length l.length seen (ents 0 l).toArray l.length hr hb hold (Nat.le_refl _) with ⟨hs, hrun⟩ | ⟨e, he, w1, hw1, hrun⟩
  · refine ⟨_, _, hrun, h0 fun q hq => ?_⟩
    refine Classical.byContradiction fun hc => ?_
    have hmem : (⟨.int .i64 (l[q]).1, .int .i64 (l[q]).2, q⟩ : MapEntry) ∈ leftOf (ents 0 l).toArray seen := by
      unfold leftOf
      rw [Array.mem_filter]
      refine ⟨?_, by simpa using hc⟩
      have : (ents 0 l)[q]? = some ⟨.int .i64 (l[q]).1, .int .i64 (l[q]).2, q⟩ := by rw [ents_get, List.getElem?_eq_getElem hq]; simp
      simpa using List.mem_of_getElem? this
    have := Array.size_pos_of_mem hmem
    omega
  · have he' : e ∈ ents 0 l ∧ e.born ∉ seen.toList := by
      unfold leftOf at he
      have := Array.mem_filter.1 (Array.mem_toList_iff.1 he)
      exact ⟨by simpa using this.1, by simpa using this.2⟩
    obtain ⟨q, x, hq, rfl⟩ := mem_ents he'.1
    have hL1 : Loc m0 S w0 m L w1 := by rcases hw1 with rfl | rfl
                                        · exact hL
                                        · exact hL.drew
    exact ⟨_, _, hrun, h1 q x _ hq he'.2 (hL1.setObj (o' := .mapIter (some bm) l.length (seen.push q) l.length) hi)⟩

theorem GenReq.entry {o : Oper} {ρ : Operand → Value} {x : Operand} {r bm n q : Nat} {seen : Array Nat} {l : List (Int × Int)} {y : Int × Int} {K : Value → World → Prop} (ho : o.op = .entry x) (hx : ρ x = .pointer (some ⟨r, 0, none⟩))
    (i j : Nat) (hL : Loc m0 S w0 m L w) (hi : look L i = some (r, .mapIter (some bm) n (seen.push q) n)) (hj : look L j = some (bm, mapO l)) (hn : n = l.length) (hy : l[q]? = some y)
    (h : K (.tuple (toArr [.int .i64 y.1, .int .i64 y.2])) w) : GenReq P o ρ w K := by
  have hr : w.heap[r]? = some (.mapIter (some bm) n (seen.push q) n) := hL.own _ (List.mem_of_getElem? (by rw [← look_eq]; exact hi))
  have hb : w.heap[bm]? = some (.map (ents 0 l).toArray l.length) := hL.own _ (List.mem_of_getElem? (by rw [← look_eq]; exact hj))
  subst hn
  have he : (⟨.int .i64 y.1, .int .i64 y.2, q⟩ : MapEntry) ∈ (ents 0 l).toArray.toList := by
    have : (ents 0 l)[q]? = some ⟨.int .i64 y.1, .int .i64 y.2, q⟩ := by rw [ents_get, hy]; simp
    simpa using List.mem_of_getElem? this
  have hrun := run_entry_at (P := P) w r bm l.length seen (ents 0 l).toArray l.length ⟨.int .i64 y.1, .int .i64 y.2, q⟩ hr hb he (by simpa using (born_ents l 0).1)
  constructor
  unfold OpOk
  simp only [execOp, ho, hx, Sem.run_bind, hrun, Result.andThen_ok, Sem.run_pure, upon]
  exact h

end
end Go.Ev
