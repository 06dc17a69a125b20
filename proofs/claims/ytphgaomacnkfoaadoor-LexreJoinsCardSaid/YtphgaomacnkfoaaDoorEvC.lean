/- A verified evaluator of conditions, part 3: every operation. Conditions: none; over any program whose table of types is the given one. -/
import Derived.Test.YtphgaomacnkfoaaDoorEvB
namespace Go.Ev
open Go

structure Idx2Req (i : Int) (n : Nat) (base : Option Addr) (K : Nat → Addr → Prop) : Prop where
  of ::
  out : ∃ (j : Nat) (a : Addr), i = (j : Int) ∧ j < n ∧ base = some a ∧ K j a

/-- 'j * s', told at once where s is 1. -/
def scale (j : Nat) (s : Nat) : Nat := match s with | 1 => j | s => j * s
theorem scale_eq (j s : Nat) : scale j s = j * s := by unfold scale; split <;> simp

def toArr (l : List Value) : Array Value := l.toArray

def spliceL (cells : List Value) (off : Nat) : List Value → List Value
  | [] => cells
  | v :: r => spliceL (cells.set off v) (off + 1) r

theorem splice_eq (vs : List Value) : ∀ (cells : Array Value) (off j : Nat),
    (List.foldl (fun (cs : Array Value) (x : Value × Nat) => cs.setIfInBounds (off + x.2) x.1) cells (vs.zipIdx j)).toList = spliceL cells.toList (off + j) vs := by
  induction vs with
  | nil => intro cells off j; simp [spliceL]
  | cons v r ih =>
    intro cells off j
    simp only [List.zipIdx_cons, List.foldl_cons, spliceL]
    rw [ih]
    simp [Nat.add_assoc]

/-- A struct's, or an array's, cells: those of nothing, with parts in their places. -/
def fillL (X : Tab) (pl : Nat → (Nat → Nat → Prop) → Prop) (cells : List Value) : List (Nat × Value) → (List Value → Prop) → Prop
  | [], K => K cells
  | (i, v) :: rest, K => pl i fun off size =>
    match Nat.beq v.cells.size size && Nat.ble (off + size) cells.length with
    | true => fillL X pl (spliceL cells off v.cells.toList) rest K
    | false => False

theorem fillL_ok {X : Tab} {pl : Nat → (Nat → Nat → Prop) → Prop} {place : Nat → Option (Nat × Nat)} (hp : ∀ i K, pl i K → ∃ off size, place i = some (off, size) ∧ K off size) (parts : List (Nat × Value)) :
    ∀ (cells : Array Value) (K : List Value → Prop), fillL X pl cells.toList parts K → ∃ cs, Instr.fill place cells parts = some cs ∧ K cs.toList := by
  induction parts with
  | nil => intro cells K h; exact ⟨cells, rfl, h⟩
  | cons p rest ih =>
    obtain ⟨i, v⟩ := p
    intro cells K h
    simp only [fillL] at h
    obtain ⟨off, size, h1, h2⟩ := hp _ _ h
    split at h2
    · rename_i hb
      simp only [Bool.and_eq_true, Nat.ble_eq] at hb
      obtain ⟨b1, b2⟩ := hb
      have b1 := Nat.eq_of_beq_eq_true b1
      have e := splice_eq v.cells.toList cells off 0
      simp only [Nat.add_zero] at e
      rw [← e] at h2
      obtain ⟨cs, g1, g2⟩ := ih _ _ h2
      refine ⟨cs, ?_, g2⟩
      simp only [Instr.fill, h1]
      have hc : (decide (v.cells.size ≠ size) || decide (off + v.cells.size > cells.size)) = false := by
        have e1 : cells.toList.length = cells.size := by simp
        rw [e1] at b2
        rw [b1, decide_eq_false (by simp), decide_eq_false (by omega)]
        rfl
      simp only [hc, Bool.false_eq_true, if_false]
      rw [← g1]
      congr 1
      rw [← Array.foldl_toList]
      simp [Array.toList_zipIdx]
    · exact h2.elim

def structPl (X : Tab) (fs : List (Nat × Nat)) (i : Nat) (K : Nat → Nat → Prop) : Prop :=
  match look fs i with
  | some (off, ft) => tyK X ft fun tf => K off tf.size
  | none => False

def allTy (X : Tab) : List (Nat × Nat) → Prop → Prop
  | [], K => K
  | f :: l, K => tyK X f.2 fun _ => allTy X l K

theorem allTy_out {P : Program} {X : Tab} (hX : TabsOk P X) : ∀ {l : List (Nat × Nat)} {K : Prop}, allTy X l K → (∀ f ∈ l, ∃ ti, tiOf P f.2 = some ti) ∧ K
  | [], K, h => ⟨by simp, h⟩
  | f :: l, K, h => by
    obtain ⟨ti, ht, h⟩ := tyK_out hX h
    obtain ⟨h1, h2⟩ := allTy_out hX h
    exact ⟨fun g hg => by
      rcases List.mem_cons.1 hg with rfl | hg
      · exact ⟨ti, ht⟩
      · exact h1 g hg, h2⟩

def evBuild (X : Tab) (t : Nat) (parts : List (Nat × Value)) (K : Value → Prop) : Prop :=
  tyK X t fun ti => match ti.d with
    | .struct fs => allTy X fs (fillL X (structPl X fs) ti.zero parts fun l => K (.agg (toArr l)))
    | .array _ el => tyK X el fun te => fillL X (fun i K => K (i * te.size) te.size) ti.zero parts fun l => K (.agg (toArr l))
    | _ => False

theorem run_places {P : Program} : ∀ (fields : List Field), (∀ f ∈ fields, ∃ ti, tiOf P f.type = some ti) →
    ∃ pl : List (Nat × Nat), (∀ w, (fields.mapM (fun f : Field => (do pure (f.offset, ← sizeOf f.type) : Sem (Nat × Nat)))).run P w = .ok pl w) ∧ pl.length = fields.length ∧
      ∀ (i : Nat) (f : Field), fields[i]? = some f → ∃ ti, tiOf P f.type = some ti ∧ pl[i]? = some (f.offset, ti.size)
  | [], _ => ⟨[], fun w => by simp, rfl, by simp⟩
  | f :: l, h => by
    obtain ⟨ti, ht⟩ := h f (by simp)
    obtain ⟨pl, h1, h2, h3⟩ := run_places l (fun g hg => h g (by simp [hg]))
    refine ⟨(f.offset, ti.size) :: pl, fun w => by simp only [List.mapM_cons, Sem.run_bind, run_sizeOf ht, Result.andThen_ok, Sem.run_pure, h1], by simp [h2], fun i g hg => ?_⟩
    cases i with
    | zero => simp at hg; subst hg; exact ⟨ti, ht, by simp⟩
    | succ i => simpa using h3 i g (by simpa using hg)

theorem evBuild_run {P : Program} {X : Tab} (hX : TabsOk P X) {t : Nat} {parts : List (Nat × Value)} {K : Value → Prop} (h : evBuild X t parts K) :
    ∃ v, (∀ w, (Instr.build t parts.toArray).run P w = .ok v w) ∧ K v := by
  obtain ⟨ti, ht, h⟩ := tyK_out hX h
  obtain ⟨z, hz, hzc⟩ := run_zeroValue ht
  have hz' : ti.zero = z.cells.toList := hzc.symm
  split at h
  · rename_i fs hd
    obtain ⟨F, hu, hF⟩ := td_struct ht hd
    obtain ⟨ha, h⟩ := allTy_out hX h
    rw [hz'] at h
    obtain ⟨pl, p1, p2, p3⟩ := run_places (P := P) F.toList (fun f hf => ha (f.offset, f.type) (by rw [hF]; exact List.mem_map.2 ⟨f, hf, rfl⟩))
    have hp : ∀ i K, structPl X fs i K → ∃ off size, pl.toArray[i]? = some (off, size) ∧ K off size := by
      intro i K hK
      unfold structPl at hK
      split at hK
      · rename_i off ft hl
        obtain ⟨tf, htf, hK2⟩ := tyK_out hX hK
        rw [look_eq, hF, List.getElem?_map] at hl
        cases hi : F.toList[i]? with
        | none => simp [hi] at hl
        | some f =>
          simp [hi] at hl
          obtain ⟨rfl, rfl⟩ := hl
          obtain ⟨ti', h1, h2⟩ := p3 i f hi
          rw [htf] at h1
          injection h1 with h1
          subst h1
          exact ⟨_, _, by simpa using h2, hK2⟩
      · exact hK.elim
    obtain ⟨cs, g1, g2⟩ := fillL_ok (place := fun i => pl.toArray[i]?) hp parts z.cells _ h
    refine ⟨.agg cs, fun w => ?_, by simpa [toArr] using g2⟩
    have pm : ∀ w, (F.mapM (fun f : Field => (do pure (f.offset, ← sizeOf f.type) : Sem (Nat × Nat)))).run P w = .ok pl.toArray w := by
      intro w
      rw [← Array.toArray_toList (xs := F), List.mapM_toArray]
      simp only [Sem.run_map, p1, Result.andThen_ok]
    simp only [Instr.build, Sem.run_bind, hz, Result.andThen_ok, run_underlying hu, pm]
    rw [g1]
    rfl
  · rename_i n el hd
    have hu := td_array ht hd
    obtain ⟨te, hte, h⟩ := tyK_out hX h
    rw [hz'] at h
    obtain ⟨cs, g1, g2⟩ := fillL_ok (place := fun i => some (i * te.size, te.size)) (fun i K hK => ⟨_, _, rfl, hK⟩) parts z.cells _ h
    refine ⟨.agg cs, fun w => ?_, by simpa [toArr] using g2⟩
    simp only [Instr.build, Sem.run_bind, hz, Result.andThen_ok, run_underlying hu, run_sizeOf hte]
    rw [g1]
    rfl
  · exact h.elim


/-- A slice literal: its cells. -/
def zerosL (n : Nat) (z : List Value) : List Value := match n with | 0 => [] | n + 1 => z ++ zerosL n z
def evBuildSlice (X : Tab) (t len : Nat) (parts : List (Nat × Value)) (K : Nat → List Value → Prop) : Prop :=
  tyK X t fun ti => match ti.d with
    | .slice el => tyK X el fun te => match Nat.ble (len * te.size) 16777216 && Nat.beq te.zero.length te.size with
      | true => fillL X (fun i K => K (i * te.size) te.size) (zerosL len te.zero) parts fun l => K el l
      | false => False
    | _ => False

theorem length_zerosL (n : Nat) (z : List Value) : (zerosL n z).length = n * z.length := by
  induction n with
  | zero => simp [zerosL]
  | succ n ih => simp [zerosL, ih, Nat.add_mul]; omega
theorem getElem?_zerosL (z : List Value) : ∀ (n i : Nat), i < n * z.length → (zerosL n z)[i]? = z[i % z.length]?
  | 0, i, h => by simp at h
  | n + 1, i, h => by
    simp only [zerosL]
    rw [List.getElem?_append]
    split
    · rename_i hlt; rw [Nat.mod_eq_of_lt hlt]
    · rename_i hge
      have hge : z.length ≤ i := Nat.le_of_not_lt hge
      rw [getElem?_zerosL z n (i - z.length) (by rw [Nat.add_mul] at h; omega), ← Nat.mod_eq_sub_mod hge]
theorem zeros_eq (z : Array Value) (n : Nat) : ((Array.range (n * z.size)).map (z[· % z.size]!)).toList = zerosL n z.toList := by
  apply List.ext_getElem?
  intro i
  simp only [Array.toList_map, Array.toList_range, List.getElem?_map]
  by_cases hi : i < n * z.size
  · have hz : 0 < z.size := by rcases Nat.eq_zero_or_pos z.size with h | h; · rw [h] at hi; simp at hi
                               · exact h
    have hm : i % z.size < z.size := Nat.mod_lt _ hz
    rw [getElem?_zerosL z.toList n i (by simpa using hi)]
    simp [hi, hm, getElem!_pos]
  · rw [List.getElem?_eq_none (by simp; omega), List.getElem?_eq_none (by rw [length_zerosL]; simp; omega)]
    rfl

theorem evBuildSlice_run {P : Program} {X : Tab} (hX : TabsOk P X) {t len : Nat} {parts : List (Nat × Value)} {K : Nat → List Value → Prop} (h : evBuildSlice X t len parts K) :
    ∃ el l, (∀ w, (Instr.buildSlice t len parts.toArray).run P w = .ok (.slice (some ⟨w.heap.size, 0, none⟩) len len) { w with heap := w.heap.push (.cells (toArr l) el) }) ∧ K el l := by
  obtain ⟨ti, ht, h⟩ := tyK_out hX h
  split at h
  · rename_i el hd
    obtain ⟨te, hte, h⟩ := tyK_out hX h
    split at h
    · rename_i hb
      simp only [Bool.and_eq_true, Nat.ble_eq] at hb
      obtain ⟨b1, b2⟩ := hb
      have b2 := Nat.eq_of_beq_eq_true b2
      obtain ⟨z, hz, hzc⟩ := run_zeroValue hte
      have hzs : z.cells.size = te.size := by rw [← b2, ← hzc]; simp
      have e0 : zerosL len te.zero = ((Array.range (len * te.size)).map (z.cells[· % z.cells.size]!)).toList := by
        rw [← hzs, zeros_eq, hzc]
      rw [e0] at h
      obtain ⟨cs, g1, g2⟩ := fillL_ok (place := fun i => some (i * te.size, te.size)) (fun i K hK => ⟨_, _, rfl, hK⟩) parts _ _ h
      refine ⟨el, cs.toList, fun w => ?_, g2⟩
      have hcs : toArr cs.toList = cs := by simp [toArr]
      rw [hcs]
      by_cases h0 : len * te.size = 0
      · rw [h0, Array.range_zero', Array.map_empty] at g1
        simp only [Instr.buildSlice, Sem.run_bind, run_underlying (td_slice ht hd), Result.andThen_ok, run_sizeOf hte, h0, show ¬ 0 > 2 ^ 24 from by omega, if_false, if_true, Sem.run_pure, Array.range_zero', Array.map_empty, g1]
        rfl
      · simp only [Instr.buildSlice, Sem.run_bind, run_underlying (td_slice ht hd), Result.andThen_ok, run_sizeOf hte, show ¬ len * te.size > 2 ^ 24 from by omega, if_false, h0, hz, Sem.run_pure]
        rw [g1]
        rfl
    · exact h.elim
  · exact h.elim

end Go.Ev
