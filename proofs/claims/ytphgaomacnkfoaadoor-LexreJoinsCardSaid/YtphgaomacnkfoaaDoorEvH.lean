/- How what a law is given is read, and how a law's contract becomes its statement's core. Conditions: none; over any program. -/
import Derived.Test.YtphgaomacnkfoaaDoorEvG
import Derived.ProofKit
import Derived.Deep.Slices
import Derived.ShutString
import Derived.OpenShut
import Derived.SizedLaws
namespace Go.Ev
open Go Go.ChangeShapes Go.WideShapes Go.ChangeAt Go.RowKit

def memOf (W : World) : Mem := fun b => W.heap[b]?
theorem pre_memOf (W : World) : Pre (memOf W) [] W := ⟨fun _ _ h => h, fun _ _ _ => by simp [keys], fun x h => (by cases h), by simp [keys]⟩
theorem mcell_memOf {W : World} {a : Addr} {v : Value} (h : W.cell? a = some v) : mcell (memOf W) a = some v := by
  unfold World.cell? at h
  unfold mcell memOf ocell
  cases hb : W.heap[a.block]? with
  | none => rw [hb] at h; cases h
  | some o =>
    rw [hb] at h
    cases o with
    | cells c t f =>
      simp only at h
      cases hs : a.spot with
      | none => rw [hs] at h; simpa using h
      | some s => rw [hs] at h; simp at h
    | _ => cases h

/-- Cells, one behind the other. -/
def Cells (m : Mem) (a : Addr) (xs : List Value) : Prop := ∀ j v, xs[j]? = some v → mcell m (a.add j) = some v
theorem Cells.le {m m' : Mem} (h : Mem.Le m m') {a : Addr} {xs : List Value} (hc : Cells m a xs) : Cells m' a xs := fun j v hj => mcell_le h (hc j v hj)

/-- These cells read as a value of this type, to the bottom, so deep. -/
def Rdf (X : Tab) (m : Mem) : Nat → Nat → List Value → Prop
  | 0, _, _ => False
  | n + 1, t, cs => match tyO X t with
    | none => True
    | some ti => match ti.d with
      | .bool => ∃ b, cs = [.bool b]
      | .int k => ∃ z, cs = [.int k z] ∧ k.min ≤ z ∧ z ≤ k.max
      | .str => ∃ s : ByteArray, cs = [.string s] ∧ s.size ≤ reachBytes
      | .slice e => match tyO X e with
        | none => True
        | some te => ∃ A len cap, cs = [.slice A len cap] ∧ len ≤ cap ∧ cap ≤ maxLen ∧ len * te.bytes ≤ reachBytes ∧ ∀ i, i < len → ∃ a cs', A = some a ∧ cs'.length = te.size ∧ Cells m (a.add (scale i te.size)) cs' ∧ Rdf X m n e cs'
      | .struct fs => cs.length = ti.size ∧ ∀ f ∈ fs, match tyO X f.2 with | none => True | some tf => Rdf X m n f.2 ((cs.drop f.1).take tf.size)
      | .array k e => cs.length = ti.size ∧ match tyO X e with | none => True | some te => ∀ i, i < k → Rdf X m n e ((cs.drop (i * te.size)).take te.size)
      | _ => True

theorem tyO_ok {P : Program} {X : Tab} (hX : TabsOk P X) {t : Nat} {ti : TI} (h : tyO X t = some ti) : tiOf P t = some ti := by
  unfold tyO at h
  split at h
  · rename_i ti' hl; cases h; exact hX.t _ _ hl
  · cases h
theorem cellsOf_eq {P : Program} {t : Nat} {ti : TI} (h : tiOf P t = some ti) : P.cellsOf t = ti.size := by
  obtain ⟨i, d, z, hi, _, _, rfl⟩ := tiOf_info h
  simp [Program.cellsOf, hi]

theorem wf_range {k : IntKind} {z : Int} (h : (Lit.int k z).wf = true) : k.min ≤ z ∧ z ≤ k.max := by
  simpa [Lit.wf] using h

theorem bytesOf_eq {P : Program} {t : Nat} {ti : TI} (h : tiOf P t = some ti) : P.bytesOf t = ti.bytes := by
  obtain ⟨i, d, z, hi, _, _, rfl⟩ := tiOf_info h
  simp [Program.bytesOf, hi]

theorem weights_all {H : Type} {P : Program} {e : TypeId} : ∀ {ds : List (DataW H)} {i : Nat} {d : DataW H}, ds[i]? = some d → ∀ n ∈ d.weights P e, n ∈ DataW.weightsAll P e ds
  | d0 :: ds, 0, d, hd, n, hn => by
    simp only [List.getElem?_cons_zero, Option.some.injEq] at hd
    subst hd
    simp only [DataW.weightsAll, List.mem_append]
    exact Or.inl hn
  | d0 :: ds, i + 1, d, hd, n, hn => by
    simp only [List.getElem?_cons_succ] at hd
    simp only [DataW.weightsAll, List.mem_append]
    exact Or.inr (weights_all hd n hn)
  | [], _, _, hd, _, _ => by simp at hd

theorem rdf_of_trod {P : Program} {X : Tab} (hX : TabsOk P X) {H : Type} {enc : TypeId × Value → H} {W : World} {base : Nat} {sp : Nat → Bool} {held : Bool} :
    ∀ (n : Nat) (t : Nat) (cs : List Value) (x : DataW H × List MemPlace), DataW.trod enc P W base sp held n t cs = some x → (∀ q ∈ x.1.weights P t, q ≤ reachBytes) → Rdf X (memOf W) n t cs := by
  intro n
  induction n with
  | zero => intro t cs x h; simp [DataW.trod] at h
  | succ n ih =>
    intro t cs x h hw
    unfold Rdf
    cases ho : tyO X t with
    | none => trivial
    | some ti =>
      have ht := tyO_ok hX ho
      simp only
      cases hd : ti.d with
      | bool => obtain ⟨b, h1, _⟩ := DataW.trod_bool (td_bool ht hd) h; exact ⟨b, h1⟩
      | int k => obtain ⟨z, h1, _, h2⟩ := DataW.trod_int (td_int ht hd) h; exact ⟨z, h1, wf_range h2⟩
      | str => obtain ⟨s, h1, rfl, h2⟩ := DataW.trod_string (td_str ht hd) h; exact ⟨s, h1, hw _ (by simp [DataW.weights])⟩
      | slice e =>
        simp only
        cases he : tyO X e with
        | none => trivial
        | some te =>
          simp only
          have hte := tyO_ok hX he
          rcases DataW.trod_slice (td_slice ht hd) h with ⟨h1, _⟩ | ⟨a, len, cap, elems, rest, m, hm, h1, hx, hb, hl, hc, hlen, hel, _, _⟩
          · exact ⟨none, 0, 0, h1, Nat.le_refl _, Nat.zero_le _, by simp, fun i hi => by omega⟩
          · cases hm
            subst hx
            simp only [DataW.weights, td_slice ht hd, List.mem_cons, List.mem_append] at hw
            have hby : len * te.bytes ≤ reachBytes := by
              have h2 := hw _ (Or.inl rfl)
              rw [bytesOf_eq hte] at h2
              refine Nat.le_trans (Nat.mul_le_mul_right _ ?_) h2
              simp [hlen]
            refine ⟨some a, len, cap, h1, hl, hc, hby, fun i hi => ?_⟩
            have h2 := hel i hi
            have h3 : elems[i]? = some (elems[i]'(by omega)) := List.getElem?_eq_getElem (by omega)
            rw [h3, cellsOf_eq hte] at h2
            cases hcs : W.cells? base (a.add (i * te.size)) te.size with
            | none => rw [hcs] at h2; cases h2
            | some cs' =>
              rw [hcs] at h2
              obtain ⟨_, hcl, hat⟩ := World.cells?_some hcs
              refine ⟨a, cs', rfl, hcl, fun j v hj => ?_, ih e cs' _ h2 fun q hq => hw q (Or.inr (Or.inl (weights_all (i := i) (by rw [List.getElem?_map, h3]; rfl) q hq)))⟩
              have hjl : j < te.size := by rw [← hcl]; exact (List.getElem?_eq_some_iff.1 hj).1
              rw [scale_eq]
              exact mcell_memOf ((hat j hjl).trans hj)
      | struct fs =>
        simp only
        obtain ⟨F, hu, hF⟩ := td_struct ht hd
        obtain ⟨xs, m, hm, hx, hl, hxl, hf⟩ := DataW.trod_struct hu h
        cases hm
        subst hx
        simp only [DataW.weights, hu] at hw
        refine ⟨by rw [hl, cellsOf_eq ht], fun f hfm => ?_⟩
        cases htf : tyO X f.2 with
        | none => trivial
        | some tf =>
          simp only
          rw [hF] at hfm
          obtain ⟨g, hg, rfl⟩ := List.mem_map.1 hfm
          obtain ⟨i, hi⟩ := List.getElem?_of_mem hg
          have hi' : F[i]? = some g := by simpa using hi
          have h2 := hf i g hi'
          rw [cellsOf_eq (tyO_ok hX htf)] at h2
          have hlt : i < xs.length := by rw [hxl]; exact (Array.getElem?_eq_some_iff.1 hi').1
          rw [List.getElem?_eq_getElem hlt] at h2
          exact ih _ _ _ h2 fun q hq => hw q (DataW.weights_mem_each (j := i) (t := g.type) (by rw [List.getElem?_map, hi]; rfl) (by rw [List.getElem?_map, List.getElem?_eq_getElem hlt]; rfl) q hq)
      | array k e =>
        simp only
        obtain ⟨xs, m, hm, hx, hl, hxl, hf⟩ := DataW.trod_array (td_array ht hd) h
        cases hm
        subst hx
        simp only [DataW.weights, td_array ht hd] at hw
        refine ⟨by rw [hl, cellsOf_eq ht], ?_⟩
        cases hte : tyO X e with
        | none => trivial
        | some te =>
          simp only
          intro i hi
          have h2 := hf i hi
          rw [cellsOf_eq (tyO_ok hX hte)] at h2
          rw [List.getElem?_eq_getElem (by omega)] at h2
          exact ih _ _ _ h2 fun q hq => hw q (weights_all (i := i) (by rw [List.getElem?_map, List.getElem?_eq_getElem (by omega)]; rfl) q hq)
      | _ => trivial

/-- The value has the form of its type. -/
def Shp (X : Tab) (t : Nat) (v : Value) : Prop := match tyO X t with
  | none => True
  | some ti => match ti.d.isAgg with
    | true => ∃ cs, v = .agg (toArr cs)
    | false => v.cells = #[v]

theorem shp_of_ok {P : Program} {X : Tab} (hX : TabsOk P X) {W : World} {r : Reach} {base t : Nat} {v : Value} (h : Value.okWide P W r base t v) : Shp X t v := by
  unfold Shp
  cases ho : tyO X t with
  | none => trivial
  | some ti =>
    have ht := tyO_ok hX ho
    simp only
    cases hd : ti.d with
    | struct fs =>
      obtain ⟨F, hu, _⟩ := td_struct ht hd
      unfold Value.okWide at h
      rw [hu] at h
      obtain ⟨cs, h1, _⟩ := h
      exact ⟨cs.toList, by rw [h1]; simp [toArr]⟩
    | array n e =>
      unfold Value.okWide at h
      rw [td_array ht hd] at h
      obtain ⟨cs, h1, _⟩ := h
      exact ⟨cs.toList, by rw [h1]; simp [toArr]⟩
    | bool => obtain ⟨b, rfl⟩ := okWide_bool (td_bool ht hd) h; rfl
    | int k => obtain ⟨b, rfl⟩ := okWide_int (td_int ht hd) h; rfl
    | str => obtain ⟨b, rfl⟩ := okWide_string (td_str ht hd) h; rfl
    | slice e => obtain ⟨a, l, c, rfl⟩ := okWide_slice (td_slice ht hd) h; rfl
    | _ =>
      obtain ⟨i, d, z, _, hu, _, rfl⟩ := tiOf_info ht
      unfold Value.okWide at h
      rw [hu] at h
      have hnc : ∀ cs, v ≠ .agg cs := by
        intro cs hv
        subst hv
        cases d <;> simp_all [tdOf, Cell.okWide, Cell.ok]
      simp only [TD.isAgg]
      cases v <;> first | rfl | exact absurd rfl (hnc _)

/-- What a law is given. -/
def Given (X : Tab) (m : Mem) (t : Nat) (v : Value) : Prop := Shp X t v ∧ ∃ n, Rdf X m n t v.cells.toList

theorem given_all {P : Program} {X : Tab} (hX : TabsOk P X) {H : Type} {enc : TypeId × Value → H} {W : World} {base : Nat} {sp : Nat → Bool} {held : Bool} :
    ∀ (ts : List TypeId) (vs : List Value) (ds : List (DataW H)) (ps : List MemPlace), DataW.TrodAll enc P W base sp held ts vs ds ps → (∀ q ∈ DataW.weightsEach P ts ds, q ≤ reachBytes) →
      ts.length = vs.length ∧ ds.length = ts.length ∧ ∀ (j : Nat) (t : TypeId) (v : Value), ts[j]? = some t → vs[j]? = some v → ∃ n, Rdf X (memOf W) n t v.cells.toList
  | [], [], [], _, _, _ => ⟨rfl, rfl, by simp⟩
  | t :: ts, v :: vs, d :: ds, ps, h, hw => by
    obtain ⟨p, q, ⟨n, hn⟩, h2, _⟩ := h
    simp only [DataW.weightsEach, List.mem_append] at hw
    obtain ⟨h3, h4, h5⟩ := given_all hX ts vs ds q h2 fun q hq => hw q (Or.inr hq)
    refine ⟨by simp [h3], by simp [h4], fun j t' v' ht hv => ?_⟩
    cases j with
    | zero => simp at ht hv; subst ht hv; exact ⟨n, rdf_of_trod hX n _ _ _ hn fun q hq => hw q (Or.inl hq)⟩
    | succ j => exact h5 j t' v' (by simpa using ht) (by simpa using hv)

theorem trodAll_stays {P : Program} {H : Type} {enc : TypeId × Value → H} {W W' : World} (hl : laidOutB P = true) {sp : Nat → Bool} :
    ∀ (ts : List TypeId) (vs : List Value) (ds : List (DataW H)) (ps : List MemPlace), (∀ t ∈ ts, P.readableRec t = true ∧ t < P.types.size) →
      DataW.TrodAll enc P W 0 (fun _ => true) true ts vs ds ps → (∀ p ∈ ps, W.sameAt W' p) → (∀ p ∈ ps, sp p.block = true) → DataW.TrodAll enc P W' 0 sp true ts vs ds ps
  | [], [], [], _, _, h, _, _ => h
  | t :: ts, v :: vs, d :: ds, ps, hr, h, hs, hsp => by
    obtain ⟨p, q, h1, h2, rfl⟩ := h
    exact ⟨p, q, WideElems.Trod_stays hl (hr t (by simp)).1 (hr t (by simp)).2 h1 (fun x hx => hs x (List.mem_append_left _ hx)) (fun x hx => hsp x (List.mem_append_left _ hx)),
      trodAll_stays hl ts vs ds q (fun t ht => hr t (List.mem_cons_of_mem _ ht)) h2 (fun x hx => hs x (List.mem_append_right _ hx)) (fun x hx => hsp x (List.mem_append_right _ hx)), rfl⟩
  | [], [], _ :: _, _, _, h, _, _ => h.elim
  | [], _ :: _, _, _, _, h, _, _ => by cases h
  | _ :: _, [], _, _, _, h, _, _ => by cases h
  | _ :: _, _ :: _, [], _, _, h, _, _ => by cases h

theorem Loc.below {m0 m : Mem} {w0 w : World} {L : Own} (h : Loc m0 [] w0 m L w) : Below w0.heap.size w0 w :=
  ⟨h.os, h.tape, h.output, h.size, fun k hk => h.fr k hk (by simp)⟩

theorem post_of_below {P : Program} {H : Type} {enc : TypeId × Value → H} {f : Func} {s : ChangeSpec} {apart fresh handsOn again : Bool} {W W' : World} {args : Array Value} {v : Value} {ds gs : List (DataW H)} {before pa pv : List MemPlace}
    (hW : DataW.Whole enc P f.params.toList s.vars apart W args.toList ds gs before)
    (hres : ∀ (b : Nat) (sp : Nat → Bool) (hd : Bool), DataW.TrodAll enc P W' b sp hd f.resultTypes.toList (v.resultList f.resultTypes.size) (s.fn H (ds ++ gs)).results [])
    (hargs : ∀ sp : Nat → Bool, (∀ p ∈ before, sp p.block = true) → DataW.TrodAll enc P W' 0 sp true f.params.toList args.toList (s.fn H (ds ++ gs)).args pa)
    (hvars : ∀ sp : Nat → Bool, (∀ p ∈ before, sp p.block = true) → DataW.TrodVars enc P W' sp s.vars (s.fn H (ds ++ gs)).vars pv)
    (hps : before = pa ++ pv) (hb : Below W.heap.size W W')
    (hok : ∀ (j : Nat) (t : TypeId) (r : Value), f.resultTypes[j]? = some t → (v.resultList f.resultTypes.size)[j]? = some r → Value.okWide P W' .any 0 t r) :
    s.post enc P f apart fresh handsOn again W args v W' := by
  have hlt : ∀ p ∈ before, p.block < W.heap.size := fun p hp => hW.lt p hp
  have hold : ∀ p ∈ before, (fun b => decide (b < W.heap.size)) p.block = true := fun p hp => by simpa using hlt p hp
  refine ⟨ds, gs, before, [], pa, pv, hW, hres _ _ _, hargs _ hold, hvars _ hold, World.keptBut_mono (fun p hp => ⟨hp, ?_⟩) (hb.frame (· ∈ before)), fun _ => ?_⟩
  · rw [hps, List.mem_append] at hp
    exact Or.inr hp
  · obtain ⟨_, _, _, _, _, hz, hn⟩ := hW
    refine ⟨hok, _, _, ([] ++ pa) ++ pv, ⟨[] ++ pa, pv, trodAll_append (hargs _ (fun _ _ => rfl)) (hres _ _ _), hvars _ (fun _ _ => rfl), rfl, ?_, ?_⟩, ?_⟩
    · intro b off hp
      have hin : MemPlace.cell b off ∈ before := by rw [hps]; simpa using hp
      rw [hb.frozen (hlt _ hin)]
      exact hz b off hin
    · intro ha
      have := hn ha
      rw [hps] at this
      simpa using this
    · intro p hp _
      rw [hps]
      simpa using hp

/-- A law's core: its contract, as the statement's frame wants it. -/
theorem law_core {P : Program} {X : Tab} (hX : TabsOk P X) (hlay : laidOutB P = true) {f : Nat} {fn : Func} {s : ChangeSpec} {tb : Nat} (hvars : s.vars = []) (hres : fn.resultTypes = #[tb]) (htb : P.underlying tb = some .bool)
    (hread : ∀ t ∈ fn.params.toList, P.readableRec t = true ∧ t < P.types.size)
    (hspec : ∀ (H : Type) (ds : List (DataW H)), ds.length = fn.params.size → s.fn H ds = { results := [.lit (.bool true)], args := ds })
    (contract : ∀ (m : Mem) (vs : List Value), vs.length = fn.params.size → (∀ (j : Nat) t v, fn.params.toList[j]? = some t → vs[j]? = some v → Given X m t v) → Fn P f vs m [] fun _ _ v => v = .bool true)
    {H : Type} {enc : TypeId × Value → H} (W : World) (base : Nat) (args : Array Value) (ds gs : List (DataW H)) (before : List MemPlace)
    (hval : ∀ (j : Nat) t v, fn.params[j]? = some t → args[j]? = some v → Value.okWide P W .any base t v)
    (hW : DataW.Whole enc P fn.params.toList s.vars false W args.toList ds gs before)
    (hsz : (DataW.weightsEach P (fn.params.toList ++ s.plain.varTypes P) (ds ++ gs)).all (· ≤ reachBytes) = true) :
    Calls P f args W fun e W' => ∃ v, e = .returned v ∧ s.post enc P fn false true false false W args v W' := by
  have hW' := hW
  have hlt : ∀ p ∈ before, p.block < W.heap.size := fun p hp => hW.lt p hp
  obtain ⟨p, q, hA, hV, rfl, hfz, hnd⟩ := hW
  have hgs : gs = [] ∧ q = [] := by
    rw [hvars] at hV
    cases gs with
    | nil => exact ⟨rfl, hV⟩
    | cons g gs => exact hV.elim
  obtain ⟨rfl, rfl⟩ := hgs
  have hvt : s.plain.varTypes P = [] := by simp [DataSpec.varTypes, ChangeSpec.plain, hvars]
  rw [hvt, List.append_nil, List.append_nil] at hsz
  obtain ⟨hl, hdl, hrd⟩ := given_all hX _ _ _ _ hA fun q hq => by simpa using List.all_eq_true.1 hsz q hq
  have hsp := hspec H ds (by simpa using hdl)
  have hc := contract (memOf W) args.toList (by simpa using hl.symm) (fun j t v ht hv => ⟨shp_of_ok hX (hval j t v (by simpa using ht) (by simpa using hv)), hrd j t v ht hv⟩) W (pre_memOf W)
  have ha : toArr args.toList = args := by simp [toArr]
  rw [ha] at hc
  refine hc.mono fun e W' ⟨v, m', L', he, hloc, hv⟩ => ⟨v, he, ?_⟩
  subst hv
  have hb := Loc.below hloc
  simp only [List.append_nil] at hW' hlt
  refine post_of_below (pa := p) (pv := []) hW' (fun b sp hd => ?_) (fun sp hsp' => ?_) (fun sp _ => ?_) (by simp) hb (ok_one hres rfl (okWide_bool_mk htb _))
  · rw [List.append_nil, hsp, hres]
    exact trodAll_mk1 (shut_bool htb _)
  · rw [List.append_nil, hsp]
    exact trodAll_stays hlay _ _ _ _ hread hA (fun x hx => hb.same (hlt x hx)) hsp'
  · rw [List.append_nil, hsp, hvars]
    rfl

end Go.Ev
