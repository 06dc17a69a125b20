/- FormulaKeys, proved: a tied card. Conditions: none beyond the row's own. -/
import Derived.Test.YtcbcfhfagpeeeaaDoorFkKeys
import Derived.Test.YtcbcfhfagpeeeaaDoorEvT
import Derived.Test.YtcbcfhfagpeeeaaDoorCards
import Derived.Test.YtcbcfhfagpeeeaaDoorTie
import Derived.LaidMore
import Derived.Stop.LaidErr
import Derived.Lib.LaidTab
import Derived.LaidMore
import Derived.SevenTiedAt

namespace Go.Proofs.YtcbcfhfagpeeeaaDoor.fk
open Go Go.Ev Go.Proofs Go.ChangeShapes Go.WideShapes Go.ChangeAt Go.RowKit

theorem given_fm {m : Mem} {v : Value} (h : Given X m 23 v) : ∃ f, FmV m v f ∧ Held f ∧ Nums f := by
  obtain ⟨f, hf, -⟩ := h.slice (α := List Int) (R := fun cs p => prV m cs p ∧ p.length ≤ 1000000000000000 ∧ ∀ n ∈ p, -9223372036854775808 ≤ n ∧ n ≤ 9223372036854775807) rfl rfl rfl fun n cs _ hr => by
    obtain ⟨v, l, rfl, hl, hb⟩ := rdf_slice' (α := Int) (R := fun cs z => cs = [.int .i64 z] ∧ -9223372036854775808 ≤ z ∧ z ≤ 9223372036854775807) rfl rfl rfl (fun n' cs _ hr => by
      obtain ⟨z, e, h1, h2⟩ := rdf_int (k := .i64) rfl rfl hr
      exact ⟨z, e, h1, h2⟩) hr
    refine ⟨l, ⟨v, rfl, Sl.le hl (Mem.Le.refl _) fun cs z _ hz => hz.1⟩, ?_, fun z hz => ?_⟩
    · rw [reach_val] at hb
      have hb' : l.length * 8 ≤ 140737488351232 := hb
      omega
    · obtain ⟨cs, h⟩ := Sl.all hl z hz
      exact h.2
  refine ⟨f, Sl.le hf (Mem.Le.refl _) fun cs p _ hp => hp.1, fun p hp => ?_, fun p hp => ?_⟩
  · obtain ⟨cs, h⟩ := Sl.all hf p hp
    exact h.2.1
  · obtain ⟨cs, h⟩ := Sl.all hf p hp
    exact h.2.2

theorem contract (m : Mem) (hQ : TabMem m) (vs : List Value) (hl : vs.length = Tryd.f3.params.size) (hg : ∀ (j : Nat) t v, Tryd.f3.params.toList[j]? = some t → vs[j]? = some v → Given X m t v) :
    Ev.Fn Tryd.prog 3 vs m [] fun _ _ v => v = .bool true := by
  match vs, hl with
  | [v1, v2], _ =>
    obtain ⟨f, hf, k1, i1⟩ := given_fm (hg 0 23 v1 rfl rfl)
    obtain ⟨g, hg', k2, i2⟩ := given_fm (hg 1 23 v2 rfl rfl)
    exact (law_fn m hQ v1 v2 f g hf hg' k1 k2 i1 i2).mono fun _ _ _ _ h => h.2

theorem spec (H : Type) (ds : List (DataW H)) (h : ds.length = Tryd.f3.params.size) : Rows.formulaKeysSpec.fn H ds = { results := [.lit (.bool true)], args := ds } := by
  match ds, h with
  | [_, _], _ => rfl

theorem pow_data : (Rows.laid_internal_strconv_uint64pow10 : DataW Unit) = Lib.tabData .u64 Lib.pow10Tab := by
  unfold Lib.tabData Lib.pow10Tab Rows.laid_internal_strconv_uint64pow10
  simp only [List.range, List.range.loop, List.map_cons, List.map_nil]
  rfl
/-- What the row's condition hands the walk: the table of powers. -/
theorem tab_of {W : World} (h : laidMetH Tryd.prog Rows.formulaKeysRow.laid W) : TabMem (memOf W) := by
  rw [MakeChecks.laidMetH_plain _ _ _ (by kernel_rfl)] at h
  have h3 : laidMet Tryd.prog (("internal/strconv.uint64pow10", Lib.tabData .u64 Lib.pow10Tab) :: []) W := by
    rw [← pow_data]
    exact laidMet.tail (laidMet.tail h)
  obtain ⟨g, hg⟩ : ∃ g, Tryd.prog.globalNamed "internal/strconv.uint64pow10" = some g := by
    obtain ⟨ps, ⟨g', t', cs, fuel, p, q, hg', _⟩, _⟩ := h3
    exact ⟨g', hg'⟩
  have hty : (Tryd.prog.globals[g]?).map (·.type) = some 69 := by
    have : ∀ g, Tryd.prog.globalNamed "internal/strconv.uint64pow10" = some g → (Tryd.prog.globals[g]?).map (·.type) = some 69 := by
      intro g hg
      rw [show Tryd.prog.globalNamed "internal/strconv.uint64pow10" = some 0 from by kernel_rfl] at hg
      cases hg
      kernel_rfl
    exact this g hg
  have htab := Lib.tabIs_of_head hg hty Tryd.underlying69 Tryd.underlying62 (by kernel_rfl) (by kernel_rfl) h3
  unfold Lib.TabIs World.var? at htab
  rw [hg] at htab
  simp only [Option.bind_some] at htab
  cases hb : W.heap[g]? with
  | none => rw [hb] at htab; cases htab
  | some o =>
    rw [hb] at htab
    cases o with
    | cells cs t f =>
      simp only [Option.some.injEq] at htab
      subst htab
      exact ⟨g, t, f, hg, hb⟩
    | _ => cases htab

theorem door_met (os : Os) (args : Array Value) : laidMetH Tryd.prog Rows.formulaKeysRow.laid ((World.doorLaid Tryd.prog 4000 os).forCall (fun _ _ => 0) ⟨#[], args, []⟩).memory :=
  laidMetH_of_parts3 (fuel := 8) (laidMet_of_run' 8 (by kernel_rfl) (by kernel_rfl)) (by kernel_rfl) (by kernel_rfl)

set_option maxRecDepth 100000 in
theorem lifted (os : Os) (started : os.Started) (H : Type) (enc : TypeId × Value → H) :
    ReturnsInHanded {} Tryd.checked os 3 .any (fun w args => (Rows.formulaKeysSpec.pre enc Tryd.prog Tryd.f3 [] false w args ∧ laidMetH Tryd.prog Rows.formulaKeysRow.laid w) ∧ sizedMet enc Tryd.prog Tryd.f3 (OpenSpec.ofChange Rows.formulaKeysSpec) false w args)
      (Rows.formulaKeysSpec.post enc Tryd.prog Tryd.f3 false true false false) := by
  refine returnsInHanded_of_change_and (C := Tryd.checked) (X := fun w _ => laidMetH Tryd.prog Rows.formulaKeysRow.laid w) (fun _ _ _ hh h => h.of_heap hh) (by kernel_rfl) started (by kernel_rfl) Tryd.func3
    (ChangeSpec.witness_shaped (enc := enc) (C := Tryd.checked) (os := os) (X := fun w _ => laidMetH Tryd.prog Rows.formulaKeysRow.laid w) false (World.doorLaid Tryd.prog 4000 os) #[.slice none 0 0, .slice none 0 0] 8 rfl (World.shaped_of_RefB (by kernel_rfl) (by kernel_rfl)) (by kernel_rfl) (by kernel_rfl) (by kernel_rfl) (door_met os _)) ?_
  intro W base args ds gs before hval hW _ hsz hL _
  exact law_coreQ (Q := TabMem) hX (by kernel_rfl) rfl rfl Tryd.underlying4 (by decide +kernel) (fun H ds h => spec H ds h) contract W base args ds gs before hval hW (tab_of hL) hsz

set_option maxRecDepth 100000 in
theorem said : Rows.FormulaKeysSaid :=
  OpenClaim.holds_of_wide 3 Tryd.f3 rfl rfl rfl rfl rfl rfl rfl ⟨rfl, rfl, rfl, rfl, rfl⟩ rfl rfl rfl rfl rfl (by kernel_rfl) Tryd.func3 (by kernel_rfl)
    (of_decide_eq_true (by kernel_rfl)) (by unfold Func.isWrapper; first | (rw [if_pos (by decide +kernel)]; kernel_rfl) | (rw [if_neg (by decide +kernel)]; exact ⟨rfl, rfl⟩))
    (fun os started H enc _ => lifted os started H enc)

theorem proved : Rows.FormulaKeysCardSaid :=
  Claim7.holds_tied_plain_at .later [] [.data, .data, .data] true (true, "32eb637efa0e668e2738a75120e743028a62ccee5a8f040e7d1359ca7da53973") false
    said (fun _ h => by cases h) (by kernel_rfl) (fun _ h => by cases h) formulaKeys_row_tie rfl ⟨rfl, rfl⟩ (by kernel_rfl) rfl
    (fun f fn hf hfn => by
      obtain rfl : f = 3 := Option.some.inj ((show Tryd.prog.funcNamed "bolter/bolterlaw11.FormulaKeys" = some 3 by kernel_rfl).symm.trans hf) |>.symm
      obtain rfl : fn = Tryd.f3 := (Option.some.inj (Tryd.func3.symm.trans hfn)).symm
      exact ⟨by kernel_rfl, fun j t ht => by
        rw [Tryd.params3] at ht
        have hm : t ∈ [23, 23] := by simpa using Array.mem_of_getElem? ht
        have hall : ([23, 23].all fun u => !Tryd.prog.wantsStandIn u) = true := by kernel_rfl
        exact (show Tryd.prog.wantsStandIn t = false by simpa using List.all_eq_true.1 hall t hm)⟩)
    (by kernel_rfl)
#print axioms proved
end Go.Proofs.YtcbcfhfagpeeeaaDoor.fk
