/- ToolRefuses: part 10 of 10 of the proof. Conditions: none. -/
import Derived.Test.YtloofgoblodeiaaGreatDoorM2
import Derived.Test.YtloofgoblodeiaaGreatDoorM9
import Derived.Test.YtloofgoblodeiaaGreatDoorM1
import Derived.Lay
namespace Go.Proofs.YtloofgoblodeiaaGreatDoor.tlr
open Go Go.Ev Go.Proofs Go.ChangeShapes Go.WideShapes Go.ChangeAt Go.RowKit
theorem pow_data : (Rows.laid_internal_strconv_uint64pow10 : DataW Unit) = Lib.tabData .u64 Lib.pow10Tab := by
  unfold Lib.tabData Lib.pow10Tab Rows.laid_internal_strconv_uint64pow10
  simp only [List.range, List.range.loop, List.map_cons, List.map_nil]
  rfl
theorem pow_of {W : World} {rest : List (String × DataW Unit)} (h3 : laidMet Tryz.prog (("internal/strconv.uint64pow10", Rows.laid_internal_strconv_uint64pow10) :: rest) W) : fk.TabMem (memOf W) := by
  rw [pow_data] at h3
  have hg : Tryz.prog.globalNamed "internal/strconv.uint64pow10" = some 1 := by kernel_rfl
  have hty : (Tryz.prog.globals[1]?).map (·.type) = some 401 := by kernel_rfl
  have htab := Lib.tabIs_of_head hg hty Tryz.underlying401 Tryz.underlying55 (by kernel_rfl) (by kernel_rfl) h3
  unfold Lib.TabIs World.var? at htab
  rw [hg] at htab
  simp only [Option.bind_some] at htab
  cases hb : W.heap[1]? with
  | none => rw [hb] at htab; cases htab
  | some o =>
    rw [hb] at htab
    cases o with
    | cells cs t f =>
      simp only [Option.some.injEq] at htab
      subst htab
      exact ⟨1, t, f, hg, hb⟩
    | _ => cases htab
def bitTab : List Nat := [0, 1, 56, 2, 57, 49, 28, 3, 61, 58, 42, 50, 38, 29, 17, 4, 62, 47, 59, 36, 45, 43, 51, 22, 53, 39, 33, 30, 24, 18, 12, 5, 63, 55, 48, 27, 60, 41, 37, 16, 46, 35, 44, 21, 52, 32, 23, 11, 54, 26, 40, 15, 34, 20, 31, 10, 25, 14, 19, 9, 13, 8, 7, 6]
theorem bit_data : (Rows.laid_math_bits_deBruijn64tab : DataW Unit) = Lib.tabData .u8 (bitTab.map fun n : Nat => (n : Int)) := by
  unfold Lib.tabData bitTab Rows.laid_math_bits_deBruijn64tab
  simp only [List.map_cons, List.map_nil]
  rfl
theorem bits_of {W : World} {rest : List (String × DataW Unit)} (h3 : laidMet Tryz.prog (("math/bits.deBruijn64tab", Rows.laid_math_bits_deBruijn64tab) :: rest) W) : ∃ t f, memOf W 4 = some (.cells (toArr am.bitV) t f) := by
  rw [bit_data] at h3
  have hg : Tryz.prog.globalNamed "math/bits.deBruijn64tab" = some 4 := by kernel_rfl
  have hty : (Tryz.prog.globals[4]?).map (·.type) = some 441 := by kernel_rfl
  have htab := Lib.tabIs_of_head hg hty Tryz.underlying441 Tryz.underlying5 (by kernel_rfl) (by kernel_rfl) h3
  unfold Lib.TabIs World.var? at htab
  rw [hg] at htab
  simp only [Option.bind_some] at htab
  cases hb : W.heap[4]? with
  | none => rw [hb] at htab; cases htab
  | some o =>
    rw [hb] at htab
    cases o with
    | cells cs t f =>
      simp only [Option.some.injEq] at htab
      subst htab
      refine ⟨t, f, ?_⟩
      show W.heap[4]? = _
      rw [hb]
      rfl
    | _ => cases htab
theorem tab_of {W : World} (h : laidMetH Tryz.prog Rows.toolRefusesRow.laid W) : am.Laid (memOf W) := by
  rw [MakeChecks.laidMetH_plain _ _ _ (by kernel_rfl)] at h
  exact ⟨pow_of (laidMet.tail (laidMet.tail h)), bits_of (laidMet.tail h)⟩
theorem contract (m : Mem) (hm : am.Laid m) (vs : List Value) (hl : vs.length = Tryz.f3.params.size) (hg : ∀ (j : Nat) t v, Tryz.f3.params.toList[j]? = some t → vs[j]? = some v → Given X m t v) :
    Ev.Fn Tryz.prog 3 vs m [] fun _ _ v => v = .bool true := by
  match vs, hl with
  | [v1], _ =>
    obtain ⟨s, rfl, -⟩ := (hg 0 9 v1 rfl rfl).str rfl rfl
    rw [← co.bs_data s]
    exact law_fn m hm s.data.toList
theorem spec (H : Type) (ds : List (DataW H)) (h : ds.length = Tryz.f3.params.size) : Rows.toolRefusesSpec.fn H ds = { results := [.lit (.bool true)], args := ds } := by
  match ds, h with
  | [_], _ => rfl
theorem lay_fits (os : Os) : (World.holding Tryz.prog os ⟨#[], #[], []⟩).layFits Tryz.prog Rows.toolRefusesRow.laid [] = true := by kernel_rfl
theorem lay_ifaces (os : Os) : (World.holding Tryz.prog os ⟨#[], #[], []⟩).layIfaces Tryz.prog Rows.toolRefusesRow.laid (World.laidAll Tryz.prog os Rows.toolRefusesRow.laid) = true := by kernel_rfl
theorem laid_met (os : Os) (args : Array Value) : laidMetH Tryz.prog Rows.toolRefusesRow.laid ((World.laidAll Tryz.prog os Rows.toolRefusesRow.laid).forCall (fun _ _ => 0) ⟨#[], args, []⟩).memory := by
  rw [MakeChecks.laidMetH_plain _ _ _ (by kernel_rfl)]
  exact laidMet_laidAll _ (lay_fits os) (lay_ifaces os)
set_option maxRecDepth 100000 in
theorem lifted (os : Os) (started : os.Started) (H : Type) (enc : TypeId × Value → H) :
    ReturnsInHanded {} Tryz.checked os 3 .any (fun w args => (Rows.toolRefusesSpec.pre enc Tryz.prog Tryz.f3 [] false w args ∧ laidMetH Tryz.prog Rows.toolRefusesRow.laid w) ∧ sizedMet enc Tryz.prog Tryz.f3 (OpenSpec.ofChange Rows.toolRefusesSpec) false w args)
      (Rows.toolRefusesSpec.post enc Tryz.prog Tryz.f3 false true false false) := by
  refine returnsInHanded_of_change_and (C := Tryz.checked) (X := fun w _ => laidMetH Tryz.prog Rows.toolRefusesRow.laid w) (fun _ _ _ hh h => h.of_heap hh) (by kernel_rfl) started (by kernel_rfl) Tryz.func3
    (ChangeSpec.witness_shaped (enc := enc) (C := Tryz.checked) (os := os) (X := fun w _ => laidMetH Tryz.prog Rows.toolRefusesRow.laid w) false (World.laidAll Tryz.prog os Rows.toolRefusesRow.laid) #[.string ⟨#[]⟩] 8 (World.laidAll_os _ _ _)
      (World.shaped_of_ZipB (by kernel_rfl) (by kernel_rfl)) (by kernel_rfl) (by kernel_rfl) (by kernel_rfl) (laid_met os _)) ?_
  intro W base args ds gs before hval hW _ hsz hL _
  exact law_coreQ (Q := am.Laid) hX (by kernel_rfl) rfl rfl Tryz.underlying4 (by decide +kernel) (fun H ds h => spec H ds h) contract W base args ds gs before hval hW (tab_of hL) hsz
set_option maxRecDepth 100000 in
theorem said : Rows.ToolRefusesSaid :=
  OpenClaim.holds_of_wide 3 Tryz.f3 rfl rfl rfl rfl rfl rfl rfl ⟨rfl, rfl, rfl, rfl, rfl⟩ rfl rfl rfl rfl rfl (by kernel_rfl) Tryz.func3 closed
    (of_decide_eq_true (by kernel_rfl)) (by unfold Func.isWrapper; first | (rw [if_pos (by decide +kernel)]; kernel_rfl) | (rw [if_neg (by decide +kernel)]; exact ⟨rfl, rfl⟩))
    (fun os started H enc _ => lifted os started H enc)
theorem proved : Rows.ToolRefusesCardSaid := card_of said
#print axioms proved
end Go.Proofs.YtloofgoblodeiaaGreatDoor.tlr
