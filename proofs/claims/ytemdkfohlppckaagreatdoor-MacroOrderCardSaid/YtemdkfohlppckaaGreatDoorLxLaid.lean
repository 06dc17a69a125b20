/- The laid variables, as the walks want them. Conditions: none. -/
import Derived.Test.YtemdkfohlppckaaGreatDoorLxLib
import Derived.Test.YtemdkfohlppckaaGreatDoorEv
import Derived.Test.YtemdkfohlppckaaGreatDoorCards
import Derived.Test.YtemdkfohlppckaaGreatDoorTie
import Derived.LaidMore
import Derived.Stop.LaidErr
import Derived.Lib.LaidTab
import Derived.SevenTiedAt

namespace Go.Proofs.YtemdkfohlppckaaGreatDoor.lx
open Go Go.Ev Go.Proofs Go.ChangeShapes Go.WideShapes Go.ChangeAt Go.RowKit

theorem pow_data : (Rows.laid_internal_strconv_uint64pow10 : DataW Unit) = Lib.tabData .u64 Lib.pow10Tab := by
  unfold Lib.tabData Lib.pow10Tab Rows.laid_internal_strconv_uint64pow10
  simp only [List.range, List.range.loop, List.map_cons, List.map_nil]
  rfl
theorem star : "*" ++ "errors.errorString" = "*errors.errorString" := by decide
theorem row_err (u : TypeId) (h : Tryz.prog.typeName? 3 u = some "*errors.errorString") : u = 157 :=
  typeName_ptr_named (nm := "errors.errorString") (by rw [star]; kernel_rfl) (by kernel_rfl) (by decide) u (by rw [star]; exact h)
theorem err_cell {W : World} {n : String} {text : List UInt8} {r : List (String × DataW Unit)} {g : Nat} (h : laidMet Tryz.prog ((n, .iface "*errors.errorString" (.ptr (.agg [.lit (.string text)]))) :: r) W)
    (hg : Tryz.prog.globalNamed n = some g) (ht : (Tryz.prog.globals[g]?).map (·.type) = some 127) : ErrMem (memOf W) g := by
  obtain ⟨a, s, hv, -, -, -⟩ := laid_sentinel h hg ht Tryz.underlying127 row_err Tryz.underlying157 Tryz.underlying159 rfl rfl Tryz.underlying9 (by kernel_rfl) (by kernel_rfl)
  refine ⟨157, .pointer (some a), ?_⟩
  have := World.var?_cell hg hv 0
  exact this
/-- What the rows' condition hands the walk. -/
theorem lib_of {W : World} {laid : List (String × DataW Unit)} (e : laid = [("math/bits.deBruijn32tab", Rows.laid_math_bits_deBruijn32tab), ("math/bits.deBruijn64tab", Rows.laid_math_bits_deBruijn64tab), ("internal/strconv.uint64pow10", Rows.laid_internal_strconv_uint64pow10), ("strconv.ErrRange", Rows.laid_strconv_ErrRange), ("strconv.ErrSyntax", Rows.laid_strconv_ErrSyntax)]) (h : laidMetH Tryz.prog laid W) : LibMem (memOf W) := by
  subst e
  rw [MakeChecks.laidMetH_plain _ _ _ (by kernel_rfl)] at h
  have h3 : laidMet Tryz.prog (("internal/strconv.uint64pow10", Lib.tabData .u64 Lib.pow10Tab) :: ("strconv.ErrRange", Rows.laid_strconv_ErrRange) :: ("strconv.ErrSyntax", Rows.laid_strconv_ErrSyntax) :: []) W := by
    rw [← pow_data]
    exact laidMet.tail (laidMet.tail h)
  have h4 := laidMet.tail h3
  have h5 := laidMet.tail h4
  refine ⟨?_, err_cell h5 (by kernel_rfl) (by kernel_rfl), err_cell h4 (by kernel_rfl) (by kernel_rfl)⟩
  obtain ⟨g, hg⟩ : ∃ g, Tryz.prog.globalNamed "internal/strconv.uint64pow10" = some g := by
    obtain ⟨ps, ⟨g', t', cs, fuel, p, q, hg', _⟩, _⟩ := h3
    exact ⟨g', hg'⟩
  have hty : (Tryz.prog.globals[g]?).map (·.type) = some 161 := by
    have : ∀ g, Tryz.prog.globalNamed "internal/strconv.uint64pow10" = some g → (Tryz.prog.globals[g]?).map (·.type) = some 161 := by
      intro g hg
      rw [show Tryz.prog.globalNamed "internal/strconv.uint64pow10" = some 3 from by kernel_rfl] at hg
      cases hg
      kernel_rfl
    exact this g hg
  have htab := Lib.tabIs_of_head hg hty Tryz.underlying161 Tryz.underlying31 (by kernel_rfl) (by kernel_rfl) h3
  unfold Lib.TabIs World.var? at htab
  rw [hg] at htab
  simp only [Option.bind_some] at htab
  cases hb : W.heap[g]? with
  | none => rw [hb] at htab; cases htab
  | some o =>
    rw [hb] at htab
    cases o with
    | cells cs t f =>
      simp only [Option.some.injEq] at htab
      subst htab
      exact ⟨g, t, f, hg, hb⟩
    | _ => cases htab

theorem libLe {m m' : Mem} (h : Mem.Le m m') (k : LibMem m) : LibMem m' := by
  obtain ⟨k1, ⟨t1, p1, e1⟩, ⟨t2, p2, e2⟩⟩ := k
  exact ⟨k1.le h, ⟨t1, p1, Ev.mcell_le h e1⟩, ⟨t2, p2, Ev.mcell_le h e2⟩⟩
end Go.Proofs.YtemdkfohlppckaaGreatDoor.lx
