/- What the laws of words share: the laid variables; words held against each other. Conditions: none. -/
import Derived.Test.YtphgaomacnkfoaaDoorLxRefF
import Derived.Test.YtphgaomacnkfoaaDoorEvV
import Derived.Test.YtphgaomacnkfoaaDoorEvT
import Derived.Test.YtphgaomacnkfoaaDoorCards
import Derived.Test.YtphgaomacnkfoaaDoorTie
import Derived.LaidMore
import Derived.Stop.LaidErr
import Derived.Lib.LaidTab
import Derived.SevenTiedAt

namespace Go.Proofs.YtphgaomacnkfoaaDoor.lx
open Go Go.Ev Go.Proofs Go.ChangeShapes Go.WideShapes Go.ChangeAt Go.RowKit

theorem pow_data : (Rows.laid_internal_strconv_uint64pow10 : DataW Unit) = Lib.tabData .u64 Lib.pow10Tab := by
  unfold Lib.tabData Lib.pow10Tab Rows.laid_internal_strconv_uint64pow10
  simp only [List.range, List.range.loop, List.map_cons, List.map_nil]
  rfl
theorem star : "*" ++ "errors.errorString" = "*errors.errorString" := by decide
theorem row_err (u : TypeId) (h : Tryd.prog.typeName? 3 u = some "*errors.errorString") : u = 100 :=
  typeName_ptr_named (nm := "errors.errorString") (by rw [star]; kernel_rfl) (by kernel_rfl) (by decide) u (by rw [star]; exact h)
theorem err_cell {W : World} {n : String} {text : List UInt8} {r : List (String × DataW Unit)} {g : Nat} (h : laidMet Tryd.prog ((n, .iface "*errors.errorString" (.ptr (.agg [.lit (.string text)]))) :: r) W)
    (hg : Tryd.prog.globalNamed n = some g) (ht : (Tryd.prog.globals[g]?).map (·.type) = some 71) : ErrMem (memOf W) g := by
  obtain ⟨a, s, hv, -, -, -⟩ := laid_sentinel h hg ht Tryd.underlying71 row_err Tryd.underlying100 Tryd.underlying102 rfl rfl Tryd.underlying9 (by kernel_rfl) (by kernel_rfl)
  refine ⟨100, .pointer (some a), ?_⟩
  have := World.var?_cell hg hv 0
  exact this
/-- What the rows' condition hands the walk. -/
theorem lib_of {W : World} {laid : List (String × DataW Unit)} (e : laid = Rows.lexreReadsRow.laid) (h : laidMetH Tryd.prog laid W) : LibMem (memOf W) := by
  subst e
  rw [MakeChecks.laidMetH_plain _ _ _ (by kernel_rfl)] at h
  have h3 : laidMet Tryd.prog (("internal/strconv.uint64pow10", Lib.tabData .u64 Lib.pow10Tab) :: ("strconv.ErrRange", Rows.laid_strconv_ErrRange) :: ("strconv.ErrSyntax", Rows.laid_strconv_ErrSyntax) :: []) W := by
    rw [← pow_data]
    exact laidMet.tail (laidMet.tail h)
  have h4 := laidMet.tail h3
  have h5 := laidMet.tail h4
  refine ⟨?_, err_cell h5 (by kernel_rfl) (by kernel_rfl), err_cell h4 (by kernel_rfl) (by kernel_rfl)⟩
  obtain ⟨g, hg⟩ : ∃ g, Tryd.prog.globalNamed "internal/strconv.uint64pow10" = some g := by
    obtain ⟨ps, ⟨g', t', cs, fuel, p, q, hg', _⟩, _⟩ := h3
    exact ⟨g', hg'⟩
  have hty : (Tryd.prog.globals[g]?).map (·.type) = some 104 := by
    have : ∀ g, Tryd.prog.globalNamed "internal/strconv.uint64pow10" = some g → (Tryd.prog.globals[g]?).map (·.type) = some 104 := by
      intro g hg
      rw [show Tryd.prog.globalNamed "internal/strconv.uint64pow10" = some 3 from by kernel_rfl] at hg
      cases hg
      kernel_rfl
    exact this g hg
  have htab := Lib.tabIs_of_head hg hty Tryd.underlying104 Tryd.underlying27 (by kernel_rfl) (by kernel_rfl) h3
  unfold Lib.TabIs World.var? at htab
  rw [hg] at htab
  simp only [Option.bind_some] at htab
  cases hb : W.heap[g]? with
  | none => rw [hb] at htab; cases htab
  | some o =>
    rw [hb] at htab
    cases o with
    | cells cs t f =>
      simp only [Option.some.injEq] at htab
      subst htab
      exact ⟨g, t, f, hg, hb⟩
    | _ => cases htab

theorem wC_len (n : Nat) (x : W) : (wC n x).length = 9 := rfl
set_option maxRecDepth 100000 in
theorem same_word (n : Nat) (x : W) : eqS X 9 31 (wC n x) (wC n x) = some true := by
  obtain ⟨k, f, nm, lo, hi⟩ := x
  have e : (bs nm == bs nm) = true := by rw [bs_beq]; simp
  have h : eqS X 9 31 (wC n ⟨k, f, nm, lo, hi⟩) (wC n ⟨k, f, nm, lo, hi⟩) =
      some (decide (k = k) && (decide ((n : Int) = n) && ((decide (((f 0 : Nat) : Int) = (f 0 : Nat)) && (decide (((f 1 : Nat) : Int) = (f 1 : Nat)) && (decide (((f 2 : Nat) : Int) = (f 2 : Nat)) && (decide (((f 3 : Nat) : Int) = (f 3 : Nat)) && true)))) && ((bs nm == bs nm) && (decide (lo = lo) && (decide (hi = hi) && true)))))) := rfl
  rw [h, e]
  simp

theorem awake_fn (m : Mem) (hQ : LibMem m) : FnV Tryd.prog 5 [] m (.bool true) := by
  have hw := Words_fn m hQ [97, 42] (by decide)
  have e1 : (outT [97, 42]).2.1 = 0 := by decide +kernel
  have e2 : (outT [97, 42]).2.2 = 0 := by decide +kernel
  have e3 : (outT [97, 42]).1.length = 2 := by decide +kernel
  have e4 : ((outT [97, 42]).1[1]?).map (fun x => x.2.kind) = some 7 := by decide +kernel
  rw [e1, e2] at hw
  generalize (outT [97, 42]).1 = l at hw e3 e4
  obtain ⟨y, hy, hk⟩ := Option.map_eq_some_iff.1 e4
  refine Fn.enter (N := 23) hX Tryd.func5 rfl rfl (by show _ ≤ _; simp) (fun w0 hL => ?_)
  conv => whnf
  conv => whnf
  repeat ((first | refine BrReq.tt ?_ | refine BrReq.ff ?_ | refine LdReq.own1 hX rfl rfl 0 hL rfl rfl ?_ | refine LdReq.own1 hX rfl rfl 1 hL rfl rfl ?_ | refine LdReq.own1 hX rfl rfl 2 hL rfl rfl ?_ | refine LdReq.own1 hX rfl rfl 3 hL rfl rfl ?_ | refine LdReq.own1 hX rfl rfl 4 hL rfl rfl ?_ | refine LdReq.own1 hX rfl rfl 5 hL rfl rfl ?_ | refine LdReq.own1 hX rfl rfl 6 hL rfl rfl ?_ | refine LdReq.ownA hX rfl rfl 0 hL rfl rfl ?_ | refine LdReq.ownA hX rfl rfl 1 hL rfl rfl ?_ | refine LdReq.ownA hX rfl rfl 2 hL rfl rfl ?_ | refine LdReq.ownA hX rfl rfl 3 hL rfl rfl ?_ | refine LdReq.ownA hX rfl rfl 4 hL rfl rfl ?_ | refine LdReq.ownA hX rfl rfl 5 hL rfl rfl ?_ | refine LdReq.ownA hX rfl rfl 6 hL rfl rfl ?_ | (refine StReq.own hX rfl 0 hL rfl rfl rfl rfl ?_; clear hL; intro w hL) | (refine StReq.own hX rfl 1 hL rfl rfl rfl rfl ?_; clear hL; intro w hL) | (refine StReq.own hX rfl 2 hL rfl rfl rfl rfl ?_; clear hL; intro w hL) | (refine StReq.own hX rfl 3 hL rfl rfl rfl rfl ?_; clear hL; intro w hL) | (refine StReq.own hX rfl 4 hL rfl rfl rfl rfl ?_; clear hL; intro w hL) | (refine StReq.own hX rfl 5 hL rfl rfl rfl rfl ?_; clear hL; intro w hL) | (refine StReq.own hX rfl 6 hL rfl rfl rfl rfl ?_; clear hL; intro w hL) | refine ArReq.i64 (by omega) (by omega) ?_ | refine SeqReq.go hX ?_ | refine OptReq.mk rfl ?_); conv => whnf)
  refine CallReq.pure hw hL ?_
  clear hL
  rintro u m1 w hL hm1 ⟨sl, rfl, hsl⟩
  have hsl' := hsl
  obtain ⟨A, n, c, rfl, hn, -⟩ := hsl
  obtain ⟨a, cs, ea, hl9, hcells, rfl⟩ := hsl'.elem 1 y hy
  cases ea
  replace hL := hL
  conv => whnf
  repeat ((first | refine BrReq.yes (by omega) ?_ | refine Idx2Req.mk 1 a rfl (by omega) rfl ?_ | refine LdReq.one hX rfl rfl hL (hcells 0 _ rfl) ?_ | refine BrReq.tt ?_ | refine BrReq.ff ?_ | refine LdReq.own1 hX rfl rfl 0 hL rfl rfl ?_ | refine LdReq.own1 hX rfl rfl 1 hL rfl rfl ?_ | refine LdReq.own1 hX rfl rfl 2 hL rfl rfl ?_ | refine LdReq.own1 hX rfl rfl 3 hL rfl rfl ?_ | refine LdReq.own1 hX rfl rfl 4 hL rfl rfl ?_ | refine LdReq.own1 hX rfl rfl 5 hL rfl rfl ?_ | refine LdReq.own1 hX rfl rfl 6 hL rfl rfl ?_ | refine LdReq.ownA hX rfl rfl 0 hL rfl rfl ?_ | refine LdReq.ownA hX rfl rfl 1 hL rfl rfl ?_ | refine LdReq.ownA hX rfl rfl 2 hL rfl rfl ?_ | refine LdReq.ownA hX rfl rfl 3 hL rfl rfl ?_ | refine LdReq.ownA hX rfl rfl 4 hL rfl rfl ?_ | refine LdReq.ownA hX rfl rfl 5 hL rfl rfl ?_ | refine LdReq.ownA hX rfl rfl 6 hL rfl rfl ?_ | (refine StReq.own hX rfl 0 hL rfl rfl rfl rfl ?_; clear hL; intro w hL) | (refine StReq.own hX rfl 1 hL rfl rfl rfl rfl ?_; clear hL; intro w hL) | (refine StReq.own hX rfl 2 hL rfl rfl rfl rfl ?_; clear hL; intro w hL) | (refine StReq.own hX rfl 3 hL rfl rfl rfl rfl ?_; clear hL; intro w hL) | (refine StReq.own hX rfl 4 hL rfl rfl rfl rfl ?_; clear hL; intro w hL) | (refine StReq.own hX rfl 5 hL rfl rfl rfl rfl ?_; clear hL; intro w hL) | (refine StReq.own hX rfl 6 hL rfl rfl rfl rfl ?_; clear hL; intro w hL) | refine ArReq.i64 (by omega) (by omega) ?_ | refine SeqReq.go hX ?_ | refine OptReq.mk rfl ?_); conv => whnf)
  refine RetReq.bool hL ?_
  rw [hk]; rfl
end Go.Proofs.YtphgaomacnkfoaaDoor.lx
