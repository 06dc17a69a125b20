/- MacroOrder, proved: in whatever order macros stand, they stand for the same. Conditions: none beyond the row's own. -/
import Derived.Test.YtemdkfohlppckaaGreatDoorMaOrder

namespace Go.Proofs.YtemdkfohlppckaaGreatDoor.mor
open Go Go.Ev Go.Proofs Go.ChangeShapes Go.WideShapes Go.ChangeAt Go.RowKit Go.Proofs.YtemdkfohlppckaaGreatDoor.lx Go.Proofs.YtemdkfohlppckaaGreatDoor.tree

theorem contract (m : Mem) (hQ : LibMem m) (vs : List Value) (hl : vs.length = Tryz.f4.params.size) (hg : ∀ (j : Nat) t v, Tryz.f4.params.toList[j]? = some t → vs[j]? = some v → Given X m t v) :
    Ev.Fn Tryz.prog 4 vs m [] fun _ _ v => v = .bool true := by
  match vs, hl with
  | [va, vb], _ =>
    obtain ⟨l, h1, h2⟩ := ma.macs_of (hg 0 22 va rfl rfl)
    obtain ⟨z, rfl, h3, h4⟩ := (hg 1 5 vb rfl rfl).int (k := .u8) rfl rfl
    exact (ma.order_fn m hQ l va z ⟨h3, h4⟩ h1 h2).mono fun _ _ _ _ h => h.2

theorem spec (H : Type) (ds : List (DataW H)) (h : ds.length = Tryz.f4.params.size) : Rows.macroOrderSpec.fn H ds = { results := [.lit (.bool true)], args := ds } := by
  match ds, h with
  | [_, _], _ => rfl

theorem door_met (os : Os) (args : Array Value) : laidMetH Tryz.prog Rows.macroOrderRow.laid ((World.doorLaid Tryz.prog 4000 os).forCall (fun _ _ => 0) ⟨#[], args, []⟩).memory :=
  laidMetH_of_parts3 (fuel := 8) (laidMet_of_run' 8 (by kernel_rfl) (by kernel_rfl)) (by kernel_rfl) (by kernel_rfl)

set_option maxRecDepth 100000 in
theorem lifted (os : Os) (started : os.Started) (H : Type) (enc : TypeId × Value → H) :
    ReturnsInHanded {} Tryz.checked os 4 .any (fun w args => (Rows.macroOrderSpec.pre enc Tryz.prog Tryz.f4 [] false w args ∧ laidMetH Tryz.prog Rows.macroOrderRow.laid w) ∧ sizedMet enc Tryz.prog Tryz.f4 (OpenSpec.ofChange Rows.macroOrderSpec) false w args)
      (Rows.macroOrderSpec.post enc Tryz.prog Tryz.f4 false true false false) := by
  refine returnsInHanded_of_change_and (C := Tryz.checked) (X := fun w _ => laidMetH Tryz.prog Rows.macroOrderRow.laid w) (fun _ _ _ hh h => h.of_heap hh) (by kernel_rfl) started (by kernel_rfl) Tryz.func4
    (ChangeSpec.witness_shaped (enc := enc) (C := Tryz.checked) (os := os) (X := fun w _ => laidMetH Tryz.prog Rows.macroOrderRow.laid w) false (World.doorLaid Tryz.prog 4000 os) #[.slice none 0 0, .int .u8 0] 8 rfl (World.shaped_of_RefB (by kernel_rfl) (by kernel_rfl)) (by kernel_rfl) (by kernel_rfl) (by kernel_rfl) (door_met os _)) ?_
  intro W base args ds gs before hval hW _ hsz hL _
  exact law_coreQ (Q := LibMem) hX (by kernel_rfl) rfl rfl Tryz.underlying4 (by decide +kernel) (fun H ds h => spec H ds h) contract W base args ds gs before hval hW (lib_of rfl hL) hsz

set_option maxRecDepth 100000 in
theorem said : Rows.MacroOrderSaid :=
  OpenClaim.holds_of_wide 4 Tryz.f4 rfl rfl rfl rfl rfl rfl rfl ⟨rfl, rfl, rfl, rfl, rfl⟩ rfl rfl rfl rfl rfl (by kernel_rfl) Tryz.func4 (by kernel_rfl)
    (of_decide_eq_true (by kernel_rfl)) (by unfold Func.isWrapper; first | (rw [if_pos (by decide +kernel)]; kernel_rfl) | (rw [if_neg (by decide +kernel)]; exact ⟨rfl, rfl⟩))
    (fun os started H enc _ => lifted os started H enc)

theorem proved : Rows.MacroOrderCardSaid :=
  Claim7.holds_tied_plain_at .later [] [.data, .data, .data, .sentinel, .sentinel] true (true, "0998bd8d9f07011173d31caa957d98eb81536a73f29d19910d78b7833ddfb18e") true
    said (fun _ h => by cases h) (by kernel_rfl) (fun _ h => by cases h) macroOrder_row_tie rfl ⟨rfl, rfl⟩ (by kernel_rfl) rfl
    (fun f fn hf hfn => by
      obtain rfl : f = 4 := Option.some.inj ((show Tryz.prog.funcNamed "bolter/bolterlaw07.MacroOrder" = some 4 by kernel_rfl).symm.trans hf) |>.symm
      obtain rfl : fn = Tryz.f4 := (Option.some.inj (Tryz.func4.symm.trans hfn)).symm
      exact ⟨by kernel_rfl, fun j t ht => by
        rw [Tryz.params4] at ht
        have hm : t ∈ [22, 5] := by simpa using Array.mem_of_getElem? ht
        have hall : ([22, 5].all fun u => !Tryz.prog.wantsStandIn u) = true := by kernel_rfl
        exact (show Tryz.prog.wantsStandIn t = false by simpa using List.all_eq_true.1 hall t hm)⟩)
    (by kernel_rfl)
#print axioms proved
end Go.Proofs.YtemdkfohlppckaaGreatDoor.mor
