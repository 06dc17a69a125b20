/- MacroExpands, proved: each macro stands for its text, in which each name stands for what it does; a wrong one is told, where it is. Conditions: none beyond the row's own. -/
import Derived.Test.YtemdkfohlppckaaGreatDoorMaLaw

namespace Go.Proofs.YtemdkfohlppckaaGreatDoor.mex
open Go Go.Ev Go.Proofs Go.ChangeShapes Go.WideShapes Go.ChangeAt Go.RowKit Go.Proofs.YtemdkfohlppckaaGreatDoor.lx Go.Proofs.YtemdkfohlppckaaGreatDoor.tree

theorem contract (m : Mem) (hQ : LibMem m) (vs : List Value) (hl : vs.length = Tryz.f3.params.size) (hg : ∀ (j : Nat) t v, Tryz.f3.params.toList[j]? = some t → vs[j]? = some v → Given X m t v) :
    Ev.Fn Tryz.prog 3 vs m [] fun _ _ v => v = .bool true := by
  match vs, hl with
  | [va], _ =>
    obtain ⟨l, h1, h2⟩ := ma.macs_of (hg 0 22 va rfl rfl)
    exact (ma.expands_fn m hQ l va h1 h2).mono fun _ _ _ _ h => h.2

theorem spec (H : Type) (ds : List (DataW H)) (h : ds.length = Tryz.f3.params.size) : Rows.macroExpandsSpec.fn H ds = { results := [.lit (.bool true)], args := ds } := by
  match ds, h with
  | [_], _ => rfl

theorem door_met (os : Os) (args : Array Value) : laidMetH Tryz.prog Rows.macroExpandsRow.laid ((World.doorLaid Tryz.prog 4000 os).forCall (fun _ _ => 0) ⟨#[], args, []⟩).memory :=
  laidMetH_of_parts3 (fuel := 8) (laidMet_of_run' 8 (by kernel_rfl) (by kernel_rfl)) (by kernel_rfl) (by kernel_rfl)

set_option maxRecDepth 100000 in
theorem lifted (os : Os) (started : os.Started) (H : Type) (enc : TypeId × Value → H) :
    ReturnsInHanded {} Tryz.checked os 3 .any (fun w args => (Rows.macroExpandsSpec.pre enc Tryz.prog Tryz.f3 [] false w args ∧ laidMetH Tryz.prog Rows.macroExpandsRow.laid w) ∧ sizedMet enc Tryz.prog Tryz.f3 (OpenSpec.ofChange Rows.macroExpandsSpec) false w args)
      (Rows.macroExpandsSpec.post enc Tryz.prog Tryz.f3 false true false false) := by
  refine returnsInHanded_of_change_and (C := Tryz.checked) (X := fun w _ => laidMetH Tryz.prog Rows.macroExpandsRow.laid w) (fun _ _ _ hh h => h.of_heap hh) (by kernel_rfl) started (by kernel_rfl) Tryz.func3
    (ChangeSpec.witness_shaped (enc := enc) (C := Tryz.checked) (os := os) (X := fun w _ => laidMetH Tryz.prog Rows.macroExpandsRow.laid w) false (World.doorLaid Tryz.prog 4000 os) #[.slice none 0 0] 8 rfl (World.shaped_of_RefB (by kernel_rfl) (by kernel_rfl)) (by kernel_rfl) (by kernel_rfl) (by kernel_rfl) (door_met os _)) ?_
  intro W base args ds gs before hval hW _ hsz hL _
  exact law_coreQ (Q := LibMem) hX (by kernel_rfl) rfl rfl Tryz.underlying4 (by decide +kernel) (fun H ds h => spec H ds h) contract W base args ds gs before hval hW (lib_of rfl hL) hsz

set_option maxRecDepth 100000 in
theorem said : Rows.MacroExpandsSaid :=
  OpenClaim.holds_of_wide 3 Tryz.f3 rfl rfl rfl rfl rfl rfl rfl ⟨rfl, rfl, rfl, rfl, rfl⟩ rfl rfl rfl rfl rfl (by kernel_rfl) Tryz.func3 (by kernel_rfl)
    (of_decide_eq_true (by kernel_rfl)) (by unfold Func.isWrapper; first | (rw [if_pos (by decide +kernel)]; kernel_rfl) | (rw [if_neg (by decide +kernel)]; exact ⟨rfl, rfl⟩))
    (fun os started H enc _ => lifted os started H enc)

theorem proved : Rows.MacroExpandsCardSaid :=
  Claim7.holds_tied_plain_at .later [] [.data, .data, .data, .sentinel, .sentinel] true (true, "0998bd8d9f07011173d31caa957d98eb81536a73f29d19910d78b7833ddfb18e") true
    said (fun _ h => by cases h) (by kernel_rfl) (fun _ h => by cases h) macroExpands_row_tie rfl ⟨rfl, rfl⟩ (by kernel_rfl) rfl
    (fun f fn hf hfn => by
      obtain rfl : f = 3 := Option.some.inj ((show Tryz.prog.funcNamed "bolter/bolterlaw07.MacroExpands" = some 3 by kernel_rfl).symm.trans hf) |>.symm
      obtain rfl : fn = Tryz.f3 := (Option.some.inj (Tryz.func3.symm.trans hfn)).symm
      exact ⟨by kernel_rfl, fun j t ht => by
        rw [Tryz.params3] at ht
        have hm : t ∈ [22] := by simpa using Array.mem_of_getElem? ht
        have hall : ([22].all fun u => !Tryz.prog.wantsStandIn u) = true := by kernel_rfl
        exact (show Tryz.prog.wantsStandIn t = false by simpa using List.all_eq_true.1 hall t hm)⟩)
    (by kernel_rfl)
#print axioms proved
end Go.Proofs.YtemdkfohlppckaaGreatDoor.mex
