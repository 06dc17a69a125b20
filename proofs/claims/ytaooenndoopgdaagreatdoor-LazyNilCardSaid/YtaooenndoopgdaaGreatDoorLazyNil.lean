/- LazyNil, proved: a nil machine has nothing. Conditions: none beyond the row its own.: part 12 of 12 of the proof. Conditions: none. -/
import Derived.Test.YtaooenndoopgdaaGreatDoorM11
namespace Go.Proofs.YtaooenndoopgdaaGreatDoor.lzn
open Go Go.Ev Go.Proofs Go.ChangeShapes Go.WideShapes Go.ChangeAt Go.RowKit
theorem tab_of {W : World} (h : laidMetH Tryz.prog Rows.lazyNilRow.laid W) : fk.TabMem (memOf W) := by
  rw [MakeChecks.laidMetH_plain _ _ _ (by kernel_rfl)] at h
  exact lz.pow_of (laidMet.tail (laidMet.tail h))
theorem contract (m : Mem) (hQ : fk.TabMem m) (vs : List Value) (hl : vs.length = Tryz.f5.params.size) (hg : ∀ (j : Nat) t v, Tryz.f5.params.toList[j]? = some t → vs[j]? = some v → Given X m t v) :
    Ev.Fn Tryz.prog 5 vs m [] fun _ _ v => v = .bool true := by
  match vs, hl with
  | [v1, v2], _ =>
    obtain ⟨z, rfl, h1, h2⟩ := (hg 0 3 v1 rfl rfl).int rfl rfl
    obtain ⟨b, rfl, -⟩ := (hg 1 5 v2 rfl rfl).int rfl rfl
    exact (lz.nil_fn m hQ z b ⟨h1, h2⟩).mono fun _ _ _ _ h => h.2
theorem spec (H : Type) (ds : List (DataW H)) (h : ds.length = Tryz.f5.params.size) : Rows.lazyNilSpec.fn H ds = { results := [.lit (.bool true)], args := ds } := by
  match ds, h with
  | [_, _], _ => rfl
theorem door_met (os : Os) (args : Array Value) : laidMetH Tryz.prog Rows.lazyNilRow.laid ((World.doorLaid Tryz.prog 4000 os).forCall (fun _ _ => 0) ⟨#[], args, []⟩).memory :=
  laidMetH_of_parts3 (fuel := 8) (laidMet_of_run' 8 (by kernel_rfl) (by kernel_rfl)) (by kernel_rfl) (by kernel_rfl)
set_option maxRecDepth 100000 in
theorem lifted (os : Os) (started : os.Started) (H : Type) (enc : TypeId × Value → H) :
    ReturnsInHanded {} Tryz.checked os 5 .any (fun w args => (Rows.lazyNilSpec.pre enc Tryz.prog Tryz.f5 [] false w args ∧ laidMetH Tryz.prog Rows.lazyNilRow.laid w) ∧ sizedMet enc Tryz.prog Tryz.f5 (OpenSpec.ofChange Rows.lazyNilSpec) false w args)
      (Rows.lazyNilSpec.post enc Tryz.prog Tryz.f5 false true false false) := by
  refine returnsInHanded_of_change_and (C := Tryz.checked) (X := fun w _ => laidMetH Tryz.prog Rows.lazyNilRow.laid w) (fun _ _ _ hh h => h.of_heap hh) (by kernel_rfl) started (by kernel_rfl) Tryz.func5
    (ChangeSpec.witness_shaped (enc := enc) (C := Tryz.checked) (os := os) (X := fun w _ => laidMetH Tryz.prog Rows.lazyNilRow.laid w) false (World.doorLaid Tryz.prog 4000 os) #[.int .i64 0, .int .u8 0] 8 rfl (World.shaped_of_RefB (by kernel_rfl) (by kernel_rfl)) (by kernel_rfl) (by kernel_rfl) (by kernel_rfl) (door_met os _)) ?_
  intro W base args ds gs before hval hW _ hsz hL _
  exact law_coreQ (Q := fk.TabMem) hX (by kernel_rfl) rfl rfl Tryz.underlying4 (by decide +kernel) (fun H ds h => spec H ds h) contract W base args ds gs before hval hW (tab_of hL) hsz
set_option maxRecDepth 100000 in
theorem said : Rows.LazyNilSaid :=
  OpenClaim.holds_of_wide 5 Tryz.f5 rfl rfl rfl rfl rfl rfl rfl ⟨rfl, rfl, rfl, rfl, rfl⟩ rfl rfl rfl rfl rfl (by kernel_rfl) Tryz.func5 (by kernel_rfl)
    (of_decide_eq_true (by kernel_rfl)) (by unfold Func.isWrapper; first | (rw [if_pos (by decide +kernel)]; kernel_rfl) | (rw [if_neg (by decide +kernel)]; exact ⟨rfl, rfl⟩))
    (fun os started H enc _ => lifted os started H enc)
theorem proved : Rows.LazyNilCardSaid :=
  Claim7.holds_tied_plain_at .later [] [.data, .data, .data] true (true, "7546c3d8e06244b673bf1e9fee8cb6dd4be4c0414ab1afe6a92d743f18aea1e9") false
    said (fun _ h => by cases h) (by kernel_rfl) (fun _ h => by cases h) lazyNil_row_tie rfl ⟨rfl, rfl⟩ (by kernel_rfl) rfl
    (fun f fn hf hfn => by
      obtain rfl : f = 5 := Option.some.inj ((show Tryz.prog.funcNamed "bolter/bolterlaw17.LazyNil" = some 5 by kernel_rfl).symm.trans hf) |>.symm
      obtain rfl : fn = Tryz.f5 := (Option.some.inj (Tryz.func5.symm.trans hfn)).symm
      exact ⟨by kernel_rfl, fun j t ht => by
        rw [Tryz.params5] at ht
        have hm : t ∈ [3, 5] := by simpa using Array.mem_of_getElem? ht
        have hall : ([3, 5].all fun u => !Tryz.prog.wantsStandIn u) = true := by kernel_rfl
        exact (show Tryz.prog.wantsStandIn t = false by simpa using List.all_eq_true.1 hall t hm)⟩)
    (by kernel_rfl)
#print axioms proved
end Go.Proofs.YtaooenndoopgdaaGreatDoor.lzn
