/- LazyKeeps, proved: a lazy machine keeps no more than it may, makes nothing twice that it keeps, and forgets all at a flush. Conditions: none beyond the row its own.: part 13 of 13 of the proof. Conditions: none. -/
import Derived.Test.YtaooenndoopgdaaGreatDoorK12
namespace Go.Proofs.YtaooenndoopgdaaGreatDoor.lzk
open Go Go.Ev Go.Proofs Go.ChangeShapes Go.WideShapes Go.ChangeAt Go.RowKit
def LazyMem (m : Mem) : Prop := fk.TabMem m ∧ lz.BitMem m
theorem tab_of {W : World} (h : laidMetH Tryz.prog Rows.lazyKeepsRow.laid W) : LazyMem (memOf W) := by
 rw [MakeChecks.laidMetH_plain _ _ _ (by kernel_rfl)] at h
 exact ⟨lz.pow_of (laidMet.tail (laidMet.tail h)), lz.bits_of (laidMet.tail h)⟩
theorem b8_of {m : Mem} {v : Value} (h : Given X m 26 v) : ∃ l, lz.B8 m v l := by
 obtain ⟨l, h1, h2, h3⟩ := h.ints (k := .u8) rfl rfl rfl rfl rfl
 exact ⟨l, h1, by rw [reach_val] at h2; have h2' : l.length * 1 ≤ 140737488351232 := h2; omega, h3⟩
theorem contract (m : Mem) (hQ : LazyMem m) (vs : List Value) (hl : vs.length = Tryz.f4.params.size) (hg : ∀ (j : Nat) t v, Tryz.f4.params.toList[j]? = some t → vs[j]? = some v → Given X m t v) :
  Ev.Fn Tryz.prog 4 vs m [] fun _ _ v => v = .bool true := by
 match vs, hl with
 | [v1, v2, v3], _ =>
   obtain ⟨cs, s, rfl, hs⟩ := lz.sp_of (hg 0 25 v1 rfl rfl)
   obtain ⟨room, rfl, h1, h2⟩ := (hg 1 3 v2 rfl rfl).int rfl rfl
   obtain ⟨lw, hw⟩ := b8_of (hg 2 26 v3 rfl rfl)
   exact (lz.keeps_law m hQ.1 hQ.2 cs s hs room ⟨h1, h2⟩ v3 lw hw).mono fun _ _ _ _ h => h.2
theorem spec (H : Type) (ds : List (DataW H)) (h : ds.length = Tryz.f4.params.size) : Rows.lazyKeepsSpec.fn H ds = { results := [.lit (.bool true)], args := ds } := by
 match ds, h with
 | [_, _, _], _ => rfl
theorem door_met (os : Os) (args : Array Value) : laidMetH Tryz.prog Rows.lazyKeepsRow.laid ((World.doorLaid Tryz.prog 4000 os).forCall (fun _ _ => 0) ⟨#[], args, []⟩).memory :=
 laidMetH_of_parts3 (fuel := 8) (laidMet_of_run' 8 (by kernel_rfl) (by kernel_rfl)) (by kernel_rfl) (by kernel_rfl)
set_option maxRecDepth 100000 in
theorem lifted (os : Os) (started : os.Started) (H : Type) (enc : TypeId × Value → H) :
  ReturnsInHanded {} Tryz.checked os 4 .any (fun w args => (Rows.lazyKeepsSpec.pre enc Tryz.prog Tryz.f4 [] false w args ∧ laidMetH Tryz.prog Rows.lazyKeepsRow.laid w) ∧ sizedMet enc Tryz.prog Tryz.f4 (OpenSpec.ofChange Rows.lazyKeepsSpec) false w args)
   (Rows.lazyKeepsSpec.post enc Tryz.prog Tryz.f4 false true false false) := by
 refine returnsInHanded_of_change_and (C := Tryz.checked) (X := fun w _ => laidMetH Tryz.prog Rows.lazyKeepsRow.laid w) (fun _ _ _ hh h => h.of_heap hh) (by kernel_rfl) started (by kernel_rfl) Tryz.func4
  (ChangeSpec.witness_shaped (enc := enc) (C := Tryz.checked) (os := os) (X := fun w _ => laidMetH Tryz.prog Rows.lazyKeepsRow.laid w) false (World.doorLaid Tryz.prog 4000 os) #[.agg #[.slice none 0 0, .slice none 0 0], .int .i64 0, .slice none 0 0] 8 rfl (World.shaped_of_RefB (by kernel_rfl) (by kernel_rfl)) (by kernel_rfl) (by kernel_rfl) (by kernel_rfl) (door_met os _)) ?_
 intro W base args ds gs before hval hW _ hsz hL _
 exact law_coreQ (Q := LazyMem) hX (by kernel_rfl) rfl rfl Tryz.underlying4 (by decide +kernel) (fun H ds h => spec H ds h) contract W base args ds gs before hval hW (tab_of hL) hsz
set_option maxRecDepth 100000 in
theorem said : Rows.LazyKeepsSaid :=
 OpenClaim.holds_of_wide 4 Tryz.f4 rfl rfl rfl rfl rfl rfl rfl ⟨rfl, rfl, rfl, rfl, rfl⟩ rfl rfl rfl rfl rfl (by kernel_rfl) Tryz.func4 (by kernel_rfl)
  (of_decide_eq_true (by kernel_rfl)) (by unfold Func.isWrapper; first | (rw [if_pos (by decide +kernel)]; kernel_rfl) | (rw [if_neg (by decide +kernel)]; exact ⟨rfl, rfl⟩))
  (fun os started H enc _ => lifted os started H enc)
theorem proved : Rows.LazyKeepsCardSaid :=
 Claim7.holds_tied_plain_at .later [] [.data, .data, .data] true (true, "7546c3d8e06244b673bf1e9fee8cb6dd4be4c0414ab1afe6a92d743f18aea1e9") false
  said (fun _ h => by cases h) (by kernel_rfl) (fun _ h => by cases h) lazyKeeps_row_tie rfl ⟨rfl, rfl⟩ (by kernel_rfl) rfl
  (fun f fn hf hfn => by
   obtain rfl : f = 4 := Option.some.inj ((show Tryz.prog.funcNamed "bolter/bolterlaw17.LazyKeeps" = some 4 by kernel_rfl).symm.trans hf) |>.symm
   obtain rfl : fn = Tryz.f4 := (Option.some.inj (Tryz.func4.symm.trans hfn)).symm
   exact ⟨by kernel_rfl, fun j t ht => by
    rw [Tryz.params4] at ht
    have hm : t ∈ [25, 3, 26] := by simpa using Array.mem_of_getElem? ht
    have hall : ([25, 3, 26].all fun u => !Tryz.prog.wantsStandIn u) = true := by kernel_rfl
    exact (show Tryz.prog.wantsStandIn t = false by simpa using List.all_eq_true.1 hall t hm)⟩)
  (by kernel_rfl)
#print axioms proved
end Go.Proofs.YtaooenndoopgdaaGreatDoor.lzk
