/- How a law's contract becomes its statement's core, where the row lists variables. Conditions: none; over any program. -/
import Derived.Test.YtphgaomacnkfoaaDoorEvS
namespace Go.Ev
open Go Go.ChangeShapes Go.WideShapes Go.ChangeAt Go.RowKit

/-- As law_core; the contract is handed a fact of what lies when the call begins. -/
theorem law_coreQ {P : Program} {X : Tab} (hX : TabsOk P X) (hlay : laidOutB P = true) {f : Nat} {fn : Func} {Q : Mem → Prop} {s : ChangeSpec} {tb : Nat} (hvars : s.vars = []) (hres : fn.resultTypes = #[tb]) (htb : P.underlying tb = some .bool)
    (hread : ∀ t ∈ fn.params.toList, P.readableRec t = true ∧ t < P.types.size)
    (hspec : ∀ (H : Type) (ds : List (DataW H)), ds.length = fn.params.size → s.fn H ds = { results := [.lit (.bool true)], args := ds })
    (contract : ∀ (m : Mem), Q m → ∀ (vs : List Value), vs.length = fn.params.size → (∀ (j : Nat) t v, fn.params.toList[j]? = some t → vs[j]? = some v → Given X m t v) → Fn P f vs m [] fun _ _ v => v = .bool true)
    {H : Type} {enc : TypeId × Value → H} (W : World) (base : Nat) (args : Array Value) (ds gs : List (DataW H)) (before : List MemPlace)
    (hval : ∀ (j : Nat) t v, fn.params[j]? = some t → args[j]? = some v → Value.okWide P W .any base t v)
    (hW : DataW.Whole enc P fn.params.toList s.vars false W args.toList ds gs before)
    (hq : Q (memOf W)) (hsz : (DataW.weightsEach P (fn.params.toList ++ s.plain.varTypes P) (ds ++ gs)).all (· ≤ reachBytes) = true) :
    Calls P f args W fun e W' => ∃ v, e = .returned v ∧ s.post enc P fn false true false false W args v W' := by
  have hW' := hW
  have hlt : ∀ p ∈ before, p.block < W.heap.size := fun p hp => hW.lt p hp
  obtain ⟨p, q, hA, hV, rfl, hfz, hnd⟩ := hW
  have hgs : gs = [] ∧ q = [] := by
    rw [hvars] at hV
    cases gs with
    | nil => exact ⟨rfl, hV⟩
    | cons g gs => exact hV.elim
  obtain ⟨rfl, rfl⟩ := hgs
  have hvt : s.plain.varTypes P = [] := by simp [DataSpec.varTypes, ChangeSpec.plain, hvars]
  rw [hvt, List.append_nil, List.append_nil] at hsz
  obtain ⟨hl, hdl, hrd⟩ := given_all hX _ _ _ _ hA fun q hq => by simpa using List.all_eq_true.1 hsz q hq
  have hsp := hspec H ds (by simpa using hdl)
  have hc := contract (memOf W) hq args.toList (by simpa using hl.symm) (fun j t v ht hv => ⟨shp_of_ok hX (hval j t v (by simpa using ht) (by simpa using hv)), hrd j t v ht hv⟩) W (pre_memOf W)
  have ha : toArr args.toList = args := by simp [toArr]
  rw [ha] at hc
  refine hc.mono fun e W' ⟨v, m', L', he, hloc, hv⟩ => ⟨v, he, ?_⟩
  subst hv
  have hb := Loc.below hloc
  simp only [List.append_nil] at hW' hlt
  refine post_of_below (pa := p) (pv := []) hW' (fun b sp hd => ?_) (fun sp hsp' => ?_) (fun sp _ => ?_) (by simp) hb (ok_one hres rfl (okWide_bool_mk htb _))
  · rw [List.append_nil, hsp, hres]
    exact trodAll_mk1 (shut_bool htb _)
  · rw [List.append_nil, hsp]
    exact trodAll_stays hlay _ _ _ _ hread hA (fun x hx => hb.same (hlt x hx)) hsp'
  · rw [List.append_nil, hsp, hvars]
    rfl

end Go.Ev
