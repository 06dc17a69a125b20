/-
  DERIVED. GIVEN WITH THE SEED: THE CARDS: each row of YtcbcfhfagpeeeaaDoorRows.lean that lists a variable, with what it lists TIED to the program's text (the seventh form; the later family's looks); each row that meets fmt, with fmt's text TOLD by the authors' own Lean function (tested against real Go, not proved from fmt's source: count such statements apart). THE CARD IS WHAT COUNTS. Prove the row's statement (the work); the ties are given (YtcbcfhfagpeeeaaDoorTie.lean); close each card by the builder's one call (the guide's Derived/Test/ToyasCard.lean, 'card_holds'). Laid BY PROGRAM, IN A SANDBOX (cutbox-door.mjs). By AI agents, Wed Nov 11 2026. No macro, syntax, notation, axiom, sorry.
-/
import Derived.Test.YtcbcfhfagpeeeaaDoorRows
import GoSem.ClaimSeven
namespace Go.Proofs.YtcbcfhfagpeeeaaDoor
namespace Rows

/-- THE TIED CARD OF 'bolterlaw11.FormulaKeys'. -/
def formulaKeysCard : Claim7 := { stood := { row := formulaKeysRow, standIns := [], harness := (true, "32eb637efa0e668e2738a75120e743028a62ccee5a8f040e7d1359ca7da53973"), looks := false }, kinds := [], alts := [], laidByText := true, laidKinds := [.data, .data, .data], laidTests := true, laidLooks := .later }
def FormulaKeysCardSaid : Prop := Claim7.holds Tryd.pinned (.plain (OpenSpec.ofChange formulaKeysSpec)) formulaKeysCard

/-- THE SECOND FORM's CARD OF 'bolterlaw11.FormulaKeys'. -/
def formulaKeysUptoCard : Claim7 := { stood := { row := formulaKeysUptoRow, standIns := [], harness := (true, "32eb637efa0e668e2738a75120e743028a62ccee5a8f040e7d1359ca7da53973"), looks := false }, kinds := [], alts := [], laidByText := true, laidKinds := [.data, .data, .data], laidTests := true, laidLooks := .later }
def FormulaKeysUptoCardSaid : Prop := Claim7.holds Tryd.pinned (.plain (OpenSpec.upto formulaKeysSpec)) formulaKeysUptoCard
end Rows
end Go.Proofs.YtcbcfhfagpeeeaaDoor
