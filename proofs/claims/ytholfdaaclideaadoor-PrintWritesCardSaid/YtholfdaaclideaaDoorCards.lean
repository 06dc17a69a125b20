/-
  DERIVED. GIVEN WITH THE SEED: THE CARDS: each row of YtholfdaaclideaaDoorRows.lean that lists a variable, with what it lists TIED to the program's text (the seventh form; the later family's looks); each row that meets fmt, with fmt's text TOLD by the authors' own Lean function (tested against real Go, not proved from fmt's source: count such statements apart). THE CARD IS WHAT COUNTS. Prove the row's statement (the work); the ties are given (YtholfdaaclideaaDoorTie.lean); close each card by the builder's one call (the guide's Derived/Test/ToyasCard.lean, 'card_holds'). Laid BY PROGRAM, IN A SANDBOX (cutbox-door.mjs). By AI agents, Wed Nov 11 2026. No macro, syntax, notation, axiom, sorry.
-/
import Derived.Test.YtholfdaaclideaaDoorRows
import GoSem.ClaimSeven
namespace Go.Proofs.YtholfdaaclideaaDoor
namespace Rows

/-- THE TIED CARD OF 'bolterlaw06.PrintWrites'. -/
def printWritesCard : Claim7 := { stood := { row := printWritesRow, standIns := [], harness := (true, "cb2834d965eac59f8b2798df6829016670c0d36046b15cc7638b23e437afc4cf"), looks := false }, kinds := [], alts := [], laidByText := true, laidKinds := [.data, .data, .data], laidTests := true, laidLooks := .later }
def PrintWritesCardSaid : Prop := Claim7.holds Tryd.pinned (.plain (OpenSpec.ofChange printWritesSpec)) printWritesCard

/-- THE SECOND FORM's CARD OF 'bolterlaw06.PrintWrites'. -/
def printWritesUptoCard : Claim7 := { stood := { row := printWritesUptoRow, standIns := [], harness := (true, "cb2834d965eac59f8b2798df6829016670c0d36046b15cc7638b23e437afc4cf"), looks := false }, kinds := [], alts := [], laidByText := true, laidKinds := [.data, .data, .data], laidTests := true, laidLooks := .later }
def PrintWritesUptoCardSaid : Prop := Claim7.holds Tryd.pinned (.plain (OpenSpec.upto printWritesSpec)) printWritesUptoCard
end Rows
end Go.Proofs.YtholfdaaclideaaDoor
