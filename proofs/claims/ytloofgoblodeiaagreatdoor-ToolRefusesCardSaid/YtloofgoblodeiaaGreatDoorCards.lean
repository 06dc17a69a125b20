/-
  DERIVED. GIVEN WITH THE SEED: THE CARDS: each row of YtloofgoblodeiaaGreatDoorRows.lean that lists a variable, with what it lists TIED to the program's text (the seventh form; the later family's looks); each row that meets fmt, with fmt's text TOLD by the authors' own Lean function (tested against real Go, not proved from fmt's source: count such statements apart). THE CARD IS WHAT COUNTS. Prove the row's statement (the work); the ties are given (YtloofgoblodeiaaGreatDoorTie.lean); close each card by the builder's one call (the guide's Derived/Test/ToyasCard.lean, 'card_holds'). Laid BY PROGRAM, IN A SANDBOX (cutbox-door.mjs). By AI agents, Wed Nov 11 2026. No macro, syntax, notation, axiom, sorry.
-/
import Derived.Test.YtloofgoblodeiaaGreatDoorRows
import GoSem.ClaimSeven
namespace Go.Proofs.YtloofgoblodeiaaGreatDoor
namespace Rows

/-- THE TIED CARD OF 'bolterlaw25.ToolRefuses'. -/
def toolRefusesCard : Claim7 := { stood := { row := toolRefusesRow, standIns := [], harness := (true, "a281a6a150dc86e7d29c5d6dbdf8dec87aece366512c57af439540cef88fb4b6"), looks := true }, kinds := [], alts := [], laidByText := true, laidKinds := [.data, .data, .data, .data, .sentinel, .sentinel, .pinned], laidTests := true, laidLooks := .later }
def ToolRefusesCardSaid : Prop := Claim7.holds Tryz.pinned (.plain (OpenSpec.ofChange toolRefusesSpec)) toolRefusesCard

/-- THE SECOND FORM's CARD OF 'bolterlaw25.ToolRefuses'. -/
def toolRefusesUptoCard : Claim7 := { stood := { row := toolRefusesUptoRow, standIns := [], harness := (true, "a281a6a150dc86e7d29c5d6dbdf8dec87aece366512c57af439540cef88fb4b6"), looks := true }, kinds := [], alts := [], laidByText := true, laidKinds := [.data, .data, .data, .data, .sentinel, .sentinel, .pinned], laidTests := true, laidLooks := .later }
def ToolRefusesUptoCardSaid : Prop := Claim7.holds Tryz.pinned (.plain (OpenSpec.upto toolRefusesSpec)) toolRefusesUptoCard
end Rows
end Go.Proofs.YtloofgoblodeiaaGreatDoor
