/-
  DERIVED. GIVEN WITH THE SEED: THE CARDS: each row of YtemdkfohlppckaaGreatDoorRows.lean that lists a variable, with what it lists TIED to the program's text (the seventh form; the later family's looks); each row that meets fmt, with fmt's text TOLD by the authors' own Lean function (tested against real Go, not proved from fmt's source: count such statements apart). THE CARD IS WHAT COUNTS. Prove the row's statement (the work); the ties are given (YtemdkfohlppckaaGreatDoorTie.lean); close each card by the builder's one call (the guide's Derived/Test/ToyasCard.lean, 'card_holds'). Laid BY PROGRAM, IN A SANDBOX (cutbox-door.mjs). By AI agents, Wed Nov 11 2026. No macro, syntax, notation, axiom, sorry.
-/
import Derived.Test.YtemdkfohlppckaaGreatDoorRows
import GoSem.ClaimSeven
namespace Go.Proofs.YtemdkfohlppckaaGreatDoor
namespace Rows

/-- THE TIED CARD OF 'bolterlaw07.MacroExpands'. -/
def macroExpandsCard : Claim7 := { stood := { row := macroExpandsRow, standIns := [], harness := (true, "0998bd8d9f07011173d31caa957d98eb81536a73f29d19910d78b7833ddfb18e"), looks := true }, kinds := [], alts := [], laidByText := true, laidKinds := [.data, .data, .data, .sentinel, .sentinel], laidTests := true, laidLooks := .later }
def MacroExpandsCardSaid : Prop := Claim7.holds Tryz.pinned (.plain (OpenSpec.ofChange macroExpandsSpec)) macroExpandsCard

/-- THE TIED CARD OF 'bolterlaw07.MacroOrder'. -/
def macroOrderCard : Claim7 := { stood := { row := macroOrderRow, standIns := [], harness := (true, "0998bd8d9f07011173d31caa957d98eb81536a73f29d19910d78b7833ddfb18e"), looks := true }, kinds := [], alts := [], laidByText := true, laidKinds := [.data, .data, .data, .sentinel, .sentinel], laidTests := true, laidLooks := .later }
def MacroOrderCardSaid : Prop := Claim7.holds Tryz.pinned (.plain (OpenSpec.ofChange macroOrderSpec)) macroOrderCard

/-- THE SECOND FORM's CARD OF 'bolterlaw07.MacroExpands'. -/
def macroExpandsUptoCard : Claim7 := { stood := { row := macroExpandsUptoRow, standIns := [], harness := (true, "0998bd8d9f07011173d31caa957d98eb81536a73f29d19910d78b7833ddfb18e"), looks := true }, kinds := [], alts := [], laidByText := true, laidKinds := [.data, .data, .data, .sentinel, .sentinel], laidTests := true, laidLooks := .later }
def MacroExpandsUptoCardSaid : Prop := Claim7.holds Tryz.pinned (.plain (OpenSpec.upto macroExpandsSpec)) macroExpandsUptoCard

/-- THE SECOND FORM's CARD OF 'bolterlaw07.MacroOrder'. -/
def macroOrderUptoCard : Claim7 := { stood := { row := macroOrderUptoRow, standIns := [], harness := (true, "0998bd8d9f07011173d31caa957d98eb81536a73f29d19910d78b7833ddfb18e"), looks := true }, kinds := [], alts := [], laidByText := true, laidKinds := [.data, .data, .data, .sentinel, .sentinel], laidTests := true, laidLooks := .later }
def MacroOrderUptoCardSaid : Prop := Claim7.holds Tryz.pinned (.plain (OpenSpec.upto macroOrderSpec)) macroOrderUptoCard
end Rows
end Go.Proofs.YtemdkfohlppckaaGreatDoor
