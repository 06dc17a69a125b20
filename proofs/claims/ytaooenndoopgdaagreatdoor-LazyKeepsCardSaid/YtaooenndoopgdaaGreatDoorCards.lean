/-
  DERIVED. GIVEN WITH THE SEED: THE CARDS: each row of YtaooenndoopgdaaGreatDoorRows.lean that lists a variable, with what it lists TIED to the program's text (the seventh form; the later family's looks); each row that meets fmt, with fmt's text TOLD by the authors' own Lean function (tested against real Go, not proved from fmt's source: count such statements apart). THE CARD IS WHAT COUNTS. Prove the row's statement (the work); the ties are given (YtaooenndoopgdaaGreatDoorTie.lean); close each card by the builder's one call (the guide's Derived/Test/ToyasCard.lean, 'card_holds'). Laid BY PROGRAM, IN A SANDBOX (cutbox-door.mjs). By AI agents, Wed Nov 11 2026. No macro, syntax, notation, axiom, sorry.
-/
import Derived.Test.YtaooenndoopgdaaGreatDoorRows
import GoSem.ClaimSeven
namespace Go.Proofs.YtaooenndoopgdaaGreatDoor
namespace Rows

/-- THE TIED CARD OF 'bolterlaw17.LazyDead'. -/
def lazyDeadCard : Claim7 := { stood := { row := lazyDeadRow, standIns := [], harness := (true, "7546c3d8e06244b673bf1e9fee8cb6dd4be4c0414ab1afe6a92d743f18aea1e9"), looks := false }, kinds := [], alts := [], laidByText := true, laidKinds := [.data, .data, .data], laidTests := true, laidLooks := .later }
def LazyDeadCardSaid : Prop := Claim7.holds Tryz.pinned (.plain (OpenSpec.ofChange lazyDeadSpec)) lazyDeadCard

/-- THE TIED CARD OF 'bolterlaw17.LazyKeeps'. -/
def lazyKeepsCard : Claim7 := { stood := { row := lazyKeepsRow, standIns := [], harness := (true, "7546c3d8e06244b673bf1e9fee8cb6dd4be4c0414ab1afe6a92d743f18aea1e9"), looks := false }, kinds := [], alts := [], laidByText := true, laidKinds := [.data, .data, .data], laidTests := true, laidLooks := .later }
def LazyKeepsCardSaid : Prop := Claim7.holds Tryz.pinned (.plain (OpenSpec.ofChange lazyKeepsSpec)) lazyKeepsCard

/-- THE TIED CARD OF 'bolterlaw17.LazyNil'. -/
def lazyNilCard : Claim7 := { stood := { row := lazyNilRow, standIns := [], harness := (true, "7546c3d8e06244b673bf1e9fee8cb6dd4be4c0414ab1afe6a92d743f18aea1e9"), looks := false }, kinds := [], alts := [], laidByText := true, laidKinds := [.data, .data, .data], laidTests := true, laidLooks := .later }
def LazyNilCardSaid : Prop := Claim7.holds Tryz.pinned (.plain (OpenSpec.ofChange lazyNilSpec)) lazyNilCard

/-- THE SECOND FORM's CARD OF 'bolterlaw17.LazyDead'. -/
def lazyDeadUptoCard : Claim7 := { stood := { row := lazyDeadUptoRow, standIns := [], harness := (true, "7546c3d8e06244b673bf1e9fee8cb6dd4be4c0414ab1afe6a92d743f18aea1e9"), looks := false }, kinds := [], alts := [], laidByText := true, laidKinds := [.data, .data, .data], laidTests := true, laidLooks := .later }
def LazyDeadUptoCardSaid : Prop := Claim7.holds Tryz.pinned (.plain (OpenSpec.upto lazyDeadSpec)) lazyDeadUptoCard

/-- THE SECOND FORM's CARD OF 'bolterlaw17.LazyKeeps'. -/
def lazyKeepsUptoCard : Claim7 := { stood := { row := lazyKeepsUptoRow, standIns := [], harness := (true, "7546c3d8e06244b673bf1e9fee8cb6dd4be4c0414ab1afe6a92d743f18aea1e9"), looks := false }, kinds := [], alts := [], laidByText := true, laidKinds := [.data, .data, .data], laidTests := true, laidLooks := .later }
def LazyKeepsUptoCardSaid : Prop := Claim7.holds Tryz.pinned (.plain (OpenSpec.upto lazyKeepsSpec)) lazyKeepsUptoCard

/-- THE SECOND FORM's CARD OF 'bolterlaw17.LazyNil'. -/
def lazyNilUptoCard : Claim7 := { stood := { row := lazyNilUptoRow, standIns := [], harness := (true, "7546c3d8e06244b673bf1e9fee8cb6dd4be4c0414ab1afe6a92d743f18aea1e9"), looks := false }, kinds := [], alts := [], laidByText := true, laidKinds := [.data, .data, .data], laidTests := true, laidLooks := .later }
def LazyNilUptoCardSaid : Prop := Claim7.holds Tryz.pinned (.plain (OpenSpec.upto lazyNilSpec)) lazyNilUptoCard
end Rows
end Go.Proofs.YtaooenndoopgdaaGreatDoor
