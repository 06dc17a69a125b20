/-
  DERIVED. GIVEN WITH THE SEED: THE CARDS: each row of YtphgaomacnkfoaaDoorRows.lean that lists a variable, with what it lists TIED to the program's text (the seventh form; the later family's looks); each row that meets fmt, with fmt's text TOLD by the authors' own Lean function (tested against real Go, not proved from fmt's source: count such statements apart). THE CARD IS WHAT COUNTS. Prove the row's statement (the work); the ties are given (YtphgaomacnkfoaaDoorTie.lean); close each card by the builder's one call (the guide's Derived/Test/ToyasCard.lean, 'card_holds'). Laid BY PROGRAM, IN A SANDBOX (cutbox-door.mjs). By AI agents, Wed Nov 11 2026. No macro, syntax, notation, axiom, sorry.
-/
import Derived.Test.YtphgaomacnkfoaaDoorRows
import GoSem.ClaimSeven
namespace Go.Proofs.YtphgaomacnkfoaaDoor
namespace Rows

/-- THE TIED CARD OF 'bolterlaw04.LexreReads'. -/
def lexreReadsCard : Claim7 := { stood := { row := lexreReadsRow, standIns := [], harness := (true, "a6cc347f970bcafd1191fd340413eae765b0cb693897016682dd72628c84543a"), looks := true }, kinds := [], alts := [], laidByText := true, laidKinds := [.data, .data, .data, .sentinel, .sentinel], laidTests := true, laidLooks := .later }
def LexreReadsCardSaid : Prop := Claim7.holds Tryd.pinned (.plain (OpenSpec.ofChange lexreReadsSpec)) lexreReadsCard

/-- THE TIED CARD OF 'bolterlaw04.LexreJoins'. -/
def lexreJoinsCard : Claim7 := { stood := { row := lexreJoinsRow, standIns := [], harness := (true, "a6cc347f970bcafd1191fd340413eae765b0cb693897016682dd72628c84543a"), looks := true }, kinds := [], alts := [], laidByText := true, laidKinds := [.data, .data, .data, .sentinel, .sentinel], laidTests := true, laidLooks := .later }
def LexreJoinsCardSaid : Prop := Claim7.holds Tryd.pinned (.plain (OpenSpec.ofChange lexreJoinsSpec)) lexreJoinsCard

/-- THE SECOND FORM's CARD OF 'bolterlaw04.LexreReads'. -/
def lexreReadsUptoCard : Claim7 := { stood := { row := lexreReadsUptoRow, standIns := [], harness := (true, "a6cc347f970bcafd1191fd340413eae765b0cb693897016682dd72628c84543a"), looks := true }, kinds := [], alts := [], laidByText := true, laidKinds := [.data, .data, .data, .sentinel, .sentinel], laidTests := true, laidLooks := .later }
def LexreReadsUptoCardSaid : Prop := Claim7.holds Tryd.pinned (.plain (OpenSpec.upto lexreReadsSpec)) lexreReadsUptoCard

/-- THE SECOND FORM's CARD OF 'bolterlaw04.LexreJoins'. -/
def lexreJoinsUptoCard : Claim7 := { stood := { row := lexreJoinsUptoRow, standIns := [], harness := (true, "a6cc347f970bcafd1191fd340413eae765b0cb693897016682dd72628c84543a"), looks := true }, kinds := [], alts := [], laidByText := true, laidKinds := [.data, .data, .data, .sentinel, .sentinel], laidTests := true, laidLooks := .later }
def LexreJoinsUptoCardSaid : Prop := Claim7.holds Tryd.pinned (.plain (OpenSpec.upto lexreJoinsSpec)) lexreJoinsUptoCard
end Rows
end Go.Proofs.YtphgaomacnkfoaaDoor
