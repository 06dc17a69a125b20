/-
  No cell of these rows narrows 'for every input' (looked for: loops, veiled, ifaces, maps, wideKeys, modest, calm, conditions, laid).
  DERIVED. THE GIVEN ROWS OF THIS SEAT. 4 by the template 'for every input the law returns true; each argument reads behind the call as it read before'; 0 by the template 'total and deterministic' (their statements: YtcofkjameibeoaaTotals.lean).
  GIVEN WITH THE SEED: the statements are not yours to turn. If you find one false, say at which input.
  Laid BY PROGRAM, IN A SANDBOX (cutbox-rows.mjs): the forced cells as the released guide's own fill.sh prints them over the translation be747f40a440eae9… (all of the seat's roots in one cut). By AI agents, Wed Nov 11 2026. No macro, syntax, notation, axiom, sorry.
-/
import Derived.Test.YtcofkjameibeoaaChecked
import GoSem.Claim
import GoSem.ClaimJoined
import GoSem.ClaimMapViews
import Derived.JoinedTies
import Derived.KernelRfl
namespace Go.Proofs.Ytcofkjameibeoaa
/- THE CELL 'sum', in the pinned program and in every row, IS THE sha256 OF THE DUMP (.gsa) THAT YtcofkjameibeoaaProg.lean LOADS. Nothing in Lean hashes anything: it is a label: what it is worth is what the hold of that sum in a sandbox is worth. -/
noncomputable def Try.pinned : Pinned := { name := "ytcofkjameibeoaa", sum := "be747f40a440eae90dec481980db2602f4b155f90b0c7a10223f88bfe8e3dc66", checked := Try.checked }
namespace Rows
def none {H : Type} : Left H := { results := [], args := [] }

/-- 'bolterlaw24.TableReads': WHATEVER THE INPUT: true; the input reads as it did. -/
def tableReadsSpec : ChangeSpec := { name := "tableReads", fn := fun _ => fun
  | [d] => { results := [.lit (.bool true)], args := [d] }
  | _ => none }
def tableReadsRow : OpenClaim := { program := "ytcofkjameibeoaa", sum := "be747f40a440eae90dec481980db2602f4b155f90b0c7a10223f88bfe8e3dc66", func := "bolter/bolterlaw24.TableReads", spec := "tableReads", unfollowed := true, recurses := true, apart := false }
def TableReadsSaid : Prop := tableReadsRow.holds Try.pinned (OpenSpec.ofChange tableReadsSpec)

/-- ITS FALSE NEIGHBOUR: 'it returns false'. Refute it at one input. -/
def tableReadsWrong : ChangeSpec := { name := "tableReads", fn := fun _ => fun
  | [d] => { results := [.lit (.bool false)], args := [d] }
  | _ => none }
def TableReadsWrongFalsely : Prop := tableReadsRow.holds Try.pinned (OpenSpec.ofChange tableReadsWrong)

/-- 'bolterlaw24.TableSealed': WHATEVER THE INPUT: true; the input reads as it did. -/
def tableSealedSpec : ChangeSpec := { name := "tableSealed", fn := fun _ => fun
  | [d] => { results := [.lit (.bool true)], args := [d] }
  | _ => none }
def tableSealedRow : OpenClaim := { program := "ytcofkjameibeoaa", sum := "be747f40a440eae90dec481980db2602f4b155f90b0c7a10223f88bfe8e3dc66", func := "bolter/bolterlaw24.TableSealed", spec := "tableSealed", unfollowed := true, recurses := true, apart := false }
def TableSealedSaid : Prop := tableSealedRow.holds Try.pinned (OpenSpec.ofChange tableSealedSpec)

/-- ITS FALSE NEIGHBOUR: 'it returns false'. Refute it at one input. -/
def tableSealedWrong : ChangeSpec := { name := "tableSealed", fn := fun _ => fun
  | [d] => { results := [.lit (.bool false)], args := [d] }
  | _ => none }
def TableSealedWrongFalsely : Prop := tableSealedRow.holds Try.pinned (OpenSpec.ofChange tableSealedWrong)

/-- 'bolterlaw24.TableTurned': WHATEVER THE INPUT: true; the input reads as it did. -/
def tableTurnedSpec : ChangeSpec := { name := "tableTurned", fn := fun _ => fun
  | [d1, d2, d3, d4] => { results := [.lit (.bool true)], args := [d1, d2, d3, d4] }
  | _ => none }
def tableTurnedRow : OpenClaim := { program := "ytcofkjameibeoaa", sum := "be747f40a440eae90dec481980db2602f4b155f90b0c7a10223f88bfe8e3dc66", func := "bolter/bolterlaw24.TableTurned", spec := "tableTurned", unfollowed := true, recurses := true, apart := false }
def TableTurnedSaid : Prop := tableTurnedRow.holds Try.pinned (OpenSpec.ofChange tableTurnedSpec)

/-- ITS FALSE NEIGHBOUR: 'it returns false'. Refute it at one input. -/
def tableTurnedWrong : ChangeSpec := { name := "tableTurned", fn := fun _ => fun
  | [d1, d2, d3, d4] => { results := [.lit (.bool false)], args := [d1, d2, d3, d4] }
  | _ => none }
def TableTurnedWrongFalsely : Prop := tableTurnedRow.holds Try.pinned (OpenSpec.ofChange tableTurnedWrong)

/-- 'bolterlaw24.TableSums': WHATEVER THE INPUT: true; the input reads as it did. -/
def tableSumsSpec : ChangeSpec := { name := "tableSums", fn := fun _ => fun
  | [d] => { results := [.lit (.bool true)], args := [d] }
  | _ => none }
def tableSumsRow : OpenClaim := { program := "ytcofkjameibeoaa", sum := "be747f40a440eae90dec481980db2602f4b155f90b0c7a10223f88bfe8e3dc66", func := "bolter/bolterlaw24.TableSums", spec := "tableSums", unfollowed := true, recurses := true, apart := false }
def TableSumsSaid : Prop := tableSumsRow.holds Try.pinned (OpenSpec.ofChange tableSumsSpec)

/-- ITS FALSE NEIGHBOUR: 'it returns false'. Refute it at one input. -/
def tableSumsWrong : ChangeSpec := { name := "tableSums", fn := fun _ => fun
  | [d] => { results := [.lit (.bool false)], args := [d] }
  | _ => none }
def TableSumsWrongFalsely : Prop := tableSumsRow.holds Try.pinned (OpenSpec.ofChange tableSumsWrong)

/- THE SECOND FORM. 'bulk': how many values and letters a reading holds, each counted each time it is reached (what is shared counts as often as it is met; a slice's spare places count too). A statement '..UptoSaid' is the law's where the arguments, and the package variables that the reading takes, are together of bulk at most 1048576: NARROWER than '..Said'. Prove '..Said' where nothing that the law and all that it calls make is longer than what came in: it says more and counts as full. Else prove '..UptoSaid'. A law counts once. -/
mutual
def uptoBulk {H : Type} : DataW H → Nat
  | .lit (.string bytes) => bytes.length + 1
  | .lit _ => 1
  | .nil => 1
  | .ptr d => uptoBulk d + 1
  | .slice elems spare => uptoBulkAll elems + uptoBulkAll spare + 1
  | .agg parts => uptoBulkAll parts + 1
  | .iface _ d => uptoBulk d + 1
  | .map entries => uptoBulkEntries entries + 1
  | .held _ => 1
def uptoBulkAll {H : Type} : List (DataW H) → Nat
  | [] => 0
  | d :: r => uptoBulk d + uptoBulkAll r
def uptoBulkEntries {H : Type} : List (Lit × DataW H) → Nat
  | [] => 0
  | x :: r => uptoBulkEntry x + uptoBulkEntries r
def uptoBulkEntry {H : Type} : Lit × DataW H → Nat
  | (.string bytes, d) => bytes.length + uptoBulk d + 1
  | (_, d) => uptoBulk d + 1
 end
def uptoSmall : (H : Type) → List (DataW H) → Bool := fun _ ds => decide (uptoBulkAll ds ≤ 1048576)
def OpenSpec.upto (s : _root_.Go.ChangeSpec) : _root_.Go.OpenSpec := { _root_.Go.OpenSpec.ofChange s with cond := some uptoSmall }

/-- 'bolterlaw24.TableReads', WHERE WHAT IT READS IS OF BULK AT MOST 1048576: true; the input reads as it did. -/
def tableReadsUptoRow : OpenClaim := { program := "ytcofkjameibeoaa", sum := "be747f40a440eae90dec481980db2602f4b155f90b0c7a10223f88bfe8e3dc66", func := "bolter/bolterlaw24.TableReads", spec := "tableReads", unfollowed := true, recurses := true, apart := false, narrowed := true }
def TableReadsUptoSaid : Prop := tableReadsUptoRow.holds Try.pinned (OpenSpec.upto tableReadsSpec)

/-- 'bolterlaw24.TableSealed', WHERE WHAT IT READS IS OF BULK AT MOST 1048576: true; the input reads as it did. -/
def tableSealedUptoRow : OpenClaim := { program := "ytcofkjameibeoaa", sum := "be747f40a440eae90dec481980db2602f4b155f90b0c7a10223f88bfe8e3dc66", func := "bolter/bolterlaw24.TableSealed", spec := "tableSealed", unfollowed := true, recurses := true, apart := false, narrowed := true }
def TableSealedUptoSaid : Prop := tableSealedUptoRow.holds Try.pinned (OpenSpec.upto tableSealedSpec)

/-- 'bolterlaw24.TableTurned', WHERE WHAT IT READS IS OF BULK AT MOST 1048576: true; the input reads as it did. -/
def tableTurnedUptoRow : OpenClaim := { program := "ytcofkjameibeoaa", sum := "be747f40a440eae90dec481980db2602f4b155f90b0c7a10223f88bfe8e3dc66", func := "bolter/bolterlaw24.TableTurned", spec := "tableTurned", unfollowed := true, recurses := true, apart := false, narrowed := true }
def TableTurnedUptoSaid : Prop := tableTurnedUptoRow.holds Try.pinned (OpenSpec.upto tableTurnedSpec)

/-- 'bolterlaw24.TableSums', WHERE WHAT IT READS IS OF BULK AT MOST 1048576: true; the input reads as it did. -/
def tableSumsUptoRow : OpenClaim := { program := "ytcofkjameibeoaa", sum := "be747f40a440eae90dec481980db2602f4b155f90b0c7a10223f88bfe8e3dc66", func := "bolter/bolterlaw24.TableSums", spec := "tableSums", unfollowed := true, recurses := true, apart := false, narrowed := true }
def TableSumsUptoSaid : Prop := tableSumsUptoRow.holds Try.pinned (OpenSpec.upto tableSumsSpec)

end Rows
end Go.Proofs.Ytcofkjameibeoaa
