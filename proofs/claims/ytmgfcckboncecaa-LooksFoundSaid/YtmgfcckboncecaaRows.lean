/-
  NARROWER THAN 'FOR EVERY INPUT', by the rows' own cells (each row's printed sentence says how): TreeClones: loops · TreeTells: loops · TreeTurns: loops · LooksFound: loops.
  DERIVED. THE GIVEN ROWS OF THIS SEAT. 4 by the template 'for every input the law returns true; each argument reads behind the call as it read before'; 0 by the template 'total and deterministic' (their statements: YtmgfcckboncecaaTotals.lean).
  GIVEN WITH THE SEED: the statements are not yours to turn. If you find one false, say at which input.
  Laid BY PROGRAM, IN A SANDBOX (cutbox-rows.mjs): the forced cells as the released guide's own fill.sh prints them over the translation 994fe1fe5aa14871… (all of the seat's roots in one cut). By AI agents, Wed Nov 11 2026. No macro, syntax, notation, axiom, sorry.
-/
import Derived.Test.YtmgfcckboncecaaChecked
import GoSem.Claim
import GoSem.ClaimJoined
import GoSem.ClaimMapViews
import Derived.JoinedTies
import Derived.KernelRfl
namespace Go.Proofs.Ytmgfcckboncecaa
/- THE CELL 'sum', in the pinned program and in every row, IS THE sha256 OF THE DUMP (.gsa) THAT YtmgfcckboncecaaProg.lean LOADS. Nothing in Lean hashes anything: it is a label: what it is worth is what the hold of that sum in a sandbox is worth. -/
noncomputable def Try.pinned : Pinned := { name := "ytmgfcckboncecaa", sum := "994fe1fe5aa14871fc950dd81b4e55ae2fbf700df2eb465daf84c276d5e269f5", checked := Try.checked }
namespace Rows
def none {H : Type} : Left H := { results := [], args := [] }

/-- 'bolterlaw03.TreeClones': WHATEVER THE INPUT: true; the input reads as it did. -/
def treeClonesSpec : ChangeSpec := { name := "treeClones", fn := fun _ => fun
  | [d] => { results := [.lit (.bool true)], args := [d] }
  | _ => none }
def treeClonesRow : OpenClaim := { program := "ytmgfcckboncecaa", sum := "994fe1fe5aa14871fc950dd81b4e55ae2fbf700df2eb465daf84c276d5e269f5", func := "bolter/bolterlaw03.TreeClones", spec := "treeClones", unfollowed := true, recurses := true, loops := true, apart := false }
def TreeClonesSaid : Prop := treeClonesRow.holds Try.pinned (OpenSpec.ofChange treeClonesSpec)

/-- ITS FALSE NEIGHBOUR: 'it returns false'. Refute it at one input. -/
def treeClonesWrong : ChangeSpec := { name := "treeClones", fn := fun _ => fun
  | [d] => { results := [.lit (.bool false)], args := [d] }
  | _ => none }
def TreeClonesWrongFalsely : Prop := treeClonesRow.holds Try.pinned (OpenSpec.ofChange treeClonesWrong)

/-- 'bolterlaw03.TreeTells': WHATEVER THE INPUT: true; the input reads as it did. -/
def treeTellsSpec : ChangeSpec := { name := "treeTells", fn := fun _ => fun
  | [d1, d2] => { results := [.lit (.bool true)], args := [d1, d2] }
  | _ => none }
def treeTellsRow : OpenClaim := { program := "ytmgfcckboncecaa", sum := "994fe1fe5aa14871fc950dd81b4e55ae2fbf700df2eb465daf84c276d5e269f5", func := "bolter/bolterlaw03.TreeTells", spec := "treeTells", unfollowed := true, recurses := true, loops := true, apart := false }
def TreeTellsSaid : Prop := treeTellsRow.holds Try.pinned (OpenSpec.ofChange treeTellsSpec)

/-- ITS FALSE NEIGHBOUR: 'it returns false'. Refute it at one input. -/
def treeTellsWrong : ChangeSpec := { name := "treeTells", fn := fun _ => fun
  | [d1, d2] => { results := [.lit (.bool false)], args := [d1, d2] }
  | _ => none }
def TreeTellsWrongFalsely : Prop := treeTellsRow.holds Try.pinned (OpenSpec.ofChange treeTellsWrong)

/-- 'bolterlaw03.TreeTurns': WHATEVER THE INPUT: true; the input reads as it did. -/
def treeTurnsSpec : ChangeSpec := { name := "treeTurns", fn := fun _ => fun
  | [d1, d2] => { results := [.lit (.bool true)], args := [d1, d2] }
  | _ => none }
def treeTurnsRow : OpenClaim := { program := "ytmgfcckboncecaa", sum := "994fe1fe5aa14871fc950dd81b4e55ae2fbf700df2eb465daf84c276d5e269f5", func := "bolter/bolterlaw03.TreeTurns", spec := "treeTurns", unfollowed := true, recurses := true, loops := true, apart := false }
def TreeTurnsSaid : Prop := treeTurnsRow.holds Try.pinned (OpenSpec.ofChange treeTurnsSpec)

/-- ITS FALSE NEIGHBOUR: 'it returns false'. Refute it at one input. -/
def treeTurnsWrong : ChangeSpec := { name := "treeTurns", fn := fun _ => fun
  | [d1, d2] => { results := [.lit (.bool false)], args := [d1, d2] }
  | _ => none }
def TreeTurnsWrongFalsely : Prop := treeTurnsRow.holds Try.pinned (OpenSpec.ofChange treeTurnsWrong)

/-- 'bolterlaw13.LooksFound': WHATEVER THE INPUT: true; the input reads as it did. -/
def looksFoundSpec : ChangeSpec := { name := "looksFound", fn := fun _ => fun
  | [d] => { results := [.lit (.bool true)], args := [d] }
  | _ => none }
def looksFoundRow : OpenClaim := { program := "ytmgfcckboncecaa", sum := "994fe1fe5aa14871fc950dd81b4e55ae2fbf700df2eb465daf84c276d5e269f5", func := "bolter/bolterlaw13.LooksFound", spec := "looksFound", unfollowed := true, recurses := true, loops := true, apart := false }
def LooksFoundSaid : Prop := looksFoundRow.holds Try.pinned (OpenSpec.ofChange looksFoundSpec)

/-- ITS FALSE NEIGHBOUR: 'it returns false'. Refute it at one input. -/
def looksFoundWrong : ChangeSpec := { name := "looksFound", fn := fun _ => fun
  | [d] => { results := [.lit (.bool false)], args := [d] }
  | _ => none }
def LooksFoundWrongFalsely : Prop := looksFoundRow.holds Try.pinned (OpenSpec.ofChange looksFoundWrong)

/- THE SECOND FORM. 'bulk': how many values and letters a reading holds, each counted each time it is reached (what is shared counts as often as it is met; a slice's spare places count too). A statement '..UptoSaid' is the law's where the arguments, and the package variables that the reading takes, are together of bulk at most 1048576: NARROWER than '..Said'. Prove '..Said' where nothing that the law and all that it calls make is longer than what came in: it says more and counts as full. Else prove '..UptoSaid'. A law counts once. -/
mutual
def uptoBulk {H : Type} : DataW H → Nat
  | .lit (.string bytes) => bytes.length + 1
  | .lit _ => 1
  | .nil => 1
  | .ptr d => uptoBulk d + 1
  | .slice elems spare => uptoBulkAll elems + uptoBulkAll spare + 1
  | .agg parts => uptoBulkAll parts + 1
  | .iface _ d => uptoBulk d + 1
  | .map entries => uptoBulkEntries entries + 1
  | .held _ => 1
def uptoBulkAll {H : Type} : List (DataW H) → Nat
  | [] => 0
  | d :: r => uptoBulk d + uptoBulkAll r
def uptoBulkEntries {H : Type} : List (Lit × DataW H) → Nat
  | [] => 0
  | x :: r => uptoBulkEntry x + uptoBulkEntries r
def uptoBulkEntry {H : Type} : Lit × DataW H → Nat
  | (.string bytes, d) => bytes.length + uptoBulk d + 1
  | (_, d) => uptoBulk d + 1
 end
def uptoSmall : (H : Type) → List (DataW H) → Bool := fun _ ds => decide (uptoBulkAll ds ≤ 1048576)
def OpenSpec.upto (s : _root_.Go.ChangeSpec) : _root_.Go.OpenSpec := { _root_.Go.OpenSpec.ofChange s with cond := some uptoSmall }

/-- 'bolterlaw03.TreeClones', WHERE WHAT IT READS IS OF BULK AT MOST 1048576: true; the input reads as it did. -/
def treeClonesUptoRow : OpenClaim := { program := "ytmgfcckboncecaa", sum := "994fe1fe5aa14871fc950dd81b4e55ae2fbf700df2eb465daf84c276d5e269f5", func := "bolter/bolterlaw03.TreeClones", spec := "treeClones", unfollowed := true, recurses := true, loops := true, apart := false, narrowed := true }
def TreeClonesUptoSaid : Prop := treeClonesUptoRow.holds Try.pinned (OpenSpec.upto treeClonesSpec)

/-- 'bolterlaw03.TreeTells', WHERE WHAT IT READS IS OF BULK AT MOST 1048576: true; the input reads as it did. -/
def treeTellsUptoRow : OpenClaim := { program := "ytmgfcckboncecaa", sum := "994fe1fe5aa14871fc950dd81b4e55ae2fbf700df2eb465daf84c276d5e269f5", func := "bolter/bolterlaw03.TreeTells", spec := "treeTells", unfollowed := true, recurses := true, loops := true, apart := false, narrowed := true }
def TreeTellsUptoSaid : Prop := treeTellsUptoRow.holds Try.pinned (OpenSpec.upto treeTellsSpec)

/-- 'bolterlaw03.TreeTurns', WHERE WHAT IT READS IS OF BULK AT MOST 1048576: true; the input reads as it did. -/
def treeTurnsUptoRow : OpenClaim := { program := "ytmgfcckboncecaa", sum := "994fe1fe5aa14871fc950dd81b4e55ae2fbf700df2eb465daf84c276d5e269f5", func := "bolter/bolterlaw03.TreeTurns", spec := "treeTurns", unfollowed := true, recurses := true, loops := true, apart := false, narrowed := true }
def TreeTurnsUptoSaid : Prop := treeTurnsUptoRow.holds Try.pinned (OpenSpec.upto treeTurnsSpec)

/-- 'bolterlaw13.LooksFound', WHERE WHAT IT READS IS OF BULK AT MOST 1048576: true; the input reads as it did. -/
def looksFoundUptoRow : OpenClaim := { program := "ytmgfcckboncecaa", sum := "994fe1fe5aa14871fc950dd81b4e55ae2fbf700df2eb465daf84c276d5e269f5", func := "bolter/bolterlaw13.LooksFound", spec := "looksFound", unfollowed := true, recurses := true, loops := true, apart := false, narrowed := true }
def LooksFoundUptoSaid : Prop := looksFoundUptoRow.holds Try.pinned (OpenSpec.upto looksFoundSpec)

end Rows
end Go.Proofs.Ytmgfcckboncecaa
