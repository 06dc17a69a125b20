/-
  NARROWER THAN 'FOR EVERY INPUT', by the rows' own cells (each row's printed sentence says how): NormBuilds: loops.
  DERIVED. THE GIVEN ROWS OF THIS SEAT. 3 by the template 'for every input the law returns true; each argument reads behind the call as it read before'; 0 by the template 'total and deterministic' (their statements: YtblpobeokfkggaaTotals.lean).
  GIVEN WITH THE SEED: the statements are not yours to turn. If you find one false, say at which input.
  Laid BY PROGRAM, IN A SANDBOX (cutbox-rows.mjs): the forced cells as the released guide's own fill.sh prints them over the translation 22f488fca62bb0de… (all of the seat's roots in one cut). By AI agents, Wed Nov 11 2026. No macro, syntax, notation, axiom, sorry.
-/
import Derived.Test.YtblpobeokfkggaaChecked
import GoSem.Claim
import GoSem.ClaimJoined
import GoSem.ClaimMapViews
import Derived.JoinedTies
import Derived.KernelRfl
namespace Go.Proofs.Ytblpobeokfkggaa
/- THE CELL 'sum', in the pinned program and in every row, IS THE sha256 OF THE DUMP (.gsa) THAT YtblpobeokfkggaaProg.lean LOADS. Nothing in Lean hashes anything: it is a label: what it is worth is what the hold of that sum in a sandbox is worth. -/
noncomputable def Try.pinned : Pinned := { name := "ytblpobeokfkggaa", sum := "22f488fca62bb0dec88075bcfdae2d578dec02ff6e30b1d886a61e7c1bcb452f", checked := Try.checked }
namespace Rows
def none {H : Type} : Left H := { results := [], args := [] }

/-- 'bolterlaw10.NormNulls': WHATEVER THE INPUT: true; the input reads as it did. -/
def normNullsSpec : ChangeSpec := { name := "normNulls", fn := fun _ => fun
  | [d1, d2, d3] => { results := [.lit (.bool true)], args := [d1, d2, d3] }
  | _ => none }
def normNullsRow : OpenClaim := { program := "ytblpobeokfkggaa", sum := "22f488fca62bb0dec88075bcfdae2d578dec02ff6e30b1d886a61e7c1bcb452f", func := "bolter/bolterlaw10.NormNulls", spec := "normNulls", unfollowed := true, recurses := true, plainKeys := false, apart := false }
def NormNullsSaid : Prop := normNullsRow.holds Try.pinned (OpenSpec.ofChange normNullsSpec)

/-- ITS FALSE NEIGHBOUR: 'it returns false'. Refute it at one input. -/
def normNullsWrong : ChangeSpec := { name := "normNulls", fn := fun _ => fun
  | [d1, d2, d3] => { results := [.lit (.bool false)], args := [d1, d2, d3] }
  | _ => none }
def NormNullsWrongFalsely : Prop := normNullsRow.holds Try.pinned (OpenSpec.ofChange normNullsWrong)

/-- 'bolterlaw10.NormSame': WHATEVER THE INPUT: true; the input reads as it did. -/
def normSameSpec : ChangeSpec := { name := "normSame", fn := fun _ => fun
  | [d1, d2, d3, d4] => { results := [.lit (.bool true)], args := [d1, d2, d3, d4] }
  | _ => none }
def normSameRow : OpenClaim := { program := "ytblpobeokfkggaa", sum := "22f488fca62bb0dec88075bcfdae2d578dec02ff6e30b1d886a61e7c1bcb452f", func := "bolter/bolterlaw10.NormSame", spec := "normSame", unfollowed := true, recurses := true, plainKeys := false, apart := false }
def NormSameSaid : Prop := normSameRow.holds Try.pinned (OpenSpec.ofChange normSameSpec)

/-- ITS FALSE NEIGHBOUR: 'it returns false'. Refute it at one input. -/
def normSameWrong : ChangeSpec := { name := "normSame", fn := fun _ => fun
  | [d1, d2, d3, d4] => { results := [.lit (.bool false)], args := [d1, d2, d3, d4] }
  | _ => none }
def NormSameWrongFalsely : Prop := normSameRow.holds Try.pinned (OpenSpec.ofChange normSameWrong)

/-- 'bolterlaw10.NormBuilds': WHATEVER THE INPUT: true; the input reads as it did. -/
def normBuildsSpec : ChangeSpec := { name := "normBuilds", fn := fun _ => fun
  | [d1, d2] => { results := [.lit (.bool true)], args := [d1, d2] }
  | _ => none }
def normBuildsRow : OpenClaim := { program := "ytblpobeokfkggaa", sum := "22f488fca62bb0dec88075bcfdae2d578dec02ff6e30b1d886a61e7c1bcb452f", func := "bolter/bolterlaw10.NormBuilds", spec := "normBuilds", unfollowed := true, recurses := true, loops := true, plainKeys := false, apart := false }
def NormBuildsSaid : Prop := normBuildsRow.holds Try.pinned (OpenSpec.ofChange normBuildsSpec)

/-- ITS FALSE NEIGHBOUR: 'it returns false'. Refute it at one input. -/
def normBuildsWrong : ChangeSpec := { name := "normBuilds", fn := fun _ => fun
  | [d1, d2] => { results := [.lit (.bool false)], args := [d1, d2] }
  | _ => none }
def NormBuildsWrongFalsely : Prop := normBuildsRow.holds Try.pinned (OpenSpec.ofChange normBuildsWrong)

/- THE SECOND FORM. 'bulk': how many values and letters a reading holds, each counted each time it is reached (what is shared counts as often as it is met; a slice's spare places count too). A statement '..UptoSaid' is the law's where the arguments, and the package variables that the reading takes, are together of bulk at most 1048576: NARROWER than '..Said'. Prove '..Said' where nothing that the law and all that it calls make is longer than what came in: it says more and counts as full. Else prove '..UptoSaid'. A law counts once. -/
mutual
def uptoBulk {H : Type} : DataW H → Nat
  | .lit (.string bytes) => bytes.length + 1
  | .lit _ => 1
  | .nil => 1
  | .ptr d => uptoBulk d + 1
  | .slice elems spare => uptoBulkAll elems + uptoBulkAll spare + 1
  | .agg parts => uptoBulkAll parts + 1
  | .iface _ d => uptoBulk d + 1
  | .map entries => uptoBulkEntries entries + 1
  | .held _ => 1
def uptoBulkAll {H : Type} : List (DataW H) → Nat
  | [] => 0
  | d :: r => uptoBulk d + uptoBulkAll r
def uptoBulkEntries {H : Type} : List (Lit × DataW H) → Nat
  | [] => 0
  | x :: r => uptoBulkEntry x + uptoBulkEntries r
def uptoBulkEntry {H : Type} : Lit × DataW H → Nat
  | (.string bytes, d) => bytes.length + uptoBulk d + 1
  | (_, d) => uptoBulk d + 1
 end
def uptoSmall : (H : Type) → List (DataW H) → Bool := fun _ ds => decide (uptoBulkAll ds ≤ 1048576)
def OpenSpec.upto (s : _root_.Go.ChangeSpec) : _root_.Go.OpenSpec := { _root_.Go.OpenSpec.ofChange s with cond := some uptoSmall }

/-- 'bolterlaw10.NormNulls', WHERE WHAT IT READS IS OF BULK AT MOST 1048576: true; the input reads as it did. -/
def normNullsUptoRow : OpenClaim := { program := "ytblpobeokfkggaa", sum := "22f488fca62bb0dec88075bcfdae2d578dec02ff6e30b1d886a61e7c1bcb452f", func := "bolter/bolterlaw10.NormNulls", spec := "normNulls", unfollowed := true, recurses := true, plainKeys := false, apart := false, narrowed := true }
def NormNullsUptoSaid : Prop := normNullsUptoRow.holds Try.pinned (OpenSpec.upto normNullsSpec)

/-- 'bolterlaw10.NormSame', WHERE WHAT IT READS IS OF BULK AT MOST 1048576: true; the input reads as it did. -/
def normSameUptoRow : OpenClaim := { program := "ytblpobeokfkggaa", sum := "22f488fca62bb0dec88075bcfdae2d578dec02ff6e30b1d886a61e7c1bcb452f", func := "bolter/bolterlaw10.NormSame", spec := "normSame", unfollowed := true, recurses := true, plainKeys := false, apart := false, narrowed := true }
def NormSameUptoSaid : Prop := normSameUptoRow.holds Try.pinned (OpenSpec.upto normSameSpec)

/-- 'bolterlaw10.NormBuilds', WHERE WHAT IT READS IS OF BULK AT MOST 1048576: true; the input reads as it did. -/
def normBuildsUptoRow : OpenClaim := { program := "ytblpobeokfkggaa", sum := "22f488fca62bb0dec88075bcfdae2d578dec02ff6e30b1d886a61e7c1bcb452f", func := "bolter/bolterlaw10.NormBuilds", spec := "normBuilds", unfollowed := true, recurses := true, loops := true, plainKeys := false, apart := false, narrowed := true }
def NormBuildsUptoSaid : Prop := normBuildsUptoRow.holds Try.pinned (OpenSpec.upto normBuildsSpec)

end Rows
end Go.Proofs.Ytblpobeokfkggaa
