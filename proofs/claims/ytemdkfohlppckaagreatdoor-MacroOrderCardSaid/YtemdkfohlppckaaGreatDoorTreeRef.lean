/- The document's answers on patterns: great, formed. Conditions: none. -/
import Derived.Test.YtemdkfohlppckaaGreatDoorTreeForm

namespace Go.Proofs.YtemdkfohlppckaaGreatDoor.tree
open Go Go.Ev Go.Proofs


/-- Formed. -/
def formedR (r : Re) : Bool := decide (deepR 40 r ≤ 40) && allR r && decide (sizeR r ≤ 1000)
end Go.Proofs.YtemdkfohlppckaaGreatDoor.tree
