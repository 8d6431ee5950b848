/- '==' of great arrays of numbers: one law. -/
import Derived.DeepKeys
import Derived.Test.YtoepbhacpidcbaaGreatDoorQBase
import Derived.Test.YtoepbhacpidcbaaGreatDoorQIdx
import Derived.Test.YtoepbhacpidcbaaGreatDoorQIdxB
import Derived.Test.YtoepbhacpidcbaaGreatDoorQPerm
import Derived.Test.YtoepbhacpidcbaaGreatDoorQRef

set_option linter.unusedVariables false
set_option linter.unusedSimpArgs false
namespace Go.Proofs.YtoepbhacpidcbaaGreatDoor
open Go.RowKit

/-- A row of cells of numbers, and of their words. -/
def cellsR (n : Nat) (f : Nat → Int) : List Value := (List.range n).map fun i => .int .i64 (f i)
end Go.Proofs.YtoepbhacpidcbaaGreatDoor
