/- The contracts of text's cursor. No conditions but that the cursor lies in a block of its own. -/
import Derived.Test.YtoeeodemimndlaaGreatDoorT2
import Derived.Test.YtoeeodemimndlaaGreatDoorB
set_option linter.unusedSimpArgs false
set_option linter.unusedVariables false
namespace Go.Proofs.YtoeeodemimndlaaGreatDoor
open Go.RowKit

def curCells (c : Cur) (fv : Value) : Array Value := #[.int .i64 c.num, fv, .int .i64 c.next, .int .i64 c.last, .int .i64 c.err, .int .i64 c.pos]
end Go.Proofs.YtoeeodemimndlaaGreatDoor
