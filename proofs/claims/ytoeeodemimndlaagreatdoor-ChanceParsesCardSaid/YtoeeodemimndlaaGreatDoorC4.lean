/- The contract of the cursor's Close. -/
import Derived.Test.YtoeeodemimndlaaGreatDoorC3
set_option linter.unusedSimpArgs false
set_option linter.unusedVariables false
namespace Go.Proofs.YtoeeodemimndlaaGreatDoor
open Go.RowKit

def closeV : Option Dia → Value
  | some d => .tuple #[.agg #[.int .i64 d.line, .int .i64 d.col, .int .i64 d.code], .bool true]
  | none => .tuple #[.agg #[.int .i64 0, .int .i64 0, .int .i64 0], .bool false]
end Go.Proofs.YtoeeodemimndlaaGreatDoor
