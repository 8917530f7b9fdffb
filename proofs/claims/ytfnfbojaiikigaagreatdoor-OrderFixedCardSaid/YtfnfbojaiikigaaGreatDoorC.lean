/- The contracts of the cursor (once C, C2, C3, C4). -/
import Derived.Test.YtfnfbojaiikigaaGreatDoorT1
import Derived.Test.YtfnfbojaiikigaaGreatDoorR
import Derived.Test.YtfnfbojaiikigaaGreatDoorS1
set_option linter.unusedSimpArgs false
set_option linter.unusedVariables false
namespace Go.Proofs.YtfnfbojaiikigaaGreatDoor
section
/-! part C -/
open Go.RowKit

def curCells (c : Cur) (fv : Value) : Array Value := #[.int .i64 c.num, fv, .int .i64 c.next, .int .i64 c.last, .int .i64 c.err, .int .i64 c.pos]
end

section
/-! part C2 -/
open Go.RowKit

end

section
/-! part C3 -/
open Go.RowKit

end

section
/-! part C4 -/
open Go.RowKit

def closeV : Option Dia → Value
  | some d => .tuple #[.agg #[.int .i64 d.line, .int .i64 d.col, .int .i64 d.code], .bool true]
  | none => .tuple #[.agg #[.int .i64 0, .int .i64 0, .int .i64 0], .bool false]
end
end Go.Proofs.YtfnfbojaiikigaaGreatDoor
