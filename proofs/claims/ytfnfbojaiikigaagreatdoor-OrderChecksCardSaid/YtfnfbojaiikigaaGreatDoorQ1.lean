/- Contracts of squad.Title, Find and Same. -/
import Derived.Test.YtfnfbojaiikigaaGreatDoorS
import Derived.Test.YtfnfbojaiikigaaGreatDoorPP
import Derived.Test.YtfnfbojaiikigaaGreatDoorR
set_option linter.unusedSimpArgs false
set_option linter.unusedVariables false
namespace Go.Proofs.YtfnfbojaiikigaaGreatDoor
open Go.RowKit

/-- A side as a value. -/
def sqV (q : Sqd) (pv : Value) : Value := .agg #[.string (S q.name), pv, .int .i64 q.cap, .int .i64 q.kee]


def sameS (a b : Sqd) : Bool := decide (a.name = b.name) && decide (a.players = b.players) && decide (a.cap = b.cap) && decide (a.kee = b.kee)
theorem sameS_refl (q : Sqd) : sameS q q = true := by unfold sameS; simp
end Go.Proofs.YtfnfbojaiikigaaGreatDoor
