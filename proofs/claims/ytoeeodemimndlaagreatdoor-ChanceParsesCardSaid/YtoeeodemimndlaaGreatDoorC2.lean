/- The contract of the cursor's read. -/
import Derived.Test.YtoeeodemimndlaaGreatDoorC
set_option linter.unusedSimpArgs false
set_option linter.unusedVariables false
namespace Go.Proofs.YtoeeodemimndlaaGreatDoor
open Go.RowKit

end Go.Proofs.YtoeeodemimndlaaGreatDoor
