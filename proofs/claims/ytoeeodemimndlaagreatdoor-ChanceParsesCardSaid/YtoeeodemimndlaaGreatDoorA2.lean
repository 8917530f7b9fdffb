/- The contract of text.At. -/
import Derived.Test.YtoeeodemimndlaaGreatDoorA
set_option linter.unusedSimpArgs false
set_option linter.unusedVariables false
namespace Go.Proofs.YtoeeodemimndlaaGreatDoor
open Go.RowKit

end Go.Proofs.YtoeeodemimndlaaGreatDoor
