/- The contract of text.At. -/
import Derived.Test.YtdomhdfeedecpaaGreatDoorA
set_option linter.unusedSimpArgs false
set_option linter.unusedVariables false
namespace Go.Proofs.YtdomhdfeedecpaaGreatDoor
open Go.RowKit

end Go.Proofs.YtdomhdfeedecpaaGreatDoor
