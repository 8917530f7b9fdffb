/- Contracts of slices.Contains and Equal over slices that read as texts: the shelf's, in this family's words. -/
import Derived.Test.YtdomhdfeedecpaaGreatDoorS1
set_option linter.unusedSimpArgs false
set_option linter.unusedVariables false
namespace Go.Proofs.YtdomhdfeedecpaaGreatDoor
open Go.RowKit

end Go.Proofs.YtdomhdfeedecpaaGreatDoor
