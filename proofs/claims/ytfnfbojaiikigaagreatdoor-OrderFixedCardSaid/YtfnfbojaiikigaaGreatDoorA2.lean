/- The contract of text.At. -/
import Derived.Test.YtfnfbojaiikigaaGreatDoorA
set_option linter.unusedSimpArgs false
set_option linter.unusedVariables false
namespace Go.Proofs.YtfnfbojaiikigaaGreatDoor
open Go.RowKit

end Go.Proofs.YtfnfbojaiikigaaGreatDoor
