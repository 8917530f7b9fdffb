/- Contracts of slices.Contains and Equal over slices that read as texts: the shelf's, in this family's words. -/
import Derived.Test.YtfnfbojaiikigaaGreatDoorS1
set_option linter.unusedSimpArgs false
set_option linter.unusedVariables false
namespace Go.Proofs.YtfnfbojaiikigaaGreatDoor
open Go.RowKit

end Go.Proofs.YtfnfbojaiikigaaGreatDoor
