/- A side in a block of its own while it is read; an append next to calls in a region that draws; the contract of squad.player. -/
import Derived.Test.YtfnfbojaiikigaaGreatDoorPP
import Derived.Test.YtfnfbojaiikigaaGreatDoorA2
import Derived.Test.YtfnfbojaiikigaaGreatDoorC
import Derived.Test.YtfnfbojaiikigaaGreatDoorQ2
import Derived.Test.YtfnfbojaiikigaaGreatDoorQG
import Derived.Deep.RegionLaw
set_option linter.unusedSimpArgs false
set_option linter.unusedVariables false
namespace Go.Proofs.YtfnfbojaiikigaaGreatDoor
open Go.RowKit

end Go.Proofs.YtfnfbojaiikigaaGreatDoor
