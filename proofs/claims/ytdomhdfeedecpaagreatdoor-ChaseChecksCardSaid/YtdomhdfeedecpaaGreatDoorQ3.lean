/- A side in a block of its own while it is read; an append next to calls in a region that draws; the contract of squad.player. -/
import Derived.Test.YtdomhdfeedecpaaGreatDoorPP
import Derived.Test.YtdomhdfeedecpaaGreatDoorA2
import Derived.Test.YtdomhdfeedecpaaGreatDoorC
import Derived.Test.YtdomhdfeedecpaaGreatDoorQ2
import Derived.Test.YtdomhdfeedecpaaGreatDoorQG
import Derived.Deep.RegionLaw
set_option linter.unusedSimpArgs false
set_option linter.unusedVariables false
namespace Go.Proofs.YtdomhdfeedecpaaGreatDoor
open Go.RowKit

end Go.Proofs.YtdomhdfeedecpaaGreatDoor
