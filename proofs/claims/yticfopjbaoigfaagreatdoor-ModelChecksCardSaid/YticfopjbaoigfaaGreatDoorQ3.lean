/- A side in a block of its own while it is read; an append next to calls in a region that draws; the contract of squad.player. -/
import Derived.Test.YticfopjbaoigfaaGreatDoorPP
import Derived.Test.YticfopjbaoigfaaGreatDoorA2
import Derived.Test.YticfopjbaoigfaaGreatDoorC
import Derived.Test.YticfopjbaoigfaaGreatDoorQ2
import Derived.Test.YticfopjbaoigfaaGreatDoorQG
import Derived.Deep.RegionLaw
set_option linter.unusedSimpArgs false
set_option linter.unusedVariables false
namespace Go.Proofs.YticfopjbaoigfaaGreatDoor
open Go.RowKit

end Go.Proofs.YticfopjbaoigfaaGreatDoor
