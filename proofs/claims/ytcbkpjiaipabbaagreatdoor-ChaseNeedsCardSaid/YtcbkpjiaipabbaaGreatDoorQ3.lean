/- A side in a block of its own while it is read; an append next to calls in a region that draws; the contract of squad.player. -/
import Derived.Test.YtcbkpjiaipabbaaGreatDoorPP
import Derived.Test.YtcbkpjiaipabbaaGreatDoorA2
import Derived.Test.YtcbkpjiaipabbaaGreatDoorC
import Derived.Test.YtcbkpjiaipabbaaGreatDoorQ2
import Derived.Test.YtcbkpjiaipabbaaGreatDoorQG
import Derived.Deep.RegionLaw
set_option linter.unusedSimpArgs false
set_option linter.unusedVariables false
namespace Go.Proofs.YtcbkpjiaipabbaaGreatDoor
open Go.RowKit

end Go.Proofs.YtcbkpjiaipabbaaGreatDoor
