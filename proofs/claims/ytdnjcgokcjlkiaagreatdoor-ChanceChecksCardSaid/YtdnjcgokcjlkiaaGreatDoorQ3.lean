/- A side in a block of its own while it is read; an append next to calls in a region that draws; the contract of squad.player. -/
import Derived.Test.YtdnjcgokcjlkiaaGreatDoorPP
import Derived.Test.YtdnjcgokcjlkiaaGreatDoorA2
import Derived.Test.YtdnjcgokcjlkiaaGreatDoorC
import Derived.Test.YtdnjcgokcjlkiaaGreatDoorQ2
import Derived.Test.YtdnjcgokcjlkiaaGreatDoorQG
import Derived.Deep.RegionLaw
set_option linter.unusedSimpArgs false
set_option linter.unusedVariables false
namespace Go.Proofs.YtdnjcgokcjlkiaaGreatDoor
open Go.RowKit

end Go.Proofs.YtdnjcgokcjlkiaaGreatDoor
