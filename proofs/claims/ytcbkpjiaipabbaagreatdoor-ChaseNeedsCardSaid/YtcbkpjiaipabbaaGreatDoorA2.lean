/- The contract of text.At. -/
import Derived.Test.YtcbkpjiaipabbaaGreatDoorA
set_option linter.unusedSimpArgs false
set_option linter.unusedVariables false
namespace Go.Proofs.YtcbkpjiaipabbaaGreatDoor
open Go.RowKit

end Go.Proofs.YtcbkpjiaipabbaaGreatDoor
