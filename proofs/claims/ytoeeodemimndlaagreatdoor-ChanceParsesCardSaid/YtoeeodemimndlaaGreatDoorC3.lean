/- The contracts of the cursor's Keyword, Ident, OneOf, Reject and Close. -/
import Derived.Test.YtoeeodemimndlaaGreatDoorC2
import Derived.Test.YtoeeodemimndlaaGreatDoorS1
set_option linter.unusedSimpArgs false
set_option linter.unusedVariables false
namespace Go.Proofs.YtoeeodemimndlaaGreatDoor
open Go.RowKit

end Go.Proofs.YtoeeodemimndlaaGreatDoor
