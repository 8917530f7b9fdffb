/- The contracts of both and of Convolve, of the program and of the reference. No conditions but that the spreads can be read. -/
import Derived.Test.YtoeeodemimndlaaGreatDoorH6
set_option linter.unusedSimpArgs false
set_option linter.unusedVariables false
namespace Go.Proofs.YtoeeodemimndlaaGreatDoor
open Go.RowKit

def bothS (a b : Spr) : Int := if checkP a ≠ 0 then checkP a else checkP b
end Go.Proofs.YtoeeodemimndlaaGreatDoor
