/- The contract of squad.Check. -/
import Derived.Test.YtfnfbojaiikigaaGreatDoorQ1
import Derived.Test.YtfnfbojaiikigaaGreatDoorT1
set_option linter.unusedSimpArgs false
set_option linter.unusedVariables false
namespace Go.Proofs.YtfnfbojaiikigaaGreatDoor
open Go.RowKit

theorem playersErr_step {l : List (List UInt8)} {k : Nat} (h : k < l.length) : playersErr (l.drop k) (l.take k) = if nameS l[k] = false then 5 else if l[k] ∈ l.take k then 7 else playersErr (l.drop (k + 1)) (l.take (k + 1)) := by
  rw [List.drop_eq_getElem_cons h, playersErr, List.take_succ_eq_append_getElem h]
end Go.Proofs.YtfnfbojaiikigaaGreatDoor
