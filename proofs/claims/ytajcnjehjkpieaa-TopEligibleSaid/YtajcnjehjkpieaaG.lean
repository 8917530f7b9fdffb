/- What the contracts ask of the world in which a call begins: the library's variables lie as they should. It holds as long as nothing below is written. -/
import Derived.Test.YtajcnjehjkpieaaT1
import Derived.Test.YtajcnjehjkpieaaShelf
import Derived.ChangeAgain
set_option linter.unusedSimpArgs false
set_option linter.unusedVariables false
namespace Go.Proofs.Ytajcnjehjkpieaa
open Go.RowKit

structure Glob (w : World) : Prop where
  shaped : w.ShapedOpen Try.prog
theorem Glob.below {w w' : World} (h : Glob w) (hb : Below w.heap.size w w') : Glob w' :=
  ⟨h.shaped.keptBut (hb.frame (fun _ => False)) (fun _ h => h.elim)⟩

end Go.Proofs.Ytajcnjehjkpieaa
