/- Contracts of the small byte tests of package text and of its reference. No conditions. -/
import Derived.Test.YtoeeodemimndlaaGreatDoorChecked
import Derived.Test.YtoeeodemimndlaaGreatDoorP1
set_option linter.unusedSimpArgs false
set_option linter.unusedVariables false
namespace Go.Proofs.YtoeeodemimndlaaGreatDoor
open Go.RowKit

/-- The element types' rows of the program's table. -/
theorem E_byte : ElemOf Tryz.prog 81 5 1 1 := ElemOf.mk (z := .int .u8 0) Tryz.underlying81 (by kernel_rfl) rfl (by decide)
def elFld (_ : World) (_ : Nat → Prop) (cs : List Value) (f : Fld) : Prop := cs = [.string (S f.text), .int .i64 f.col, .bool f.quoted]
theorem elFld_good : Good elFld := ⟨fun h _ _ => h⟩
def elLin (w : World) (F : Nat → Prop) (cs : List Value) (x : Lin) : Prop := ∃ v, cs = [.int .i64 x.num, v] ∧ Sl 3 elFld w F v x.fields
theorem elLin_good : Good elLin := ⟨fun ⟨v, h1, h2⟩ hs hG => ⟨v, h1, h2.keep elFld_good hs hG⟩⟩
def elDia (_ : World) (_ : Nat → Prop) (cs : List Value) (d : Dia) : Prop := cs = [.int .i64 d.line, .int .i64 d.col, .int .i64 d.code]
theorem elDia_good : Good elDia := ⟨fun h _ _ => h⟩
end Go.Proofs.YtoeeodemimndlaaGreatDoor
