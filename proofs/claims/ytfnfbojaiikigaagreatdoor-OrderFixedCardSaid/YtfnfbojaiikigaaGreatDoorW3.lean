/- What every law of a seat with the number tables needs about its row: the witness's world, what the listed variables hold. -/
import Derived.Test.YtfnfbojaiikigaaGreatDoorWB
import Derived.Test.YtfnfbojaiikigaaGreatDoorG2
import Derived.Stop.LaidErr
set_option linter.unusedSimpArgs false
set_option linter.unusedVariables false
namespace Go.Proofs.YtfnfbojaiikigaaGreatDoor
open Go.ChangeShapes Go.WideShapes Go.ChangeAt Go.RowKit

def litCells : DataW Unit → Array Value
  | .agg ds => (ds.map fun d => match d with | .lit (.int k z) => Value.int k z | _ => Value.int .u8 0).toArray
  | _ => #[]
noncomputable def lowN : Nat := (World.holding Tryz.prog default ⟨#[], #[], []⟩).heap.size
/-- The settled world with two blocks more, each an errors.errorString; the listed tables hold what their initialisers lay, the two errors point to the blocks. -/
noncomputable def laidWorld (os : Os) : World :=
  let w0 := World.holding Tryz.prog os ⟨#[.cells #[.string ⟨#[118, 97, 108, 117, 101, 32, 111, 117, 116, 32, 111, 102, 32, 114, 97, 110, 103, 101]⟩] 254, .cells #[.string ⟨#[105, 110, 118, 97, 108, 105, 100, 32, 115, 121, 110, 116, 97, 120]⟩] 254], #[], []⟩
  { w0 with heap := (((((((w0.heap.modify 3 (relay tabFirst)).modify 4 (relay tabAccept)).modify 5 (relay (litCells Rows.laid_internal_strconv_uint64pow10))).modify 6 (relay (litCells Rows.laid_math_bits_deBruijn32tab))).modify 7 (relay (litCells Rows.laid_math_bits_deBruijn64tab))).modify 2 (relay #[.iface 252 (.pointer (some ⟨lowN, 0, none⟩))])).modify 1 (relay #[.iface 252 (.pointer (some ⟨lowN + 1, 0, none⟩))])) }
def laidAll : List (String × DataW Unit) := [("math/bits.deBruijn32tab", Rows.laid_math_bits_deBruijn32tab), ("math/bits.deBruijn64tab", Rows.laid_math_bits_deBruijn64tab), ("internal/strconv.uint64pow10", Rows.laid_internal_strconv_uint64pow10), ("unicode/utf8.acceptRanges", Rows.laid_unicode_utf8_acceptRanges), ("strconv.ErrRange", Rows.laid_strconv_ErrRange), ("strconv.ErrSyntax", Rows.laid_strconv_ErrSyntax), ("unicode/utf8.first", Rows.laid_unicode_utf8_first)]
theorem star_err : "*" ++ "errors.errorString" = "*errors.errorString" := by decide
theorem row_err (u : TypeId) (h : Tryz.prog.typeName? 3 u = some "*errors.errorString") : u = 252 :=
  typeName_ptr_named (nm := "errors.errorString") (by rw [star_err]; kernel_rfl) (by kernel_rfl) (by decide) u (by rw [star_err]; exact h)
/-- The world in which a law is called bears the number tables. -/
theorem globN_of {W : World} (hsh : W.ShapedOpen Tryz.prog) (hL : laidMet Tryz.prog laidAll W) : GlobN W := by
  have h2 := hL.tail.tail
  have h4 := hL.tail.tail.tail.tail
  refine ⟨⟨hsh⟩, ?_, ?_⟩
  · obtain ⟨a, s, h, _⟩ := laid_sentinel (P := Tryz.prog) (g := 2) (ti := 143) (tp := 252) (te := 254) (ts := 9) h4 (by kernel_rfl) (by kernel_rfl) Tryz.underlying143 row_err Tryz.underlying252 Tryz.underlying254 rfl rfl Tryz.underlying9 (by kernel_rfl) (by kernel_rfl)
    exact ⟨_, _, h⟩
  · exact Lib.tabIs_of_head (g := 5) (t := 256) (e := 191) (n := 20) (by kernel_rfl) (by kernel_rfl) Tryz.underlying256 Tryz.underlying191 (by kernel_rfl) (by kernel_rfl) h2
end Go.Proofs.YtfnfbojaiikigaaGreatDoor
