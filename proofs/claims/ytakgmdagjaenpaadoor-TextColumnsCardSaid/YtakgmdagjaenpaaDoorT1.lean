/- Contracts of the small byte tests of package text and of its reference. No conditions. -/
import Derived.Test.YtakgmdagjaenpaaDoorChecked
import Derived.Test.YtakgmdagjaenpaaDoorP1
set_option linter.unusedSimpArgs false
set_option linter.unusedVariables false
namespace Go.Proofs.YtakgmdagjaenpaaDoor
open Go.RowKit

theorem text_white (c : UInt8) (w : World) :
    Calls Tryd.prog 24 #[.int .u8 c.toNat] w fun e w' => e = .returned (.bool (whiteB c)) ∧ w = w' := by
  go_enter Tryd.func24, Tryd.ntmps24
  go_wp2
  all_goals go_ret
  all_goals refine ⟨ret_b ?_, rfl⟩
  all_goals (rw [Bool.eq_iff_iff]; simp [whiteB, ← UInt8.toNat_inj, UInt8.le_iff_toNat_le, UInt8.lt_iff_toNat_lt] <;> omega)
theorem text_printed (c : UInt8) (w : World) :
    Calls Tryd.prog 27 #[.int .u8 c.toNat] w fun e w' => e = .returned (.bool (printedB c)) ∧ w = w' := by
  go_enter Tryd.func27, Tryd.ntmps27
  go_wp2
  all_goals go_ret
  all_goals refine ⟨ret_b ?_, rfl⟩
  all_goals (rw [Bool.eq_iff_iff]; simp [printedB, ← UInt8.toNat_inj, UInt8.le_iff_toNat_le, UInt8.lt_iff_toNat_lt] <;> omega)
set_option maxRecDepth 100000 in
theorem text_wordByte (c : UInt8) (w : World) :
    Calls Tryd.prog 25 #[.int .u8 c.toNat] w fun e w' => e = .returned (.bool (wordB c)) ∧ w = w' := by
  go_enter Tryd.func25, Tryd.ntmps25
  go_wp2
  all_goals go_ret
  all_goals refine ⟨ret_b ?_, rfl⟩
  all_goals (rw [Bool.eq_iff_iff]; simp [wordB, ← UInt8.toNat_inj, UInt8.le_iff_toNat_le, UInt8.lt_iff_toNat_lt] <;> omega)
/-- The element types' rows of the program's table. -/
theorem E_byte : ElemOf Tryd.prog 63 5 1 1 := ElemOf.mk (z := .int .u8 0) Tryd.underlying63 (by kernel_rfl) rfl (by decide)
def elFld (_ : World) (_ : Nat → Prop) (cs : List Value) (f : Fld) : Prop := cs = [.string (S f.text), .int .i64 f.col, .bool f.quoted]
theorem elFld_good : Good elFld := ⟨fun h _ _ => h⟩
def elLin (w : World) (F : Nat → Prop) (cs : List Value) (x : Lin) : Prop := ∃ v, cs = [.int .i64 x.num, v] ∧ Sl 3 elFld w F v x.fields
theorem elLin_good : Good elLin := ⟨fun ⟨v, h1, h2⟩ hs hG => ⟨v, h1, h2.keep elFld_good hs hG⟩⟩
def elDia (_ : World) (_ : Nat → Prop) (cs : List Value) (d : Dia) : Prop := cs = [.int .i64 d.line, .int .i64 d.col, .int .i64 d.code]
theorem elDia_good : Good elDia := ⟨fun h _ _ => h⟩
theorem E_fld : ElemOf Tryd.prog 28 32 3 32 := ElemOf.mk (z := .agg #[.string ByteArray.empty, .int .i64 0, .bool false]) Tryd.underlying28 (by kernel_rfl) rfl (by decide)
theorem E_lin : ElemOf Tryd.prog 24 30 2 32 := ElemOf.mk (z := .agg #[.int .i64 0, .slice none 0 0]) Tryd.underlying24 (by kernel_rfl) rfl (by decide)
theorem E_dia : ElemOf Tryd.prog 25 41 3 24 := ElemOf.mk (z := .agg #[.int .i64 0, .int .i64 0, .int .i64 0]) Tryd.underlying25 (by kernel_rfl) rfl (by decide)
@[go_sem] theorem build_fld3 (a : ByteArray) (b : Int) (c : Bool) (w : World) : (Instr.build 32 #[(0, .string a), (1, .int .i64 b), (2, .bool c)]).run Tryd.prog w = .ok (.agg #[.string a, .int .i64 b, .bool c]) w := run_build w 32 _ _ (by kernel_rfl)
@[go_sem] theorem build_fldq (a : ByteArray) (c : Bool) (w : World) : (Instr.build 32 #[(0, .string a), (2, .bool c)]).run Tryd.prog w = .ok (.agg #[.string a, .int .i64 0, .bool c]) w := run_build w 32 _ _ (by kernel_rfl)
@[go_sem] theorem build_fld2 (a : ByteArray) (b : Int) (w : World) : (Instr.build 32 #[(0, .string a), (1, .int .i64 b)]).run Tryd.prog w = .ok (.agg #[.string a, .int .i64 b, .bool false]) w := run_build w 32 _ _ (by kernel_rfl)
@[go_sem] theorem build_fld1 (a : ByteArray) (w : World) : (Instr.build 32 #[(0, .string a)]).run Tryd.prog w = .ok (.agg #[.string a, .int .i64 0, .bool false]) w := run_build w 32 _ _ (by kernel_rfl)
@[go_sem] theorem build_lin2 (x : Int) (A : Option Addr) (n c : Nat) (w : World) : (Instr.build 30 #[(0, .int .i64 x), (1, .slice A n c)]).run Tryd.prog w = .ok (.agg #[.int .i64 x, .slice A n c]) w := run_build w 30 _ _ (by kernel_rfl)
@[go_sem] theorem build_lin1 (A : Option Addr) (n c : Nat) (w : World) : (Instr.build 30 #[(1, .slice A n c)]).run Tryd.prog w = .ok (.agg #[.int .i64 0, .slice A n c]) w := run_build w 30 _ _ (by kernel_rfl)
@[go_sem] theorem build_dia (a b c : Int) (w : World) : (Instr.build 41 #[(0, .int .i64 a), (1, .int .i64 b), (2, .int .i64 c)]).run Tryd.prog w = .ok (.agg #[.int .i64 a, .int .i64 b, .int .i64 c]) w := run_build w 41 _ _ (by kernel_rfl)
theorem E_str : ElemOf Tryd.prog 43 9 1 16 := ElemOf.mk (z := .string ByteArray.empty) Tryd.underlying43 (by kernel_rfl) rfl (by decide)
end Go.Proofs.YtakgmdagjaenpaaDoor
