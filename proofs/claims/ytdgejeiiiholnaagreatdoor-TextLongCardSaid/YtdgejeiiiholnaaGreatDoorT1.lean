/- Contracts of the small byte tests of package text and of its reference. No conditions. -/
import Derived.Test.YtdgejeiiiholnaaGreatDoorChecked
import Derived.Test.YtdgejeiiiholnaaGreatDoorP1
set_option linter.unusedSimpArgs false
set_option linter.unusedVariables false
namespace Go.Proofs.YtdgejeiiiholnaaGreatDoor
open Go.RowKit

theorem text_white (c : UInt8) (w : World) :
    Calls Tryz.prog 90 #[.int .u8 c.toNat] w fun e w' => e = .returned (.bool (whiteB c)) ∧ w = w' := by
  go_enter Tryz.func90, Tryz.ntmps90
  go_wp2
  all_goals go_ret
  all_goals refine ⟨ret_b ?_, rfl⟩
  all_goals (rw [Bool.eq_iff_iff]; simp [whiteB, ← UInt8.toNat_inj, UInt8.le_iff_toNat_le, UInt8.lt_iff_toNat_lt] <;> omega)
theorem ref_white (c : UInt8) (w : World) :
    Calls Tryz.prog 93 #[.int .u8 c.toNat] w fun e w' => e = .returned (.bool (whiteB c)) ∧ w = w' := by
  go_enter Tryz.func93, Tryz.ntmps93
  go_wp2
  all_goals go_ret
  all_goals refine ⟨ret_b ?_, rfl⟩
  all_goals (rw [Bool.eq_iff_iff]; simp [whiteB, ← UInt8.toNat_inj, UInt8.le_iff_toNat_le, UInt8.lt_iff_toNat_lt] <;> omega)
theorem text_printed (c : UInt8) (w : World) :
    Calls Tryz.prog 123 #[.int .u8 c.toNat] w fun e w' => e = .returned (.bool (printedB c)) ∧ w = w' := by
  go_enter Tryz.func123, Tryz.ntmps123
  go_wp2
  all_goals go_ret
  all_goals refine ⟨ret_b ?_, rfl⟩
  all_goals (rw [Bool.eq_iff_iff]; simp [printedB, ← UInt8.toNat_inj, UInt8.le_iff_toNat_le, UInt8.lt_iff_toNat_lt] <;> omega)
set_option maxRecDepth 100000 in
theorem text_wordByte (c : UInt8) (w : World) :
    Calls Tryz.prog 92 #[.int .u8 c.toNat] w fun e w' => e = .returned (.bool (wordB c)) ∧ w = w' := by
  go_enter Tryz.func92, Tryz.ntmps92
  go_wp2
  all_goals go_ret
  all_goals refine ⟨ret_b ?_, rfl⟩
  all_goals (rw [Bool.eq_iff_iff]; simp [wordB, ← UInt8.toNat_inj, UInt8.le_iff_toNat_le, UInt8.lt_iff_toNat_lt] <;> omega)
set_option maxRecDepth 100000 in
theorem ref_wordByte (c : UInt8) (w : World) :
    Calls Tryz.prog 95 #[.int .u8 c.toNat] w fun e w' => e = .returned (.bool (wordB c)) ∧ w = w' := by
  go_enter Tryz.func95, Tryz.ntmps95
  go_wp2
  all_goals go_ret
  all_goals refine ⟨ret_b ?_, rfl⟩
  all_goals (rw [Bool.eq_iff_iff]; simp [wordB, ← UInt8.toNat_inj, UInt8.le_iff_toNat_le, UInt8.lt_iff_toNat_lt] <;> omega)

/-- The element types' rows of the program's table. -/
theorem E_byte : ElemOf Tryz.prog 23 5 1 1 := ElemOf.mk (z := .int .u8 0) Tryz.underlying23 (by kernel_rfl) rfl (by decide)
def elFld (_ : World) (_ : Nat → Prop) (cs : List Value) (f : Fld) : Prop := cs = [.string (S f.text), .int .i64 f.col, .bool f.quoted]
theorem elFld_good : Good elFld := ⟨fun h _ _ => h⟩
def elLin (w : World) (F : Nat → Prop) (cs : List Value) (x : Lin) : Prop := ∃ v, cs = [.int .i64 x.num, v] ∧ Sl 3 elFld w F v x.fields
theorem elLin_good : Good elLin := ⟨fun ⟨v, h1, h2⟩ hs hG => ⟨v, h1, h2.keep elFld_good hs hG⟩⟩
def elDia (_ : World) (_ : Nat → Prop) (cs : List Value) (d : Dia) : Prop := cs = [.int .i64 d.line, .int .i64 d.col, .int .i64 d.code]
theorem elDia_good : Good elDia := ⟨fun h _ _ => h⟩
theorem E_fld : ElemOf Tryz.prog 34 33 3 32 := ElemOf.mk (z := .agg #[.string ByteArray.empty, .int .i64 0, .bool false]) Tryz.underlying34 (by kernel_rfl) rfl (by decide)
theorem E_lin : ElemOf Tryz.prog 24 36 2 32 := ElemOf.mk (z := .agg #[.int .i64 0, .slice none 0 0]) Tryz.underlying24 (by kernel_rfl) rfl (by decide)
theorem E_dia : ElemOf Tryz.prog 25 31 3 24 := ElemOf.mk (z := .agg #[.int .i64 0, .int .i64 0, .int .i64 0]) Tryz.underlying25 (by kernel_rfl) rfl (by decide)
@[go_sem] theorem build_fld3 (a : ByteArray) (b : Int) (c : Bool) (w : World) : (Instr.build 33 #[(0, .string a), (1, .int .i64 b), (2, .bool c)]).run Tryz.prog w = .ok (.agg #[.string a, .int .i64 b, .bool c]) w := run_build w 33 _ _ (by kernel_rfl)
@[go_sem] theorem build_fldq (a : ByteArray) (c : Bool) (w : World) : (Instr.build 33 #[(0, .string a), (2, .bool c)]).run Tryz.prog w = .ok (.agg #[.string a, .int .i64 0, .bool c]) w := run_build w 33 _ _ (by kernel_rfl)
@[go_sem] theorem build_fld2 (a : ByteArray) (b : Int) (w : World) : (Instr.build 33 #[(0, .string a), (1, .int .i64 b)]).run Tryz.prog w = .ok (.agg #[.string a, .int .i64 b, .bool false]) w := run_build w 33 _ _ (by kernel_rfl)
@[go_sem] theorem build_fld1 (a : ByteArray) (w : World) : (Instr.build 33 #[(0, .string a)]).run Tryz.prog w = .ok (.agg #[.string a, .int .i64 0, .bool false]) w := run_build w 33 _ _ (by kernel_rfl)
@[go_sem] theorem build_lin2 (x : Int) (A : Option Addr) (n c : Nat) (w : World) : (Instr.build 36 #[(0, .int .i64 x), (1, .slice A n c)]).run Tryz.prog w = .ok (.agg #[.int .i64 x, .slice A n c]) w := run_build w 36 _ _ (by kernel_rfl)
@[go_sem] theorem build_lin1 (A : Option Addr) (n c : Nat) (w : World) : (Instr.build 36 #[(1, .slice A n c)]).run Tryz.prog w = .ok (.agg #[.int .i64 0, .slice A n c]) w := run_build w 36 _ _ (by kernel_rfl)
@[go_sem] theorem build_dia (a b c : Int) (w : World) : (Instr.build 31 #[(0, .int .i64 a), (1, .int .i64 b), (2, .int .i64 c)]).run Tryz.prog w = .ok (.agg #[.int .i64 a, .int .i64 b, .int .i64 c]) w := run_build w 31 _ _ (by kernel_rfl)
theorem E_str : ElemOf Tryz.prog 53 9 1 16 := ElemOf.mk (z := .string ByteArray.empty) Tryz.underlying53 (by kernel_rfl) rfl (by decide)
end Go.Proofs.YtdgejeiiiholnaaGreatDoor
