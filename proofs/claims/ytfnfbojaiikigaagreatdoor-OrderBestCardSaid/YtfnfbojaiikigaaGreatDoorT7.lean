/- The contracts of text.Quote and text.Write. Conditions: bounds on sizes, far beyond what the laws hand in. -/
import Derived.Test.YtfnfbojaiikigaaGreatDoorT1
import Derived.Test.YtfnfbojaiikigaaGreatDoorT5
import Derived.Test.YtfnfbojaiikigaaGreatDoorG
import Derived.Test.YtfnfbojaiikigaaGreatDoorR
set_option linter.unusedSimpArgs false
set_option linter.unusedVariables false
namespace Go.Proofs.YtfnfbojaiikigaaGreatDoor
open Go.RowKit


theorem data_app (a b : ByteArray) : (a ++ b).data.toList = a.data.toList ++ b.data.toList := by simp
theorem byteCells_app (a b : List UInt8) : Lib.byteCells (a ++ b) = Lib.byteCells a ++ Lib.byteCells b := by simp [Lib.byteCells]
theorem bld_str (B b : Nat) (cur : List UInt8) (s : ByteArray) (w : World) (h : Lib.IsBuilder 173 5 B b (Lib.byteCells cur) w) (hlen : cur.length ≤ 1000000000) (hs : s.size ≤ 10000000000) (hBw : B ≤ w.heap.size) :
    Calls Tryz.prog 153 #[.pointer (some ⟨b, 0, none⟩), .string s] w fun e w' => e = .returned (.tuple #[.int .i64 s.size, .nilIface]) ∧ Lib.IsBuilder 173 5 B b (Lib.byteCells (cur ++ s.data.toList)) w' ∧ Below B w w' ∧ Lib.OthersKept 5 (some b) w w' := by
  refine (bld_WriteString B b (Lib.byteCells cur) s w h (by rw [Lib.byteCells_length]; omega) hBw).mono ?_
  rintro e w' ⟨he, h1, h2, h3⟩
  exact ⟨he, .inr (by rw [byteCells_app]; exact h1), h2, h3⟩
/-- A block of the call's own, behind writes into the builder. -/
theorem kept_cell {e : TypeId} {b g : Nat} {w w' : World} {cs : Array Value} {t : TypeId} (h : Lib.OthersKept e (some b) w w') (hg : Blk w g t cs) (hne : g ≠ b) (ht : t ≠ e) : Blk w' g t cs :=
  h g _ hg (by intro e; injection e with e; exact hne e) (by intro c fz hc; injection hc with _ h2; exact ht h2)
theorem lineW_drop {fs : List Fld} {m : Nat} (h : m < fs.length) (b : Bool) : lineW (fs.drop m) b = (if b then [] else [32]) ++ fieldW fs[m] ++ lineW (fs.drop (m + 1)) false := by
  rw [List.drop_eq_getElem_cons h, lineW]
/-- One field more. -/
theorem write_step {cur rest q : List UInt8} {fs : List Fld} {m : Nat} (h : m < fs.length) (hq : cur ++ (lineW (fs.drop m) (decide (m = 0)) ++ rest) = q) :
    (cur ++ (if m = 0 then [] else [32]) ++ fieldW fs[m]) ++ (lineW (fs.drop (m + 1)) (decide (m + 1 = 0)) ++ rest) = q := by
  rw [lineW_drop h] at hq
  rw [← hq]
  have : decide (m + 1 = 0) = false := by simp
  rw [this]
  by_cases h0 : m = 0 <;> simp [h0]
theorem write_len {cur rest q : List UInt8} {fs : List Fld} {m : Nat} (h : m < fs.length) (hq : cur ++ (lineW (fs.drop m) (decide (m = 0)) ++ rest) = q) :
    cur.length ≤ q.length ∧ (cur ++ (if m = 0 then [] else [32])).length ≤ q.length ∧ fs[m].text.length ≤ q.length := by
  have h1 := write_step h hq
  have h2 := fieldW_len fs[m]
  have h3 := congrArg List.length h1
  simp only [List.length_append] at h3 ⊢
  omega

section
variable {B : Nat} {w : World} {go gi : Nat} {oc ic : Array Value} {cu cu' : List UInt8} {W W' : World}
end

end Go.Proofs.YtfnfbojaiikigaaGreatDoor
