/- The contracts of text.Quote and text.Write. Conditions: bounds on sizes, far beyond what the laws hand in. -/
import Derived.Test.YtakgmdagjaenpaaDoorT2
import Derived.Test.YtakgmdagjaenpaaDoorT5
import Derived.Test.YtakgmdagjaenpaaDoorG
import Derived.Test.YtakgmdagjaenpaaDoorB
set_option linter.unusedSimpArgs false
set_option linter.unusedVariables false
namespace Go.Proofs.YtakgmdagjaenpaaDoor
open Go.RowKit


theorem data_app (a b : ByteArray) : (a ++ b).data.toList = a.data.toList ++ b.data.toList := by simp
set_option maxRecDepth 100000 in
set_option maxHeartbeats 400000 in
theorem text_Quote (s : ByteArray) (w : World) (hg : Glob w) (hs : s.size ≤ 1000000000) :
    Calls Tryd.prog 7 #[.string s] w fun e w' => e = .returned (.string (S (quoteS s.data.toList))) ∧ Below w.heap.size w w' := by
  have hc : Lib.countB s ⟨#[34]⟩ ≤ s.size := Lib.countB_le ⟨#[34]⟩ (Nat.le_refl 1) _ s (Nat.le_refl _)
  have h2 : (⟨#[34, 34]⟩ : ByteArray).size = 2 := rfl
  have hcr := Tryd.strings_ReplaceAll_shaped s ⟨#[34]⟩ ⟨#[34, 34]⟩ w hg.shaped (by omega) (Nat.le_refl 1) (by rw [h2]; omega)
  rw [show (⟨#[34]⟩ : ByteArray).data.toList = [34] from rfl, show (⟨#[34, 34]⟩ : ByteArray).data.toList = [34, 34] from rfl, replaceAll_subst1 34 [34, 34] _ (by decide)] at hcr
  have hle := subst1_le s.data.toList
  have hsl : s.data.toList.length = s.size := by simp
  obtain ⟨X, hX⟩ : ∃ X : ByteArray, X = ⟨(subst1 34 [34, 34] s.data.toList).toArray⟩ := ⟨_, rfl⟩
  rw [← hX] at hcr
  have hXd : X.data.toList = subst1 34 [34, 34] s.data.toList := by rw [hX]
  have hXl : X.size = X.data.toList.length := by simp
  rw [hXd] at hXl
  have hXs : X.size ≤ 2000000000 := by omega
  clear hXl
  have HX := Lib.hid hXd
  have HCR := Lib.hid hcr
  clear hcr h2 hc hle hsl hX hXd
  have h1 : (⟨#[34]⟩ : ByteArray).size = 1 := rfl
  have a1 := fun W => run_string_add_sum (P := Tryd.prog) W ⟨#[34]⟩ X (by rw [h1]; omega)
  have a2 := fun W => run_string_add_sum (P := Tryd.prog) W (⟨#[34]⟩ ++ X) ⟨#[34]⟩ (by rw [ByteArray.size_append, h1]; omega)
  clear h1
  go_enter Tryd.func7, Tryd.ntmps7
  go_wp2_with (go_at_call 15; refine HCR.out.mono ?_; rintro e w1 ⟨rfl, hb1⟩)
  go_ret
  refine ⟨ret_str ?_, hb1⟩
  rw [data_app, data_app, HX.out]
  rfl

theorem byteCells_app (a b : List UInt8) : Lib.byteCells (a ++ b) = Lib.byteCells a ++ Lib.byteCells b := by simp [Lib.byteCells]
theorem bld_str (B b : Nat) (cur : List UInt8) (s : ByteArray) (w : World) (h : Lib.IsBuilder 72 5 B b (Lib.byteCells cur) w) (hlen : cur.length ≤ 1000000000) (hs : s.size ≤ 10000000000) (hBw : B ≤ w.heap.size) :
    Calls Tryd.prog 37 #[.pointer (some ⟨b, 0, none⟩), .string s] w fun e w' => e = .returned (.tuple #[.int .i64 s.size, .nilIface]) ∧ Lib.IsBuilder 72 5 B b (Lib.byteCells (cur ++ s.data.toList)) w' ∧ Below B w w' ∧ Lib.OthersKept 5 (some b) w w' := by
  refine (bld_WriteString B b (Lib.byteCells cur) s w h (by rw [Lib.byteCells_length]; omega) hBw).mono ?_
  rintro e w' ⟨he, h1, h2, h3⟩
  exact ⟨he, .inr (by rw [byteCells_app]; exact h1), h2, h3⟩
/-- A block of the call's own, behind writes into the builder. -/
theorem kept_cell {e : TypeId} {b g : Nat} {w w' : World} {cs : Array Value} {t : TypeId} (h : Lib.OthersKept e (some b) w w') (hg : Blk w g t cs) (hne : g ≠ b) (ht : t ≠ e) : Blk w' g t cs :=
  h g _ hg (by intro e; injection e with e; exact hne e) (by intro c fz hc; injection hc with _ h2; exact ht h2)
theorem lineW_drop {fs : List Fld} {m : Nat} (h : m < fs.length) (b : Bool) : lineW (fs.drop m) b = (if b then [] else [32]) ++ fieldW fs[m] ++ lineW (fs.drop (m + 1)) false := by
  rw [List.drop_eq_getElem_cons h, lineW]
/-- One field more. -/
theorem write_step {cur rest q : List UInt8} {fs : List Fld} {m : Nat} (h : m < fs.length) (hq : cur ++ (lineW (fs.drop m) (decide (m = 0)) ++ rest) = q) :
    (cur ++ (if m = 0 then [] else [32]) ++ fieldW fs[m]) ++ (lineW (fs.drop (m + 1)) (decide (m + 1 = 0)) ++ rest) = q := by
  rw [lineW_drop h] at hq
  rw [← hq]
  have : decide (m + 1 = 0) = false := by simp
  rw [this]
  by_cases h0 : m = 0 <;> simp [h0]
theorem write_len {cur rest q : List UInt8} {fs : List Fld} {m : Nat} (h : m < fs.length) (hq : cur ++ (lineW (fs.drop m) (decide (m = 0)) ++ rest) = q) :
    cur.length ≤ q.length ∧ (cur ++ (if m = 0 then [] else [32])).length ≤ q.length ∧ fs[m].text.length ≤ q.length := by
  have h1 := write_step h hq
  have h2 := fieldW_len fs[m]
  have h3 := congrArg List.length h1
  simp only [List.length_append] at h3 ⊢
  omega

/-- The state inside the loop over a line's fields: the builder in block B, the copies of the line and of the field in their blocks. -/
structure WrSt (B : Nat) (w : World) (go gi : Nat) (oc ic : Array Value) (cu : List UInt8) (W : World) : Prop where
  bld : Lib.IsBuilder 72 5 B B (Lib.byteCells cu) W
  bel : Below B w W
  bo : Blk W go 30 oc
  bi : Blk W gi 32 ic
  no : go ≠ B
  ni : gi ≠ B
section
variable {B : Nat} {w : World} {go gi : Nat} {oc ic : Array Value} {cu cu' : List UInt8} {W W' : World}
theorem WrSt.below (h : WrSt B w go gi oc ic cu W) (hB : B ≤ W.heap.size) (hb : Below W.heap.size W W') : WrSt B w go gi oc ic cu W' :=
  ⟨builder_keep h.bld hb, h.bel.trans (hb.mono hB), h.bo.below hb h.bo.lt, h.bi.below hb h.bi.lt, h.no, h.ni⟩
theorem WrSt.write (h : WrSt B w go gi oc ic cu W) (h1 : Lib.IsBuilder 72 5 B B (Lib.byteCells cu') W') (h2 : Below B W W') (h3 : Lib.OthersKept 5 (some B) W W') : WrSt B w go gi oc ic cu' W' :=
  ⟨h1, h.bel.trans h2, kept_cell h3 h.bo h.no (by decide), kept_cell h3 h.bi h.ni (by decide), h.no, h.ni⟩
end

end Go.Proofs.YtakgmdagjaenpaaDoor
