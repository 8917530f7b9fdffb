/- What lies while suspensions are reckoned: the row of the marks. Suspended, out of Suspensions' contract. -/
import Derived.Test.YtajcnjehjkpieaaE8
import Derived.Test.YtajcnjehjkpieaaE9
import Derived.Deep.OwnRows
set_option linter.unusedSimpArgs false
set_option linter.unusedVariables false
namespace Go.Proofs.Ytajcnjehjkpieaa
open Go.RowKit

def boolsA (m : List Bool) : Array Value := (m.map Value.bool).toArray
theorem boolsA_get {m : List Bool} {k : Nat} (h : k < m.length) : (boolsA m)[k]? = some (.bool (m.getD k false)) := by
  simp [boolsA, h, List.getD_eq_getElem?_getD]
theorem boolsA_set (m : List Bool) (k : Nat) (b : Bool) : (boolsA m).setIfInBounds k (.bool b) = boolsA (m.set k b) := by
  unfold boolsA
  simp
theorem boolsA_made (n : Nat) : madeCells #[.bool false] n = boolsA (List.replicate n false) := by
  unfold boolsA madeCells
  apply Array.ext_getElem?
  intro i
  by_cases h : i < n
  · simp [h, Nat.mod_one]
  · simp [h]
theorem make_bools (n : Nat) (hn : n ≤ 100000) (W : World) : (Instr.makeSlice 60 (.int .i64 (n : Int)) (.int .i64 (n : Int))).run Try.prog W = .ok (.slice (some ⟨W.heap.size, 0, none⟩) n n) (W.alloc (.cells (madeCells #[.bool false] n) 4)) :=
  run_make_row' (P := Try.prog) 60 4 (.bool false) 1 Try.underlying60 (by kernel_rfl) rfl .i64 .i64 n (by omega) (by omega) W
/-- The row of the marks. -/
structure SU (w W : World) (g : Nat) (m : List Bool) : Prop where
  bel : Below w.heap.size w W
  low : w.heap.size ≤ g
  row : Blk W g 4 (boolsA m)
theorem SU.new (w W : World) (n : Nat) (hb : Below w.heap.size w W) : SU w (W.alloc (.cells (madeCells #[.bool false] n) 4)) W.heap.size (List.replicate n false) :=
  ⟨hb.alloc hb.size _, hb.size, by rw [boolsA_made]; exact Blk.new _ _ _⟩
theorem SU.step {w W W' : World} {g : Nat} {m : List Bool} (h : SU w W g m) (hb : Below W.heap.size W W') : SU w W' g m := ⟨h.bel.trans (hb.mono h.bel.size), h.low, h.row.below hb h.row.lt⟩
theorem SU.put {w W : World} {g : Nat} {m : List Bool} (h : SU w W g m) (k : Nat) (b : Bool) : SU w (W.setCell ⟨g, k, none⟩ (.bool b)) g (m.set k b) :=
  ⟨h.bel.setCell h.low _, h.low, by rw [← boolsA_set]; exact h.row.set_ k _⟩
theorem SU.at {w W : World} {g : Nat} {m : List Bool} (h : SU w W g m) {k : Nat} (hk : k < m.length) : W.cell? ⟨g, k, none⟩ = some (.bool (m.getD k false)) := (h.row.cell k).trans (boolsA_get hk)
/-- What Suspensions hands on. -/
def SusPost (w : World) (r : List Int × Int) (e : Ending) (w' : World) : Prop := ∃ A n c, e = .returned (.tuple #[.slice A n c, .int .i64 r.2]) ∧ Sl 1 elInt w' (fun b => w.heap.size ≤ b ∧ b < w'.heap.size) (.slice A n c) r.1 ∧ Below w.heap.size w w'
set_option maxRecDepth 100000 in
theorem con_Suspended (r : List Int × Int) (lv mv : Value) (p : List UInt8) (d : Int) (w : World) (hl : ∃ A n c, lv = .slice A n c) (hm : ∃ A n c, mv = .slice A n c)
    (hS : Calls Try.prog 6 #[lv, .string (S p), mv] w (SusPost w r)) :
    Calls Try.prog 7 #[lv, .string (S p), mv, .int .i64 d] w fun e w' => e = .returned (.tuple #[.bool (decide (d ∈ r.1)), .int .i64 r.2]) ∧ Below w.heap.size w w' := by
  obtain ⟨l, u⟩ := r
  obtain ⟨A1, n1, c1, rfl⟩ := hl
  obtain ⟨A2, n2, c2, rfl⟩ := hm
  unfold SusPost at hS
  dsimp only at hS ⊢
  have HS := Lib.hid hS
  have tok0 : True := trivial
  clear hS
  go_enter Try.func7, Try.ntmps7
  go_wp2_with (first
    | (clear tok0; go_at_call 6; refine HS.out.mono ?_; rintro e w2 ⟨A3, n3, c3, rfl, hs, hb⟩; have HB := Lib.hid hb; have HSL := Lib.hid hs; clear hs hb; have tok1 : True := trivial)
    | (clear tok1; go_at_call 8; refine (i64_Contains l _ d _ _ HSL.out).mono ?_; rintro e w3 ⟨rfl, rfl⟩; have tok2 : True := trivial))
  go_ret2
  exact ⟨rfl, HB.out⟩
end Go.Proofs.Ytajcnjehjkpieaa
