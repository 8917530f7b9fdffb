/- Words for rules in memory; the contracts of between, in and inRange. No conditions but that the rules can be read. -/
import Derived.Test.YtfljohhocgaheaaDoorP20
import Derived.Test.YtfljohhocgaheaaDoorT2
import Derived.Test.YtfljohhocgaheaaDoorB
set_option linter.unusedSimpArgs false
set_option linter.unusedVariables false
namespace Go.Proofs.YtfljohhocgaheaaDoor
open Go.RowKit

def elPha (_ : World) (_ : Nat → Prop) (cs : List Value) (p : Pha) : Prop := cs = [.int .i64 p.fr, .int .i64 p.til, .int .i64 p.out]
theorem elPha_good : Good elPha := ⟨fun h _ _ => h⟩
def rulCells (r : Rul) (pv : Value) : Array Value := #[.string (S r.name), .int .i64 r.side, .int .i64 r.inns, .int .i64 r.overs, .int .i64 r.balls, .int .i64 r.quota, .int .i64 r.wide, .int .i64 r.noball, .bool r.free, .int .i64 r.newball, .int .i64 r.follow, .int .i64 r.reviews, .int .i64 r.outside, pv]
def rulV (r : Rul) (pv : Value) : Value := .agg (rulCells r pv)

theorem rul_between (n lo hi : Int) (w : World) : Calls Tryd.prog 84 #[.int .i64 n, .int .i64 lo, .int .i64 hi] w fun e w' => e = .returned (.bool (inB n lo hi)) ∧ w = w' := by
  by_cases h : lo ≤ n
  · have e1 : decide (lo ≤ n) = true := decide_eq_true h
    go_enter Tryd.func84, Tryd.ntmps84
    go_wp2
    go_ret
    exact ⟨ret_b (by unfold inB; rw [e1]; simp), rfl⟩
  · have e1 : decide (lo ≤ n) = false := decide_eq_false h
    go_enter Tryd.func84, Tryd.ntmps84
    go_wp2
    go_ret
    exact ⟨ret_b (by unfold inB; rw [e1]; simp), rfl⟩
theorem ref_in (n lo hi : Int) (w : World) : Calls Tryd.prog 74 #[.int .i64 n, .int .i64 lo, .int .i64 hi] w fun e w' => e = .returned (.bool (inB n lo hi)) ∧ w = w' := by
  by_cases h : lo ≤ n
  · have e1 : decide (lo ≤ n) = true := decide_eq_true h
    go_enter Tryd.func74, Tryd.ntmps74
    go_wp2
    go_ret
    exact ⟨ret_b (by unfold inB; rw [e1]; simp), rfl⟩
  · have e1 : decide (lo ≤ n) = false := decide_eq_false h
    go_enter Tryd.func74, Tryd.ntmps74
    go_wp2
    go_ret
    exact ⟨ret_b (by unfold inB; rw [e1]; simp), rfl⟩
set_option maxRecDepth 100000 in
set_option maxHeartbeats 2000000 in
theorem rul_inRange (r : Rul) (pv : Value) (w : World) : Calls Tryd.prog 71 #[rulV r pv] w fun e w' => e = .returned (.bool (inRangeS r)) ∧ Below w.heap.size w w' := by
  obtain ⟨z, hz⟩ : ∃ z, z = inRangeS r := ⟨_, rfl⟩
  rw [← hz]
  unfold inRangeS at hz
  have HZ := Lib.hid hz
  clear hz
  unfold rulV rulCells
  go_enter Tryd.func71, Tryd.ntmps71
  go_wp2_with (go_at_call 84; refine (rul_between _ _ _ _).mono ?_; rintro e w2 ⟨rfl, rfl⟩)
  all_goals go_ret
  all_goals refine ⟨ret_b ?_, Below.alloc (Below.refl _ _) (Nat.le_refl _) _⟩
  all_goals (rw [HZ.out]; simp [*])
end Go.Proofs.YtfljohhocgaheaaDoor
