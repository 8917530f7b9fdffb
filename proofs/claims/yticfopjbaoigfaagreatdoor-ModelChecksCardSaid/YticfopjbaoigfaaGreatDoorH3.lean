/- The contracts of Unit and CheckSpread, of the program and of the reference. No conditions but that the spread can be read. -/
import Derived.Test.YticfopjbaoigfaaGreatDoorH1
set_option linter.unusedSimpArgs false
set_option linter.unusedVariables false
namespace Go.Proofs.YticfopjbaoigfaaGreatDoor
open Go.RowKit

theorem unitS_bad {n : Int} (h : n < 0 ∨ 12 < n) : unitS n = (0, 2) := by unfold unitS; rw [if_pos h]
theorem unitS_ok {n : Nat} (h : n ≤ 12) : unitS (n : Int) = (unitV n, 0) := by unfold unitS; rw [if_neg (by omega), Int.toNat_natCast]
theorem unitV_succ (n : Nat) : unitV (n + 1) = unitV n * 16 := by unfold unitV; rw [Int.pow_succ]
theorem checkP_bad {s : Spr} (h : s.balls < 0 ∨ 12 < s.balls) : checkP s = 2 := by unfold checkP; rw [if_pos h]
def inU (u x : Int) : Bool := decide (0 ≤ x) && decide (x ≤ u)
theorem checkP_eq {n : Nat} {ws : List Int} (h : n ≤ 12) : checkP ⟨(n : Int), ws⟩ = if ws.length = 0 then 6 else if 7 * (n : Int) + 1 < (ws.length : Int) then 9 else if ws.all (inU (unitV n)) = false then 2 else if ws.getLast? = some 0 then 4 else if sumI ws = unitV n then 0 else 12 := by
  unfold checkP
  rw [if_neg (by simp only; omega)]
  simp only [Int.toNat_natCast]
  rfl
def sprV (s : Spr) (v : Value) : Value := .agg #[.int .i64 s.balls, v]
theorem all_no {l : List Int} {p : Int → Bool} {k : Nat} (hk : k < l.length) (h : p l[k] = false) : l.all p = false := by
  rw [Bool.eq_false_iff]; intro h2
  have := List.all_eq_true.1 h2 _ (List.getElem_mem hk)
  rw [h] at this; cases this
theorem all_take {l : List Int} {p : Int → Bool} {k : Nat} (hk : k < l.length) (h : (l.take k).all p = true) (hx : p l[k] = true) : (l.take (k + 1)).all p = true := by
  rw [List.take_succ_eq_append_getElem hk, List.all_append, h]; simp [hx]
end Go.Proofs.YticfopjbaoigfaaGreatDoor
