/- The contracts of Unit and CheckSpread, of the program and of the reference. No conditions but that the spread can be read. -/
import Derived.Test.YtfnfbojaiikigaaGreatDoorH1
set_option linter.unusedSimpArgs false
set_option linter.unusedVariables false
namespace Go.Proofs.YtfnfbojaiikigaaGreatDoor
open Go.RowKit

theorem unitS_bad {n : Int} (h : n < 0 ∨ 12 < n) : unitS n = (0, 2) := by unfold unitS; rw [if_pos h]
theorem unitS_ok {n : Nat} (h : n ≤ 12) : unitS (n : Int) = (unitV n, 0) := by unfold unitS; rw [if_neg (by omega), Int.toNat_natCast]
theorem unitV_succ (n : Nat) : unitV (n + 1) = unitV n * 16 := by unfold unitV; rw [Int.pow_succ]
theorem checkP_bad {s : Spr} (h : s.balls < 0 ∨ 12 < s.balls) : checkP s = 2 := by unfold checkP; rw [if_pos h]
def inU (u x : Int) : Bool := decide (0 ≤ x) && decide (x ≤ u)
theorem checkP_eq {n : Nat} {ws : List Int} (h : n ≤ 12) : checkP ⟨(n : Int), ws⟩ = if ws.length = 0 then 6 else if 7 * (n : Int) + 1 < (ws.length : Int) then 9 else if ws.all (inU (unitV n)) = false then 2 else if ws.getLast? = some 0 then 4 else if sumI ws = unitV n then 0 else 12 := by
  unfold checkP
  rw [if_neg (by simp only; omega)]
  simp only [Int.toNat_natCast]
  rfl
def sprV (s : Spr) (v : Value) : Value := .agg #[.int .i64 s.balls, v]
theorem all_no {l : List Int} {p : Int → Bool} {k : Nat} (hk : k < l.length) (h : p l[k] = false) : l.all p = false := by
  rw [Bool.eq_false_iff]; intro h2
  have := List.all_eq_true.1 h2 _ (List.getElem_mem hk)
  rw [h] at this; cases this
theorem all_take {l : List Int} {p : Int → Bool} {k : Nat} (hk : k < l.length) (h : (l.take k).all p = true) (hx : p l[k] = true) : (l.take (k + 1)).all p = true := by
  rw [List.take_succ_eq_append_getElem hk, List.all_append, h]; simp [hx]
set_option maxRecDepth 100000 in
set_option maxHeartbeats 2000000 in
theorem ch_Unit (n : Int) (w : World) : Calls Tryz.prog 44 #[.int .i64 n] w fun e w' => e = .returned (.tuple #[.int .i64 (unitS n).1, .int .i64 (unitS n).2]) ∧ w = w' := by
  by_cases h1 : n < 0
  · rw [unitS_bad (.inl h1)]
    go_enter Tryz.func44, Tryz.ntmps44
    go_wp2
    go_ret2
    exact ⟨rfl, rfl⟩
  · by_cases h2 : 12 < n
    · rw [unitS_bad (.inr h2)]
      go_enter Tryz.func44, Tryz.ntmps44
      go_wp2
      go_ret2
      exact ⟨rfl, rfl⟩
    · obtain ⟨k, rfl⟩ : ∃ k : Nat, n = (k : Int) := ⟨n.toNat, by omega⟩
      rw [unitS_ok (by omega)]
      have hk : k = 0 ∨ k = 1 ∨ k = 2 ∨ k = 3 ∨ k = 4 ∨ k = 5 ∨ k = 6 ∨ k = 7 ∨ k = 8 ∨ k = 9 ∨ k = 10 ∨ k = 11 ∨ k = 12 := by omega
      clear h1 h2
      rcases hk with rfl | rfl | rfl | rfl | rfl | rfl | rfl | rfl | rfl | rfl | rfl | rfl | rfl
      all_goals
        go_enter Tryz.func44, Tryz.ntmps44
        go_wp2
        go_ret2
        exact ⟨rfl, rfl⟩
set_option maxRecDepth 100000 in
set_option maxHeartbeats 2000000 in
theorem ref_Unit (n : Int) (w : World) : Calls Tryz.prog 107 #[.int .i64 n] w fun e w' => e = .returned (.tuple #[.int .i64 (unitS n).1, .int .i64 (unitS n).2]) ∧ w = w' := by
  by_cases h1 : n < 0
  · rw [unitS_bad (.inl h1)]
    go_enter Tryz.func107, Tryz.ntmps107
    go_wp2
    go_ret2
    exact ⟨rfl, rfl⟩
  · by_cases h2 : 12 < n
    · rw [unitS_bad (.inr h2)]
      go_enter Tryz.func107, Tryz.ntmps107
      go_wp2
      go_ret2
      exact ⟨rfl, rfl⟩
    · obtain ⟨m, rfl⟩ : ∃ k : Nat, n = (k : Int) := ⟨n.toNat, by omega⟩
      rw [unitS_ok (by omega)]
      go_enter Tryz.func107, Tryz.ntmps107
      go_wp2
      go_loop [4, 12] (fun uv i => ∃ (k : Nat) (u : Int), k ≤ m ∧ i = .int .i64 k ∧ uv = .int .i64 u ∧ Hid (u = unitV k)) (fun _ i => m - (intOf i).toNat)
      case atStart => exact ⟨0, 1, Nat.zero_le _, rfl, rfl, Lib.hid rfl⟩
      case round =>
        obtain ⟨k, u, hk, rfl, rfl, hu⟩ := hrel
        have hb := unitV_le (n := k) (by omega)
        rw [← hu.out] at hb
        obtain ⟨hb1, hb2⟩ := hb
        by_cases hlt : k < m
        · have HS := Lib.hid (show u * 16 = unitV (k + 1) by rw [unitV_succ, hu.out])
          clear hu
          go_wp2
          go_round
          case rel => exact ⟨k + 1, u * 16, by omega, by go_num, rfl, HS⟩
          case measure => simp [intOf]; omega
        · obtain rfl : k = m := by omega
          go_wp2
          go_ret2
          exact ⟨by rw [hu.out] <;> rfl, rfl⟩

end Go.Proofs.YtfnfbojaiikigaaGreatDoor
