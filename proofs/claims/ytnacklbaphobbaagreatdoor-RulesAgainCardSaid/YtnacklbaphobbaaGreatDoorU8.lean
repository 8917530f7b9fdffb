/- The contracts of Allowed and Most, of the program and of the reference. Conditions: the over's number is small. -/
import Derived.Test.YtnacklbaphobbaaGreatDoorU3
import Derived.Test.YtnacklbaphobbaaGreatDoorU4
set_option linter.unusedSimpArgs false
set_option linter.unusedVariables false
namespace Go.Proofs.YtnacklbaphobbaaGreatDoor
open Go.RowKit

def allB (over : Int) (p : Pha) : Bool := decide (p.fr ≤ over + 1) && decide (over + 1 ≤ p.til)
def allowedF (over d : Int) : List Pha → Int
  | [] => d
  | p :: ps => if allB over p = true then p.out else allowedF over d ps
def allowedS (r : Rul) (over : Int) : Int := allowedF over r.outside r.power
def mostS (r : Rul) : Int := if checkR r ≠ 0 then 0 else r.overs * r.balls
theorem rng_most {r : Rul} (h : checkR r = 0) : 0 ≤ r.overs ∧ r.overs ≤ 90 ∧ 4 ≤ r.balls ∧ r.balls ≤ 8 ∧ IntKind.i64.wrap (r.overs * r.balls) = r.overs * r.balls := by
  have h2 : inRangeS r = true := by
    cases hx : inRangeS r
    · unfold checkR headErr at h
      cases hn : nameS r.name
      · simp [hn] at h
      · simp [hn, hx] at h
    · rfl
  obtain ⟨_, _, ⟨a, b⟩, ⟨c, d⟩, _⟩ := (inRangeS_iff r).1 h2
  have e1 := Int.mul_nonneg a (show (0 : Int) ≤ r.balls by omega)
  have e2 := Int.mul_le_mul b d (show (0 : Int) ≤ r.balls by omega) (show (0 : Int) ≤ 90 by omega)
  exact ⟨a, b, c, d, IntWalk.i64_in _ (by omega)⟩

set_option maxRecDepth 100000 in
set_option maxHeartbeats 2000000 in
theorem rul_Allowed (r : Rul) (pv : Value) (over : Int) (w : World) (h : Sl 3 elPha w (· < w.heap.size) pv r.power) (ho0 : -4294967296 ≤ over) (ho1 : over ≤ 4294967296) : Calls Tryz.prog 14 #[rulV r pv, .int .i64 over] w fun e w' => e = .returned (.int .i64 (allowedS r over)) ∧ Below w.heap.size w w' := by
  obtain ⟨z, hz⟩ : ∃ z, z = allowedS r over := ⟨_, rfl⟩
  rw [← hz]
  unfold allowedS at hz
  obtain ⟨A, c, rfl, hc, hc2⟩ := h.shape
  have hA := RulAt.new h
  have hb0 : Below w.heap.size w (w.alloc (.cells (rulCells r (.slice A r.power.length c)) 24)) := Below.alloc (Below.refl _ _) (Nat.le_refl _) _
  unfold rulV
  unfold rulCells at *
  have HZ := Lib.hid hz
  have HA := Lib.hid hA
  have HB0 := Lib.hid hb0
  clear hz hA h hb0
  go_enter Tryz.func14, Tryz.ntmps14
  go_wp2
  go_loopw [10] (fun i wr => ∃ k : Nat, k ≤ r.power.length ∧ i = .int .i64 k ∧ Below w.heap.size w wr ∧ RulAt wr w.heap.size r (.slice A r.power.length c) ∧ Hid (z = allowedF over r.outside (r.power.drop k)))
    (fun i _ => r.power.length - (intOf i).toNat)
  case atStart => exact ⟨0, Nat.zero_le _, rfl, HB0.out, HA.out, HZ.out⟩
  case round =>
    obtain ⟨k, hk, rfl, hb, ha, hzz⟩ := hrel
    have HB := Lib.hid hb
    have HAA := Lib.hid ha
    by_cases hlt : k < r.power.length
    · obtain ⟨b, o, rfl, hbl, y0, y1, y2⟩ := pha_at ha.sl hlt
      have hzz' := hzz.out
      rw [List.drop_eq_getElem_cons hlt, allowedF] at hzz'
      obtain ⟨⟨pf, pt, po⟩, hp⟩ : ∃ p, p = r.power[k] := ⟨_, rfl⟩
      rw [← hp] at y0 y1 y2 hzz'
      dsimp only at y0 y1 y2
      unfold allB at hzz'
      dsimp only at hzz'
      by_cases h1 : pf ≤ over + 1
      · have g1 : decide (pf ≤ over + 1) = true := decide_eq_true h1
        by_cases h2 : over + 1 ≤ pt
        · have g2 : decide (over + 1 ≤ pt) = true := decide_eq_true h2
          rw [g1, g2, if_pos (by rfl)] at hzz'
          have HZZ := Lib.hid hzz'
          clear hb ha hzz hzz' hp
          go_wp2
          go_ret
          exact ⟨ret_i HZZ.out.symm, Below.alloc HB.out HB.out.size _⟩
        · have g2 : decide (over + 1 ≤ pt) = false := decide_eq_false h2
          rw [g1, g2, if_neg (by simp)] at hzz'
          have HZZ := Lib.hid hzz'
          clear hb ha hzz hzz' hp
          go_wp2
          go_roundw
          case rel => exact ⟨k + 1, by omega, by go_num, Below.alloc HB.out HB.out.size _, HAA.out.below (Below.alloc (Below.refl _ _) (Nat.le_refl _) _), HZZ.out⟩
          case measure => simp [intOf]; omega
      · have g1 : decide (pf ≤ over + 1) = false := decide_eq_false h1
        rw [g1, if_neg (by simp)] at hzz'
        have HZZ := Lib.hid hzz'
        clear hb ha hzz hzz' hp
        go_wp2
        go_roundw
        case rel => exact ⟨k + 1, by omega, by go_num, Below.alloc HB.out HB.out.size _, HAA.out.below (Below.alloc (Below.refl _ _) (Nat.le_refl _) _), HZZ.out⟩
        case measure => simp [intOf]; omega
    · have hzz' := hzz.out
      rw [List.drop_of_length_le (by omega), allowedF] at hzz'
      have HZZ := Lib.hid hzz'
      have x12 : wr.cell? ⟨w.heap.size, 12, none⟩ = some (.int .i64 r.outside) := ha.blk.cell 12
      clear hb ha hzz hzz'
      go_wp2
      go_ret
      exact ⟨ret_i HZZ.out.symm, HB.out⟩
set_option maxRecDepth 100000 in
set_option maxHeartbeats 2000000 in
theorem rul_Most (r : Rul) (pv : Value) (w : World) (h : Sl 3 elPha w (· < w.heap.size) pv r.power) (hn : r.name.length ≤ 1000000000) : Calls Tryz.prog 16 #[rulV r pv] w fun e w' => e = .returned (.int .i64 (mostS r)) ∧ Below w.heap.size w w' := by
  obtain ⟨z, hz⟩ : ∃ z, z = mostS r := ⟨_, rfl⟩
  rw [← hz]
  unfold mostS at hz
  obtain ⟨A, c, rfl, hc, hc2⟩ := h.shape
  have hA := RulAt.new h
  have hb0 : Below w.heap.size w (w.alloc (.cells (rulCells r (.slice A r.power.length c)) 24)) := Below.alloc (Below.refl _ _) (Nat.le_refl _) _
  obtain ⟨W, hW⟩ : ∃ W, W = w.alloc (.cells (rulCells r (.slice A r.power.length c)) 24) := ⟨_, rfl⟩
  rw [← hW] at hA hb0
  have kc : Calls Tryz.prog 12 #[rulV r (.slice A r.power.length c)] W fun e w' => e = .returned (.int .i64 (checkR r)) ∧ Below w.heap.size w w' ∧ RulAt w' w.heap.size r (.slice A r.power.length c) := by
    refine (rul_Check r _ W hA.sl hn).mono ?_
    rintro e w' ⟨rfl, hb⟩
    exact ⟨rfl, hb0.trans (hb.mono hb0.size), hA.below hb⟩
  rw [hW] at kc
  by_cases hc0 : checkR r = 0
  · rw [if_neg (fun k => k hc0)] at hz
    rw [hc0] at kc
    obtain ⟨b1, b2, b3, b4, b5⟩ := rng_most hc0
    unfold rulV rulCells at kc
    have KC := Lib.hid kc
    have HZ := Lib.hid hz
    have B5 := Lib.hid b5
    clear kc hz hA h hb0 hc0 b5
    unfold rulV rulCells
    go_enter Tryz.func16, Tryz.ntmps16
    go_wp2_with (go_at_call 12; refine KC.out.mono ?_; rintro e w2 ⟨rfl, hb2, hr2⟩; have x3 : w2.cell? ⟨w.heap.size, 3, none⟩ = some (.int .i64 r.overs) := hr2.blk.cell 3; have x4 : w2.cell? ⟨w.heap.size, 4, none⟩ = some (.int .i64 r.balls) := hr2.blk.cell 4; have HB2 := Lib.hid hb2; clear hb2 hr2; have b5 := B5.out)
    go_ret
    exact ⟨ret_i HZ.out.symm, HB2.out⟩
  · rw [if_pos hc0] at hz
    obtain ⟨z9, hz9⟩ : ∃ z9, z9 = checkR r := ⟨_, rfl⟩
    rw [← hz9] at kc hc0
    have g1 : (z9 != 0) = true := by rw [bne_iff_ne]; exact hc0
    unfold rulV rulCells at kc
    have KC := Lib.hid kc
    have HZ := Lib.hid hz
    clear kc hz hA h hb0 hc0 hz9
    unfold rulV rulCells
    go_enter Tryz.func16, Tryz.ntmps16
    go_wp2_with (go_at_call 12; refine KC.out.mono ?_; rintro e w2 ⟨rfl, hb2, hr2⟩; have HB2 := Lib.hid hb2; clear hb2 hr2)
    go_ret
    exact ⟨ret_i HZ.out.symm, HB2.out⟩

set_option maxRecDepth 100000 in
set_option maxHeartbeats 2000000 in
theorem ref_RAllowed (r : Rul) (pv : Value) (over : Int) (w : World) (h : Sl 3 elPha w (· < w.heap.size) pv r.power) (ho0 : -4294967296 ≤ over) (ho1 : over ≤ 4294967296) : Calls Tryz.prog 15 #[rulV r pv, .int .i64 over] w fun e w' => e = .returned (.int .i64 (allowedS r over)) ∧ Below w.heap.size w w' := by
  obtain ⟨z, hz⟩ : ∃ z, z = allowedS r over := ⟨_, rfl⟩
  rw [← hz]
  unfold allowedS at hz
  obtain ⟨A, c, rfl, hc, hc2⟩ := h.shape
  have hA := RulAt.new h
  have hb0 : Below w.heap.size w (w.alloc (.cells (rulCells r (.slice A r.power.length c)) 24)) := Below.alloc (Below.refl _ _) (Nat.le_refl _) _
  unfold rulV
  unfold rulCells at *
  have HZ := Lib.hid hz
  have HA := Lib.hid hA
  have HB0 := Lib.hid hb0
  clear hz hA h hb0
  go_enter Tryz.func15, Tryz.ntmps15
  go_wp2
  go_loopw [10] (fun i wr => ∃ k : Nat, k ≤ r.power.length ∧ i = .int .i64 k ∧ Below w.heap.size w wr ∧ RulAt wr w.heap.size r (.slice A r.power.length c) ∧ Hid (z = allowedF over r.outside (r.power.drop k)))
    (fun i _ => r.power.length - (intOf i).toNat)
  case atStart => exact ⟨0, Nat.zero_le _, rfl, HB0.out, HA.out, HZ.out⟩
  case round =>
    obtain ⟨k, hk, rfl, hb, ha, hzz⟩ := hrel
    have HB := Lib.hid hb
    have HAA := Lib.hid ha
    by_cases hlt : k < r.power.length
    · obtain ⟨b, o, rfl, hbl, y0, y1, y2⟩ := pha_at ha.sl hlt
      have hzz' := hzz.out
      rw [List.drop_eq_getElem_cons hlt, allowedF] at hzz'
      obtain ⟨⟨pf, pt, po⟩, hp⟩ : ∃ p, p = r.power[k] := ⟨_, rfl⟩
      rw [← hp] at y0 y1 y2 hzz'
      dsimp only at y0 y1 y2
      unfold allB at hzz'
      dsimp only at hzz'
      by_cases h1 : pf ≤ over + 1
      · have g1 : decide (pf ≤ over + 1) = true := decide_eq_true h1
        by_cases h2 : over + 1 ≤ pt
        · have g2 : decide (over + 1 ≤ pt) = true := decide_eq_true h2
          rw [g1, g2, if_pos (by rfl)] at hzz'
          have HZZ := Lib.hid hzz'
          clear hb ha hzz hzz' hp
          go_wp2
          go_ret
          exact ⟨ret_i HZZ.out.symm, Below.alloc HB.out HB.out.size _⟩
        · have g2 : decide (over + 1 ≤ pt) = false := decide_eq_false h2
          rw [g1, g2, if_neg (by simp)] at hzz'
          have HZZ := Lib.hid hzz'
          clear hb ha hzz hzz' hp
          go_wp2
          go_roundw
          case rel => exact ⟨k + 1, by omega, by go_num, Below.alloc HB.out HB.out.size _, HAA.out.below (Below.alloc (Below.refl _ _) (Nat.le_refl _) _), HZZ.out⟩
          case measure => simp [intOf]; omega
      · have g1 : decide (pf ≤ over + 1) = false := decide_eq_false h1
        rw [g1, if_neg (by simp)] at hzz'
        have HZZ := Lib.hid hzz'
        clear hb ha hzz hzz' hp
        go_wp2
        go_roundw
        case rel => exact ⟨k + 1, by omega, by go_num, Below.alloc HB.out HB.out.size _, HAA.out.below (Below.alloc (Below.refl _ _) (Nat.le_refl _) _), HZZ.out⟩
        case measure => simp [intOf]; omega
    · have hzz' := hzz.out
      rw [List.drop_of_length_le (by omega), allowedF] at hzz'
      have HZZ := Lib.hid hzz'
      have x12 : wr.cell? ⟨w.heap.size, 12, none⟩ = some (.int .i64 r.outside) := ha.blk.cell 12
      clear hb ha hzz hzz'
      go_wp2
      go_ret
      exact ⟨ret_i HZZ.out.symm, HB.out⟩
set_option maxRecDepth 100000 in
set_option maxHeartbeats 2000000 in
theorem ref_RMost (r : Rul) (pv : Value) (w : World) (h : Sl 3 elPha w (· < w.heap.size) pv r.power) (hn : r.name.length ≤ 1000000000) : Calls Tryz.prog 17 #[rulV r pv] w fun e w' => e = .returned (.int .i64 (mostS r)) ∧ Below w.heap.size w w' := by
  obtain ⟨z, hz⟩ : ∃ z, z = mostS r := ⟨_, rfl⟩
  rw [← hz]
  unfold mostS at hz
  obtain ⟨A, c, rfl, hc, hc2⟩ := h.shape
  have hA := RulAt.new h
  have hb0 : Below w.heap.size w (w.alloc (.cells (rulCells r (.slice A r.power.length c)) 24)) := Below.alloc (Below.refl _ _) (Nat.le_refl _) _
  obtain ⟨W, hW⟩ : ∃ W, W = w.alloc (.cells (rulCells r (.slice A r.power.length c)) 24) := ⟨_, rfl⟩
  rw [← hW] at hA hb0
  have kc : Calls Tryz.prog 13 #[rulV r (.slice A r.power.length c)] W fun e w' => e = .returned (.int .i64 (checkR r)) ∧ Below w.heap.size w w' ∧ RulAt w' w.heap.size r (.slice A r.power.length c) := by
    refine (ref_RCheck r _ W hA.sl hn).mono ?_
    rintro e w' ⟨rfl, hb⟩
    exact ⟨rfl, hb0.trans (hb.mono hb0.size), hA.below hb⟩
  rw [hW] at kc
  by_cases hc0 : checkR r = 0
  · rw [if_neg (fun k => k hc0)] at hz
    rw [hc0] at kc
    obtain ⟨b1, b2, b3, b4, b5⟩ := rng_most hc0
    unfold rulV rulCells at kc
    have KC := Lib.hid kc
    have HZ := Lib.hid hz
    have B5 := Lib.hid b5
    clear kc hz hA h hb0 hc0 b5
    unfold rulV rulCells
    go_enter Tryz.func17, Tryz.ntmps17
    go_wp2_with (go_at_call 13; refine KC.out.mono ?_; rintro e w2 ⟨rfl, hb2, hr2⟩; have x3 : w2.cell? ⟨w.heap.size, 3, none⟩ = some (.int .i64 r.overs) := hr2.blk.cell 3; have x4 : w2.cell? ⟨w.heap.size, 4, none⟩ = some (.int .i64 r.balls) := hr2.blk.cell 4; have HB2 := Lib.hid hb2; clear hb2 hr2; have b5 := B5.out)
    go_ret
    exact ⟨ret_i HZ.out.symm, HB2.out⟩
  · rw [if_pos hc0] at hz
    obtain ⟨z9, hz9⟩ : ∃ z9, z9 = checkR r := ⟨_, rfl⟩
    rw [← hz9] at kc hc0
    have g1 : (z9 != 0) = true := by rw [bne_iff_ne]; exact hc0
    unfold rulV rulCells at kc
    have KC := Lib.hid kc
    have HZ := Lib.hid hz
    clear kc hz hA h hb0 hc0 hz9
    unfold rulV rulCells
    go_enter Tryz.func17, Tryz.ntmps17
    go_wp2_with (go_at_call 13; refine KC.out.mono ?_; rintro e w2 ⟨rfl, hb2, hr2⟩; have HB2 := Lib.hid hb2; clear hb2 hr2)
    go_ret
    exact ⟨ret_i HZ.out.symm, HB2.out⟩

end Go.Proofs.YtnacklbaphobbaaGreatDoor
