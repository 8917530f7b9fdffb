/- The contract of rules.Check. -/
import Derived.Test.YtnacklbaphobbaaGreatDoorU1
import Derived.Test.YtnacklbaphobbaaGreatDoorC
set_option linter.unusedSimpArgs false
set_option linter.unusedVariables false
namespace Go.Proofs.YtnacklbaphobbaaGreatDoor
open Go.RowKit

theorem Blk.fourteen {w : World} {g : Nat} {t : TypeId} {a0 a1 a2 a3 a4 a5 a6 a7 a8 a9 a10 a11 a12 a13 : Value} (h : Blk w g t #[a0, a1, a2, a3, a4, a5, a6, a7, a8, a9, a10, a11, a12, a13]) :
    w.cell? ⟨g, 0, none⟩ = some a0 ∧ w.cell? ⟨g, 1, none⟩ = some a1 ∧ w.cell? ⟨g, 2, none⟩ = some a2 ∧ w.cell? ⟨g, 3, none⟩ = some a3 ∧ w.cell? ⟨g, 4, none⟩ = some a4 ∧ w.cell? ⟨g, 5, none⟩ = some a5 ∧ w.cell? ⟨g, 6, none⟩ = some a6 ∧ w.cell? ⟨g, 7, none⟩ = some a7 ∧ w.cell? ⟨g, 8, none⟩ = some a8 ∧ w.cell? ⟨g, 9, none⟩ = some a9 ∧ w.cell? ⟨g, 10, none⟩ = some a10 ∧ w.cell? ⟨g, 11, none⟩ = some a11 ∧ w.cell? ⟨g, 12, none⟩ = some a12 ∧ w.cell? ⟨g, 13, none⟩ = some a13 :=
  ⟨h.cell 0, h.cell 1, h.cell 2, h.cell 3, h.cell 4, h.cell 5, h.cell 6, h.cell 7, h.cell 8, h.cell 9, h.cell 10, h.cell 11, h.cell 12, h.cell 13⟩
theorem RulAt.cells {w : World} {g : Nat} {r : Rul} {pv : Value} (h : RulAt w g r pv) :
    w.cell? ⟨g, 0, none⟩ = some (.string (S r.name)) ∧ w.cell? ⟨g, 1, none⟩ = some (.int .i64 r.side) ∧ w.cell? ⟨g, 2, none⟩ = some (.int .i64 r.inns) ∧ w.cell? ⟨g, 3, none⟩ = some (.int .i64 r.overs) ∧ w.cell? ⟨g, 4, none⟩ = some (.int .i64 r.balls) ∧ w.cell? ⟨g, 5, none⟩ = some (.int .i64 r.quota) ∧ w.cell? ⟨g, 6, none⟩ = some (.int .i64 r.wide) ∧ w.cell? ⟨g, 7, none⟩ = some (.int .i64 r.noball) ∧ w.cell? ⟨g, 8, none⟩ = some (.bool r.free) ∧ w.cell? ⟨g, 9, none⟩ = some (.int .i64 r.newball) ∧ w.cell? ⟨g, 10, none⟩ = some (.int .i64 r.follow) ∧ w.cell? ⟨g, 11, none⟩ = some (.int .i64 r.reviews) ∧ w.cell? ⟨g, 12, none⟩ = some (.int .i64 r.outside) ∧ w.cell? ⟨g, 13, none⟩ = some pv :=
  Blk.fourteen h.blk
theorem RulAt.lt {w : World} {g : Nat} {r : Rul} {pv : Value} (h : RulAt w g r pv) : g < w.heap.size := h.blk.lt
/-- The checks ahead of the powerplays, in the walk's spelling. -/
def midErr (r : Rul) : Int :=
  if ((r.follow != 0) && (r.inns == 1)) = true then 1
  else if (((r.quota != 0) || decide (0 < r.power.length)) && (r.overs == 0)) = true then 1
  else if ((r.quota != 0) && decide (r.quota * r.side < r.overs)) = true then 13 else phasesS r
theorem checkR_mid {r : Rul} (h1 : nameS r.name = true) (h2 : inRangeS r = true) : checkR r = midErr r := by
  have hh : headErr r = if r.follow ≠ 0 ∧ r.inns = 1 then 1
  else if (r.quota ≠ 0 ∨ 0 < r.power.length) ∧ r.overs = 0 then 1
  else if r.quota ≠ 0 ∧ r.quota * r.side < r.overs then 13 else 0 := by
    unfold headErr; rw [if_neg (by simp [h1]), if_neg (by simp [h2])]
  have e1 : (((r.follow != 0) && (r.inns == 1)) = true) = (r.follow ≠ 0 ∧ r.inns = 1) := by simp
  have e2 : ((((r.quota != 0) || decide (0 < r.power.length)) && (r.overs == 0)) = true) = ((r.quota ≠ 0 ∨ 0 < r.power.length) ∧ r.overs = 0) := by simp
  have e3 : (((r.quota != 0) && decide (r.quota * r.side < r.overs)) = true) = (r.quota ≠ 0 ∧ r.quota * r.side < r.overs) := by simp
  unfold checkR midErr
  rw [hh]
  simp only [e1, e2, e3]
  by_cases c1 : r.follow ≠ 0 ∧ r.inns = 1
  · simp only [if_pos c1]; rfl
  · simp only [if_neg c1]
    by_cases c2 : (r.quota ≠ 0 ∨ 0 < r.power.length) ∧ r.overs = 0
    · simp only [if_pos c2]; rfl
    · simp only [if_neg c2]
      by_cases c3 : r.quota ≠ 0 ∧ r.quota * r.side < r.overs
      · simp only [if_pos c3]; rfl
      · simp only [if_neg c3]; rfl
theorem checkR_rng {r : Rul} (h1 : nameS r.name = true) (h2 : inRangeS r = false) : checkR r = 2 := by
  have hh : headErr r = 2 := by unfold headErr; rw [if_neg (by simp [h1]), if_pos h2]
  unfold checkR; rw [hh]; rfl
theorem band (a b : Bool) : (a = true ∧ b = true) ∨ (a = true ∧ b = false) ∨ a = false := by cases a <;> cases b <;> simp
theorem boor (a : Bool) : a = true ∨ a = false := by cases a <;> simp
set_option maxRecDepth 100000 in
set_option maxHeartbeats 4000000 in
theorem rul_Check (r : Rul) (pv : Value) (w : World) (h : Sl 3 elPha w (· < w.heap.size) pv r.power) (hn : r.name.length ≤ 1000000000) :
    Calls Tryz.prog 12 #[rulV r pv] w fun e w' => e = .returned (.int .i64 (checkR r)) ∧ Below w.heap.size w w' := by
  obtain ⟨z, hz⟩ : ∃ z, z = checkR r := ⟨_, rfl⟩
  rw [← hz]
  obtain ⟨A, c, rfl, hc, hc2⟩ := h.shape
  have hA := RulAt.new h
  have hb0 : Below w.heap.size w (w.alloc (.cells (rulCells r (.slice A r.power.length c)) 24)) := Below.alloc (Below.refl _ _) (Nat.le_refl _) _
  have HB0 := Lib.hid hb0
  have hnm : ∀ W, Below w.heap.size w W → RulAt W w.heap.size r (.slice A r.power.length c) → Calls Tryz.prog 31 #[.string (S r.name)] W fun e W' => e = .returned (.bool (nameS r.name)) ∧ Below w.heap.size w W' ∧ RulAt W' w.heap.size r (.slice A r.power.length c) := fun W h1 h2 => by
    refine (text_Name (S r.name) W (by simp only [S_size, maxLen]; omega)).mono ?_
    rintro e W' ⟨rfl, hb⟩
    exact ⟨rfl, h1.trans (hb.mono h1.size), h2.below hb⟩
  have hir : ∀ W, Below w.heap.size w W → RulAt W w.heap.size r (.slice A r.power.length c) → Calls Tryz.prog 32 #[rulV r (.slice A r.power.length c)] W fun e W' => e = .returned (.bool (inRangeS r)) ∧ Below w.heap.size w W' ∧ RulAt W' w.heap.size r (.slice A r.power.length c) := fun W h1 h2 => by
    refine (rul_inRange r _ W).mono ?_
    rintro e W' ⟨rfl, hb⟩
    exact ⟨rfl, h1.trans (hb.mono h1.size), h2.below hb⟩
  have hph : ∀ W, Below w.heap.size w W → RulAt W w.heap.size r (.slice A r.power.length c) → Calls Tryz.prog 33 #[rulV r (.slice A r.power.length c)] W fun e W' => e = .returned (.int .i64 (phasesS r)) ∧ Below w.heap.size w W' := fun W h1 h2 => by
    refine (rul_phases r _ W h2.sl).mono ?_
    rintro e W' ⟨rfl, hb⟩
    exact ⟨rfl, h1.trans (hb.mono h1.size)⟩
  have HA := Lib.hid hA
  unfold rulV at hir hph
  unfold rulCells at hir hph HA HB0
  have HNM := Lib.hid hnm
  have HIR := Lib.hid hir
  have HPH := Lib.hid hph
  clear h hA hb0 hnm hir hph
  unfold rulV rulCells
  cases h1 : nameS r.name
  · have hz2 : z = 5 := by rw [hz]; unfold checkR headErr; rw [if_pos h1]; rfl
    have HZ := Lib.hid hz2
    clear hz hz2
    as_aux_lemma =>
      go_enter Tryz.func12, Tryz.ntmps12
      go_wp2_with (go_at_call 31; refine (HNM.out _ HB0.out HA.out).mono ?_; rintro e w2 ⟨rfl, hb2, hr2⟩; have HB2 := Lib.hid hb2; clear hb2 hr2)
      go_ret
      exact ⟨ret_i HZ.out.symm, HB2.out⟩
  · cases h2 : inRangeS r
    · have hz2 : z = 2 := by rw [hz]; exact checkR_rng h1 h2
      have HZ := Lib.hid hz2
      clear hz hz2
      as_aux_lemma =>
        go_enter Tryz.func12, Tryz.ntmps12
        go_wp2_with (first | (go_at_call 31; refine (HNM.out _ HB0.out HA.out).mono ?_; rintro e w2 ⟨rfl, hb2, hr2⟩; obtain ⟨y0, y1, y2, y3, y4, y5, y6, y7, y8, y9, y10, y11, y12, y13⟩ := hr2.cells; have HB2 := Lib.hid hb2; have HR2 := Lib.hid hr2; clear hb2 hr2) | (go_at_call 32; refine (HIR.out _ HB2.out HR2.out).mono ?_; rintro e w3 ⟨rfl, hb3, hr3⟩; have HB3 := Lib.hid hb3; clear hb3 hr3))
        go_ret
        exact ⟨ret_i HZ.out.symm, HB3.out⟩
    · rw [checkR_mid h1 h2] at hz
      unfold midErr at hz
      obtain ⟨⟨a1, a2⟩, _, ⟨a3, a4⟩, _, ⟨a5, a6⟩, _⟩ := (inRangeS_iff r).1 h2
      have m1 : 0 ≤ r.quota * r.side := Int.mul_nonneg a5 (by omega)
      have m2 : r.quota * r.side ≤ 990 := by
        have := Int.mul_le_mul a6 a2 (by omega) (by omega)
        omega
      rcases band (r.follow != 0) (r.inns == 1) with ⟨f1, f2⟩ | ⟨f1, f2⟩ | f1
      · have hz2 : z = 1 := by rw [hz]; simp [f1, f2]
        have HZ := Lib.hid hz2
        clear hz hz2
        as_aux_lemma =>
          go_enter Tryz.func12, Tryz.ntmps12
          go_wp2_with (first | (go_at_call 31; refine (HNM.out _ HB0.out HA.out).mono ?_; rintro e w2 ⟨rfl, hb2, hr2⟩; obtain ⟨y0, y1, y2, y3, y4, y5, y6, y7, y8, y9, y10, y11, y12, y13⟩ := hr2.cells; have HB2 := Lib.hid hb2; have HR2 := Lib.hid hr2; clear hb2 hr2) | (go_at_call 32; refine (HIR.out _ HB2.out HR2.out).mono ?_; rintro e w3 ⟨rfl, hb3, hr3⟩; obtain ⟨x0, x1, x2, x3, x4, x5, x6, x7, x8, x9, x10, x11, x12, x13⟩ := hr3.cells; have HB3 := Lib.hid hb3; have HR3 := Lib.hid hr3; clear hb3 hr3))
          go_ret
          exact ⟨ret_i HZ.out.symm, HB3.out⟩
      · rcases band (r.quota != 0) (r.overs == 0) with ⟨q1, o1⟩ | ⟨q1, o1⟩ | q1
        · have hz2 : z = 1 := by rw [hz]; simp [f1, f2, q1, o1]
          have HZ := Lib.hid hz2
          clear hz hz2
          as_aux_lemma =>
            go_enter Tryz.func12, Tryz.ntmps12
            go_wp2_with (first | (go_at_call 31; refine (HNM.out _ HB0.out HA.out).mono ?_; rintro e w2 ⟨rfl, hb2, hr2⟩; obtain ⟨y0, y1, y2, y3, y4, y5, y6, y7, y8, y9, y10, y11, y12, y13⟩ := hr2.cells; have HB2 := Lib.hid hb2; have HR2 := Lib.hid hr2; clear hb2 hr2) | (go_at_call 32; refine (HIR.out _ HB2.out HR2.out).mono ?_; rintro e w3 ⟨rfl, hb3, hr3⟩; obtain ⟨x0, x1, x2, x3, x4, x5, x6, x7, x8, x9, x10, x11, x12, x13⟩ := hr3.cells; have HB3 := Lib.hid hb3; have HR3 := Lib.hid hr3; clear hb3 hr3))
            go_ret
            exact ⟨ret_i HZ.out.symm, HB3.out⟩
        · rcases boor (decide (r.quota * r.side < r.overs)) with p1 | p1
          · have hz2 : z = 13 := by rw [hz]; simp [f1, f2, q1, o1, p1]
            have HZ := Lib.hid hz2
            clear hz hz2
            as_aux_lemma =>
              go_enter Tryz.func12, Tryz.ntmps12
              go_wp2_with (first | (go_at_call 31; refine (HNM.out _ HB0.out HA.out).mono ?_; rintro e w2 ⟨rfl, hb2, hr2⟩; obtain ⟨y0, y1, y2, y3, y4, y5, y6, y7, y8, y9, y10, y11, y12, y13⟩ := hr2.cells; have HB2 := Lib.hid hb2; have HR2 := Lib.hid hr2; clear hb2 hr2) | (go_at_call 32; refine (HIR.out _ HB2.out HR2.out).mono ?_; rintro e w3 ⟨rfl, hb3, hr3⟩; obtain ⟨x0, x1, x2, x3, x4, x5, x6, x7, x8, x9, x10, x11, x12, x13⟩ := hr3.cells; have HB3 := Lib.hid hb3; have HR3 := Lib.hid hr3; clear hb3 hr3))
              go_ret
              exact ⟨ret_i HZ.out.symm, HB3.out⟩
          · have hz2 : z = phasesS r := by rw [hz]; simp [f1, f2, q1, o1, p1]
            have HZ := Lib.hid hz2
            clear hz hz2
            as_aux_lemma =>
              go_enter Tryz.func12, Tryz.ntmps12
              go_wp2_with (first | (go_at_call 31; refine (HNM.out _ HB0.out HA.out).mono ?_; rintro e w2 ⟨rfl, hb2, hr2⟩; obtain ⟨y0, y1, y2, y3, y4, y5, y6, y7, y8, y9, y10, y11, y12, y13⟩ := hr2.cells; have HB2 := Lib.hid hb2; have HR2 := Lib.hid hr2; clear hb2 hr2) | (go_at_call 32; refine (HIR.out _ HB2.out HR2.out).mono ?_; rintro e w3 ⟨rfl, hb3, hr3⟩; obtain ⟨x0, x1, x2, x3, x4, x5, x6, x7, x8, x9, x10, x11, x12, x13⟩ := hr3.cells; have HB3 := Lib.hid hb3; have HR3 := Lib.hid hr3; clear hb3 hr3) | (go_at_call 33; refine (HPH.out _ HB3.out HR3.out).mono ?_; rintro e w4 ⟨rfl, hb4⟩; have HB4 := Lib.hid hb4; clear hb4))
              go_ret
              exact ⟨ret_i HZ.out.symm, HB4.out⟩
        · rcases band (decide (0 < r.power.length)) (r.overs == 0) with ⟨l1, o1⟩ | ⟨l1, o1⟩ | l1
          · have l2 : decide ((0 : Int) < (r.power.length : Int)) = true := by rw [← l1]; simp
            have hz2 : z = 1 := by rw [hz]; simp [f1, f2, q1, l1, o1]
            have HZ := Lib.hid hz2
            clear hz hz2
            as_aux_lemma =>
              go_enter Tryz.func12, Tryz.ntmps12
              go_wp2_with (first | (go_at_call 31; refine (HNM.out _ HB0.out HA.out).mono ?_; rintro e w2 ⟨rfl, hb2, hr2⟩; obtain ⟨y0, y1, y2, y3, y4, y5, y6, y7, y8, y9, y10, y11, y12, y13⟩ := hr2.cells; have HB2 := Lib.hid hb2; have HR2 := Lib.hid hr2; clear hb2 hr2) | (go_at_call 32; refine (HIR.out _ HB2.out HR2.out).mono ?_; rintro e w3 ⟨rfl, hb3, hr3⟩; obtain ⟨x0, x1, x2, x3, x4, x5, x6, x7, x8, x9, x10, x11, x12, x13⟩ := hr3.cells; have HB3 := Lib.hid hb3; have HR3 := Lib.hid hr3; clear hb3 hr3))
              go_ret
              exact ⟨ret_i HZ.out.symm, HB3.out⟩
          · have l2 : decide ((0 : Int) < (r.power.length : Int)) = true := by rw [← l1]; simp
            have hz2 : z = phasesS r := by rw [hz]; simp [f1, f2, q1, l1, o1]
            have HZ := Lib.hid hz2
            clear hz hz2
            as_aux_lemma =>
              go_enter Tryz.func12, Tryz.ntmps12
              go_wp2_with (first | (go_at_call 31; refine (HNM.out _ HB0.out HA.out).mono ?_; rintro e w2 ⟨rfl, hb2, hr2⟩; obtain ⟨y0, y1, y2, y3, y4, y5, y6, y7, y8, y9, y10, y11, y12, y13⟩ := hr2.cells; have HB2 := Lib.hid hb2; have HR2 := Lib.hid hr2; clear hb2 hr2) | (go_at_call 32; refine (HIR.out _ HB2.out HR2.out).mono ?_; rintro e w3 ⟨rfl, hb3, hr3⟩; obtain ⟨x0, x1, x2, x3, x4, x5, x6, x7, x8, x9, x10, x11, x12, x13⟩ := hr3.cells; have HB3 := Lib.hid hb3; have HR3 := Lib.hid hr3; clear hb3 hr3) | (go_at_call 33; refine (HPH.out _ HB3.out HR3.out).mono ?_; rintro e w4 ⟨rfl, hb4⟩; have HB4 := Lib.hid hb4; clear hb4))
              go_ret
              exact ⟨ret_i HZ.out.symm, HB4.out⟩
          · have l2 : decide ((0 : Int) < (r.power.length : Int)) = false := by rw [← l1]; simp
            have hz2 : z = phasesS r := by rw [hz]; simp [f1, f2, q1, l1]
            have HZ := Lib.hid hz2
            clear hz hz2
            as_aux_lemma =>
              go_enter Tryz.func12, Tryz.ntmps12
              go_wp2_with (first | (go_at_call 31; refine (HNM.out _ HB0.out HA.out).mono ?_; rintro e w2 ⟨rfl, hb2, hr2⟩; obtain ⟨y0, y1, y2, y3, y4, y5, y6, y7, y8, y9, y10, y11, y12, y13⟩ := hr2.cells; have HB2 := Lib.hid hb2; have HR2 := Lib.hid hr2; clear hb2 hr2) | (go_at_call 32; refine (HIR.out _ HB2.out HR2.out).mono ?_; rintro e w3 ⟨rfl, hb3, hr3⟩; obtain ⟨x0, x1, x2, x3, x4, x5, x6, x7, x8, x9, x10, x11, x12, x13⟩ := hr3.cells; have HB3 := Lib.hid hb3; have HR3 := Lib.hid hr3; clear hb3 hr3) | (go_at_call 33; refine (HPH.out _ HB3.out HR3.out).mono ?_; rintro e w4 ⟨rfl, hb4⟩; have HB4 := Lib.hid hb4; clear hb4))
              go_ret
              exact ⟨ret_i HZ.out.symm, HB4.out⟩
      · rcases band (r.quota != 0) (r.overs == 0) with ⟨q1, o1⟩ | ⟨q1, o1⟩ | q1
        · have hz2 : z = 1 := by rw [hz]; simp [f1, q1, o1]
          have HZ := Lib.hid hz2
          clear hz hz2
          as_aux_lemma =>
            go_enter Tryz.func12, Tryz.ntmps12
            go_wp2_with (first | (go_at_call 31; refine (HNM.out _ HB0.out HA.out).mono ?_; rintro e w2 ⟨rfl, hb2, hr2⟩; obtain ⟨y0, y1, y2, y3, y4, y5, y6, y7, y8, y9, y10, y11, y12, y13⟩ := hr2.cells; have HB2 := Lib.hid hb2; have HR2 := Lib.hid hr2; clear hb2 hr2) | (go_at_call 32; refine (HIR.out _ HB2.out HR2.out).mono ?_; rintro e w3 ⟨rfl, hb3, hr3⟩; obtain ⟨x0, x1, x2, x3, x4, x5, x6, x7, x8, x9, x10, x11, x12, x13⟩ := hr3.cells; have HB3 := Lib.hid hb3; have HR3 := Lib.hid hr3; clear hb3 hr3))
            go_ret
            exact ⟨ret_i HZ.out.symm, HB3.out⟩
        · rcases boor (decide (r.quota * r.side < r.overs)) with p1 | p1
          · have hz2 : z = 13 := by rw [hz]; simp [f1, q1, o1, p1]
            have HZ := Lib.hid hz2
            clear hz hz2
            as_aux_lemma =>
              go_enter Tryz.func12, Tryz.ntmps12
              go_wp2_with (first | (go_at_call 31; refine (HNM.out _ HB0.out HA.out).mono ?_; rintro e w2 ⟨rfl, hb2, hr2⟩; obtain ⟨y0, y1, y2, y3, y4, y5, y6, y7, y8, y9, y10, y11, y12, y13⟩ := hr2.cells; have HB2 := Lib.hid hb2; have HR2 := Lib.hid hr2; clear hb2 hr2) | (go_at_call 32; refine (HIR.out _ HB2.out HR2.out).mono ?_; rintro e w3 ⟨rfl, hb3, hr3⟩; obtain ⟨x0, x1, x2, x3, x4, x5, x6, x7, x8, x9, x10, x11, x12, x13⟩ := hr3.cells; have HB3 := Lib.hid hb3; have HR3 := Lib.hid hr3; clear hb3 hr3))
              go_ret
              exact ⟨ret_i HZ.out.symm, HB3.out⟩
          · have hz2 : z = phasesS r := by rw [hz]; simp [f1, q1, o1, p1]
            have HZ := Lib.hid hz2
            clear hz hz2
            as_aux_lemma =>
              go_enter Tryz.func12, Tryz.ntmps12
              go_wp2_with (first | (go_at_call 31; refine (HNM.out _ HB0.out HA.out).mono ?_; rintro e w2 ⟨rfl, hb2, hr2⟩; obtain ⟨y0, y1, y2, y3, y4, y5, y6, y7, y8, y9, y10, y11, y12, y13⟩ := hr2.cells; have HB2 := Lib.hid hb2; have HR2 := Lib.hid hr2; clear hb2 hr2) | (go_at_call 32; refine (HIR.out _ HB2.out HR2.out).mono ?_; rintro e w3 ⟨rfl, hb3, hr3⟩; obtain ⟨x0, x1, x2, x3, x4, x5, x6, x7, x8, x9, x10, x11, x12, x13⟩ := hr3.cells; have HB3 := Lib.hid hb3; have HR3 := Lib.hid hr3; clear hb3 hr3) | (go_at_call 33; refine (HPH.out _ HB3.out HR3.out).mono ?_; rintro e w4 ⟨rfl, hb4⟩; have HB4 := Lib.hid hb4; clear hb4))
              go_ret
              exact ⟨ret_i HZ.out.symm, HB4.out⟩
        · rcases band (decide (0 < r.power.length)) (r.overs == 0) with ⟨l1, o1⟩ | ⟨l1, o1⟩ | l1
          · have l2 : decide ((0 : Int) < (r.power.length : Int)) = true := by rw [← l1]; simp
            have hz2 : z = 1 := by rw [hz]; simp [f1, q1, l1, o1]
            have HZ := Lib.hid hz2
            clear hz hz2
            as_aux_lemma =>
              go_enter Tryz.func12, Tryz.ntmps12
              go_wp2_with (first | (go_at_call 31; refine (HNM.out _ HB0.out HA.out).mono ?_; rintro e w2 ⟨rfl, hb2, hr2⟩; obtain ⟨y0, y1, y2, y3, y4, y5, y6, y7, y8, y9, y10, y11, y12, y13⟩ := hr2.cells; have HB2 := Lib.hid hb2; have HR2 := Lib.hid hr2; clear hb2 hr2) | (go_at_call 32; refine (HIR.out _ HB2.out HR2.out).mono ?_; rintro e w3 ⟨rfl, hb3, hr3⟩; obtain ⟨x0, x1, x2, x3, x4, x5, x6, x7, x8, x9, x10, x11, x12, x13⟩ := hr3.cells; have HB3 := Lib.hid hb3; have HR3 := Lib.hid hr3; clear hb3 hr3))
              go_ret
              exact ⟨ret_i HZ.out.symm, HB3.out⟩
          · have l2 : decide ((0 : Int) < (r.power.length : Int)) = true := by rw [← l1]; simp
            have hz2 : z = phasesS r := by rw [hz]; simp [f1, q1, l1, o1]
            have HZ := Lib.hid hz2
            clear hz hz2
            as_aux_lemma =>
              go_enter Tryz.func12, Tryz.ntmps12
              go_wp2_with (first | (go_at_call 31; refine (HNM.out _ HB0.out HA.out).mono ?_; rintro e w2 ⟨rfl, hb2, hr2⟩; obtain ⟨y0, y1, y2, y3, y4, y5, y6, y7, y8, y9, y10, y11, y12, y13⟩ := hr2.cells; have HB2 := Lib.hid hb2; have HR2 := Lib.hid hr2; clear hb2 hr2) | (go_at_call 32; refine (HIR.out _ HB2.out HR2.out).mono ?_; rintro e w3 ⟨rfl, hb3, hr3⟩; obtain ⟨x0, x1, x2, x3, x4, x5, x6, x7, x8, x9, x10, x11, x12, x13⟩ := hr3.cells; have HB3 := Lib.hid hb3; have HR3 := Lib.hid hr3; clear hb3 hr3) | (go_at_call 33; refine (HPH.out _ HB3.out HR3.out).mono ?_; rintro e w4 ⟨rfl, hb4⟩; have HB4 := Lib.hid hb4; clear hb4))
              go_ret
              exact ⟨ret_i HZ.out.symm, HB4.out⟩
          · have l2 : decide ((0 : Int) < (r.power.length : Int)) = false := by rw [← l1]; simp
            have hz2 : z = phasesS r := by rw [hz]; simp [f1, q1, l1]
            have HZ := Lib.hid hz2
            clear hz hz2
            as_aux_lemma =>
              go_enter Tryz.func12, Tryz.ntmps12
              go_wp2_with (first | (go_at_call 31; refine (HNM.out _ HB0.out HA.out).mono ?_; rintro e w2 ⟨rfl, hb2, hr2⟩; obtain ⟨y0, y1, y2, y3, y4, y5, y6, y7, y8, y9, y10, y11, y12, y13⟩ := hr2.cells; have HB2 := Lib.hid hb2; have HR2 := Lib.hid hr2; clear hb2 hr2) | (go_at_call 32; refine (HIR.out _ HB2.out HR2.out).mono ?_; rintro e w3 ⟨rfl, hb3, hr3⟩; obtain ⟨x0, x1, x2, x3, x4, x5, x6, x7, x8, x9, x10, x11, x12, x13⟩ := hr3.cells; have HB3 := Lib.hid hb3; have HR3 := Lib.hid hr3; clear hb3 hr3) | (go_at_call 33; refine (HPH.out _ HB3.out HR3.out).mono ?_; rintro e w4 ⟨rfl, hb4⟩; have HB4 := Lib.hid hb4; clear hb4))
              go_ret
              exact ⟨ret_i HZ.out.symm, HB4.out⟩
end Go.Proofs.YtnacklbaphobbaaGreatDoor
