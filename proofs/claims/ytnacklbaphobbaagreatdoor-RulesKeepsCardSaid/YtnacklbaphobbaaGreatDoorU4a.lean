/- The contract of the reference's Check of rules. -/
import Derived.Test.YtnacklbaphobbaaGreatDoorU3
import Derived.Test.YtnacklbaphobbaaGreatDoorF0
set_option linter.unusedSimpArgs false
set_option linter.unusedVariables false
namespace Go.Proofs.YtnacklbaphobbaaGreatDoor
open Go.RowKit

theorem andF {a b : Bool} (h : (a && b) = false) : a = false ∨ (a = true ∧ b = false) := by cases a <;> cases b <;> simp_all
set_option maxRecDepth 100000 in
set_option maxHeartbeats 4000000 in
theorem ref_RCheck_bad (r : Rul) (pv : Value) (w : World) (h : Sl 3 elPha w (· < w.heap.size) pv r.power) (hn : r.name.length ≤ 1000000000) (hbad : nameS r.name = false ∨ inRangeS r = false) :
    Calls Tryz.prog 13 #[rulV r pv] w fun e w' => e = .returned (.int .i64 (checkR r)) ∧ Below w.heap.size w w' := by
  obtain ⟨z, hz⟩ : ∃ z, z = checkR r := ⟨_, rfl⟩
  rw [← hz]
  obtain ⟨A, c, rfl, hc, hc2⟩ := h.shape
  have hA := RulAt.new h
  have hb0 : Below w.heap.size w (w.alloc (.cells (rulCells r (.slice A r.power.length c)) 24)) := Below.alloc (Below.refl _ _) (Nat.le_refl _) _
  have HB0 := Lib.hid hb0
  have hnm : ∀ W, Below w.heap.size w W → RulAt W w.heap.size r (.slice A r.power.length c) → Calls Tryz.prog 34 #[.string (S r.name)] W fun e W' => e = .returned (.bool (nameS r.name)) ∧ Below w.heap.size w W' ∧ RulAt W' w.heap.size r (.slice A r.power.length c) := fun W h1 h2 => by
    refine (ref_Name (S r.name) W (by simp only [S_size, maxLen]; omega)).mono ?_
    rintro e W' ⟨rfl, rfl⟩
    exact ⟨rfl, h1, h2⟩
  have HA := Lib.hid hA
  have H := Lib.hid h
  unfold rulCells at HA HB0
  have HNM := Lib.hid hnm
  clear h hA hb0 hnm
  unfold rulV rulCells
  cases h1 : nameS r.name
  · have hz2 : z = 5 := by rw [hz]; unfold checkR headErr; rw [if_pos h1]; rfl
    have HZ := Lib.hid hz2
    clear hz hz2 hbad
    as_aux_lemma =>
      go_enter Tryz.func13, Tryz.ntmps13
      go_wp2_with (go_at_call 34; refine (HNM.out _ HB0.out HA.out).mono ?_; rintro e w2 ⟨rfl, hb2, hr2⟩; obtain ⟨y0, y1, y2, y3, y4, y5, y6, y7, y8, y9, y10, y11, y12, y13⟩ := hr2.cells; have HB2 := Lib.hid hb2; have HR2 := Lib.hid hr2; clear hb2 hr2)
      go_ret
      exact ⟨ret_i HZ.out.symm, HB2.out⟩
  · have h2 : inRangeS r = false := by
      rcases hbad with h | h
      · rw [h1] at h; cases h
      · exact h
    have hz2 : z = 2 := by rw [hz]; exact checkR_rng h1 h2
    have HZ := Lib.hid hz2
    clear hz hz2 hbad
    unfold inRangeS at h2
    rcases andF h2 with h2 | ⟨h2, e10⟩
    rotate_left
    · simp only [Bool.and_eq_true] at h2
      obtain ⟨⟨⟨⟨⟨⟨⟨⟨⟨e0, e1⟩, e2⟩, e3⟩, e4⟩, e5⟩, e6⟩, e7⟩, e8⟩, e9⟩ := h2
      as_aux_lemma =>
        go_enter Tryz.func13, Tryz.ntmps13
        go_wp2_with (first | (go_at_call 34; refine (HNM.out _ HB0.out HA.out).mono ?_; rintro e w2 ⟨rfl, hb2, hr2⟩; obtain ⟨y0, y1, y2, y3, y4, y5, y6, y7, y8, y9, y10, y11, y12, y13⟩ := hr2.cells; have HB2 := Lib.hid hb2; have HR2 := Lib.hid hr2; clear hb2 hr2) | (go_at_call 35; refine (ref_in _ _ _ _).mono ?_; rintro e w3 ⟨rfl, rfl⟩))
        go_ret
        exact ⟨ret_i HZ.out.symm, HB2.out⟩
    rcases andF h2 with h2 | ⟨h2, e9⟩
    rotate_left
    · simp only [Bool.and_eq_true] at h2
      obtain ⟨⟨⟨⟨⟨⟨⟨⟨e0, e1⟩, e2⟩, e3⟩, e4⟩, e5⟩, e6⟩, e7⟩, e8⟩ := h2
      as_aux_lemma =>
        go_enter Tryz.func13, Tryz.ntmps13
        go_wp2_with (first | (go_at_call 34; refine (HNM.out _ HB0.out HA.out).mono ?_; rintro e w2 ⟨rfl, hb2, hr2⟩; obtain ⟨y0, y1, y2, y3, y4, y5, y6, y7, y8, y9, y10, y11, y12, y13⟩ := hr2.cells; have HB2 := Lib.hid hb2; have HR2 := Lib.hid hr2; clear hb2 hr2) | (go_at_call 35; refine (ref_in _ _ _ _).mono ?_; rintro e w3 ⟨rfl, rfl⟩))
        go_ret
        exact ⟨ret_i HZ.out.symm, HB2.out⟩
    rcases andF h2 with h2 | ⟨h2, e8⟩
    rotate_left
    · simp only [Bool.and_eq_true] at h2
      obtain ⟨⟨⟨⟨⟨⟨⟨e0, e1⟩, e2⟩, e3⟩, e4⟩, e5⟩, e6⟩, e7⟩ := h2
      as_aux_lemma =>
        go_enter Tryz.func13, Tryz.ntmps13
        go_wp2_with (first | (go_at_call 34; refine (HNM.out _ HB0.out HA.out).mono ?_; rintro e w2 ⟨rfl, hb2, hr2⟩; obtain ⟨y0, y1, y2, y3, y4, y5, y6, y7, y8, y9, y10, y11, y12, y13⟩ := hr2.cells; have HB2 := Lib.hid hb2; have HR2 := Lib.hid hr2; clear hb2 hr2) | (go_at_call 35; refine (ref_in _ _ _ _).mono ?_; rintro e w3 ⟨rfl, rfl⟩))
        go_ret
        exact ⟨ret_i HZ.out.symm, HB2.out⟩
    rcases andF h2 with h2 | ⟨h2, e7⟩
    rotate_left
    · simp only [Bool.and_eq_true] at h2
      obtain ⟨⟨⟨⟨⟨⟨e0, e1⟩, e2⟩, e3⟩, e4⟩, e5⟩, e6⟩ := h2
      as_aux_lemma =>
        go_enter Tryz.func13, Tryz.ntmps13
        go_wp2_with (first | (go_at_call 34; refine (HNM.out _ HB0.out HA.out).mono ?_; rintro e w2 ⟨rfl, hb2, hr2⟩; obtain ⟨y0, y1, y2, y3, y4, y5, y6, y7, y8, y9, y10, y11, y12, y13⟩ := hr2.cells; have HB2 := Lib.hid hb2; have HR2 := Lib.hid hr2; clear hb2 hr2) | (go_at_call 35; refine (ref_in _ _ _ _).mono ?_; rintro e w3 ⟨rfl, rfl⟩))
        go_ret
        exact ⟨ret_i HZ.out.symm, HB2.out⟩
    rcases andF h2 with h2 | ⟨h2, e6⟩
    rotate_left
    · simp only [Bool.and_eq_true] at h2
      obtain ⟨⟨⟨⟨⟨e0, e1⟩, e2⟩, e3⟩, e4⟩, e5⟩ := h2
      as_aux_lemma =>
        go_enter Tryz.func13, Tryz.ntmps13
        go_wp2_with (first | (go_at_call 34; refine (HNM.out _ HB0.out HA.out).mono ?_; rintro e w2 ⟨rfl, hb2, hr2⟩; obtain ⟨y0, y1, y2, y3, y4, y5, y6, y7, y8, y9, y10, y11, y12, y13⟩ := hr2.cells; have HB2 := Lib.hid hb2; have HR2 := Lib.hid hr2; clear hb2 hr2) | (go_at_call 35; refine (ref_in _ _ _ _).mono ?_; rintro e w3 ⟨rfl, rfl⟩))
        go_ret
        exact ⟨ret_i HZ.out.symm, HB2.out⟩
    rcases andF h2 with h2 | ⟨h2, e5⟩
    rotate_left
    · simp only [Bool.and_eq_true] at h2
      obtain ⟨⟨⟨⟨e0, e1⟩, e2⟩, e3⟩, e4⟩ := h2
      as_aux_lemma =>
        go_enter Tryz.func13, Tryz.ntmps13
        go_wp2_with (first | (go_at_call 34; refine (HNM.out _ HB0.out HA.out).mono ?_; rintro e w2 ⟨rfl, hb2, hr2⟩; obtain ⟨y0, y1, y2, y3, y4, y5, y6, y7, y8, y9, y10, y11, y12, y13⟩ := hr2.cells; have HB2 := Lib.hid hb2; have HR2 := Lib.hid hr2; clear hb2 hr2) | (go_at_call 35; refine (ref_in _ _ _ _).mono ?_; rintro e w3 ⟨rfl, rfl⟩))
        go_ret
        exact ⟨ret_i HZ.out.symm, HB2.out⟩
    rcases andF h2 with h2 | ⟨h2, e4⟩
    rotate_left
    · simp only [Bool.and_eq_true] at h2
      obtain ⟨⟨⟨e0, e1⟩, e2⟩, e3⟩ := h2
      as_aux_lemma =>
        go_enter Tryz.func13, Tryz.ntmps13
        go_wp2_with (first | (go_at_call 34; refine (HNM.out _ HB0.out HA.out).mono ?_; rintro e w2 ⟨rfl, hb2, hr2⟩; obtain ⟨y0, y1, y2, y3, y4, y5, y6, y7, y8, y9, y10, y11, y12, y13⟩ := hr2.cells; have HB2 := Lib.hid hb2; have HR2 := Lib.hid hr2; clear hb2 hr2) | (go_at_call 35; refine (ref_in _ _ _ _).mono ?_; rintro e w3 ⟨rfl, rfl⟩))
        go_ret
        exact ⟨ret_i HZ.out.symm, HB2.out⟩
    rcases andF h2 with h2 | ⟨h2, e3⟩
    rotate_left
    · simp only [Bool.and_eq_true] at h2
      obtain ⟨⟨e0, e1⟩, e2⟩ := h2
      as_aux_lemma =>
        go_enter Tryz.func13, Tryz.ntmps13
        go_wp2_with (first | (go_at_call 34; refine (HNM.out _ HB0.out HA.out).mono ?_; rintro e w2 ⟨rfl, hb2, hr2⟩; obtain ⟨y0, y1, y2, y3, y4, y5, y6, y7, y8, y9, y10, y11, y12, y13⟩ := hr2.cells; have HB2 := Lib.hid hb2; have HR2 := Lib.hid hr2; clear hb2 hr2) | (go_at_call 35; refine (ref_in _ _ _ _).mono ?_; rintro e w3 ⟨rfl, rfl⟩))
        go_ret
        exact ⟨ret_i HZ.out.symm, HB2.out⟩
    rcases andF h2 with h2 | ⟨h2, e2⟩
    rotate_left
    · simp only [Bool.and_eq_true] at h2
      obtain ⟨e0, e1⟩ := h2
      as_aux_lemma =>
        go_enter Tryz.func13, Tryz.ntmps13
        go_wp2_with (first | (go_at_call 34; refine (HNM.out _ HB0.out HA.out).mono ?_; rintro e w2 ⟨rfl, hb2, hr2⟩; obtain ⟨y0, y1, y2, y3, y4, y5, y6, y7, y8, y9, y10, y11, y12, y13⟩ := hr2.cells; have HB2 := Lib.hid hb2; have HR2 := Lib.hid hr2; clear hb2 hr2) | (go_at_call 35; refine (ref_in _ _ _ _).mono ?_; rintro e w3 ⟨rfl, rfl⟩))
        go_ret
        exact ⟨ret_i HZ.out.symm, HB2.out⟩
    rcases andF h2 with h2 | ⟨h2, e1⟩
    rotate_left
    · have e0 := h2
      as_aux_lemma =>
        go_enter Tryz.func13, Tryz.ntmps13
        go_wp2_with (first | (go_at_call 34; refine (HNM.out _ HB0.out HA.out).mono ?_; rintro e w2 ⟨rfl, hb2, hr2⟩; obtain ⟨y0, y1, y2, y3, y4, y5, y6, y7, y8, y9, y10, y11, y12, y13⟩ := hr2.cells; have HB2 := Lib.hid hb2; have HR2 := Lib.hid hr2; clear hb2 hr2) | (go_at_call 35; refine (ref_in _ _ _ _).mono ?_; rintro e w3 ⟨rfl, rfl⟩))
        go_ret
        exact ⟨ret_i HZ.out.symm, HB2.out⟩
    as_aux_lemma =>
      go_enter Tryz.func13, Tryz.ntmps13
      go_wp2_with (first | (go_at_call 34; refine (HNM.out _ HB0.out HA.out).mono ?_; rintro e w2 ⟨rfl, hb2, hr2⟩; obtain ⟨y0, y1, y2, y3, y4, y5, y6, y7, y8, y9, y10, y11, y12, y13⟩ := hr2.cells; have HB2 := Lib.hid hb2; have HR2 := Lib.hid hr2; clear hb2 hr2) | (go_at_call 35; refine (ref_in _ _ _ _).mono ?_; rintro e w3 ⟨rfl, rfl⟩))
      go_ret
      exact ⟨ret_i HZ.out.symm, HB2.out⟩
set_option maxRecDepth 100000 in
set_option maxHeartbeats 4000000 in
theorem ref_RCheck_A (r : Rul) (pv : Value) (w : World) (h : Sl 3 elPha w (· < w.heap.size) pv r.power) (hn : r.name.length ≤ 1000000000) (h1 : nameS r.name = true) (h2 : inRangeS r = true) (f1 : (r.follow != 0) = true) (f2 : (r.inns == 1) = true) :
    Calls Tryz.prog 13 #[rulV r pv] w fun e w' => e = .returned (.int .i64 1) ∧ Below w.heap.size w w' := by
  obtain ⟨A, c, rfl, hc, hc2⟩ := h.shape
  have hA := RulAt.new h
  have hb0 : Below w.heap.size w (w.alloc (.cells (rulCells r (.slice A r.power.length c)) 24)) := Below.alloc (Below.refl _ _) (Nat.le_refl _) _
  have HB0 := Lib.hid hb0
  have hnm : ∀ W, Below w.heap.size w W → RulAt W w.heap.size r (.slice A r.power.length c) → Calls Tryz.prog 34 #[.string (S r.name)] W fun e W' => e = .returned (.bool (nameS r.name)) ∧ Below w.heap.size w W' ∧ RulAt W' w.heap.size r (.slice A r.power.length c) := fun W h1 h2 => by
    refine (ref_Name (S r.name) W (by simp only [S_size, maxLen]; omega)).mono ?_
    rintro e W' ⟨rfl, rfl⟩
    exact ⟨rfl, h1, h2⟩
  have HA := Lib.hid hA
  have H := Lib.hid h
  unfold rulCells at HA HB0
  have HNM := Lib.hid hnm
  clear h hA hb0 hnm
  unfold rulV rulCells
  obtain ⟨⟨a1, a2⟩, _, ⟨a3, a4⟩, _, ⟨a5, a6⟩, _⟩ := (inRangeS_iff r).1 h2
  have m1 : 0 ≤ r.quota * r.side := Int.mul_nonneg a5 (by omega)
  have m2 : r.quota * r.side ≤ 990 := by
    have := Int.mul_le_mul a6 a2 (by omega) (by omega)
    omega
  unfold inRangeS at h2
  simp only [Bool.and_eq_true] at h2
  obtain ⟨⟨⟨⟨⟨⟨⟨⟨⟨⟨e0, e1⟩, e2⟩, e3⟩, e4⟩, e5⟩, e6⟩, e7⟩, e8⟩, e9⟩, e10⟩ := h2
  go_enter Tryz.func13, Tryz.ntmps13
  go_wp2_with (first | (go_at_call 34; refine (HNM.out _ HB0.out HA.out).mono ?_; rintro e w2 ⟨rfl, hb2, hr2⟩; obtain ⟨y0, y1, y2, y3, y4, y5, y6, y7, y8, y9, y10, y11, y12, y13⟩ := hr2.cells; have HB2 := Lib.hid hb2; have HR2 := Lib.hid hr2; clear hb2 hr2) | (go_at_call 35; refine (ref_in _ _ _ _).mono ?_; rintro e w3 ⟨rfl, rfl⟩))
  go_ret
  exact ⟨rfl, HB2.out⟩
set_option maxRecDepth 100000 in
set_option maxHeartbeats 4000000 in
theorem ref_RCheck_B1 (r : Rul) (pv : Value) (w : World) (h : Sl 3 elPha w (· < w.heap.size) pv r.power) (hn : r.name.length ≤ 1000000000) (h1 : nameS r.name = true) (h2 : inRangeS r = true) (f1 : (r.follow != 0) = true) (f2 : (r.inns == 1) = false) (o1 : (r.overs == 0) = true) (q1 : (r.quota != 0) = true) :
    Calls Tryz.prog 13 #[rulV r pv] w fun e w' => e = .returned (.int .i64 1) ∧ Below w.heap.size w w' := by
  obtain ⟨A, c, rfl, hc, hc2⟩ := h.shape
  have hA := RulAt.new h
  have hb0 : Below w.heap.size w (w.alloc (.cells (rulCells r (.slice A r.power.length c)) 24)) := Below.alloc (Below.refl _ _) (Nat.le_refl _) _
  have HB0 := Lib.hid hb0
  have hnm : ∀ W, Below w.heap.size w W → RulAt W w.heap.size r (.slice A r.power.length c) → Calls Tryz.prog 34 #[.string (S r.name)] W fun e W' => e = .returned (.bool (nameS r.name)) ∧ Below w.heap.size w W' ∧ RulAt W' w.heap.size r (.slice A r.power.length c) := fun W h1 h2 => by
    refine (ref_Name (S r.name) W (by simp only [S_size, maxLen]; omega)).mono ?_
    rintro e W' ⟨rfl, rfl⟩
    exact ⟨rfl, h1, h2⟩
  have HA := Lib.hid hA
  have H := Lib.hid h
  unfold rulCells at HA HB0
  have HNM := Lib.hid hnm
  clear h hA hb0 hnm
  unfold rulV rulCells
  obtain ⟨⟨a1, a2⟩, _, ⟨a3, a4⟩, _, ⟨a5, a6⟩, _⟩ := (inRangeS_iff r).1 h2
  have m1 : 0 ≤ r.quota * r.side := Int.mul_nonneg a5 (by omega)
  have m2 : r.quota * r.side ≤ 990 := by
    have := Int.mul_le_mul a6 a2 (by omega) (by omega)
    omega
  unfold inRangeS at h2
  simp only [Bool.and_eq_true] at h2
  obtain ⟨⟨⟨⟨⟨⟨⟨⟨⟨⟨e0, e1⟩, e2⟩, e3⟩, e4⟩, e5⟩, e6⟩, e7⟩, e8⟩, e9⟩, e10⟩ := h2
  go_enter Tryz.func13, Tryz.ntmps13
  go_wp2_with (first | (go_at_call 34; refine (HNM.out _ HB0.out HA.out).mono ?_; rintro e w2 ⟨rfl, hb2, hr2⟩; obtain ⟨y0, y1, y2, y3, y4, y5, y6, y7, y8, y9, y10, y11, y12, y13⟩ := hr2.cells; have HB2 := Lib.hid hb2; have HR2 := Lib.hid hr2; clear hb2 hr2) | (go_at_call 35; refine (ref_in _ _ _ _).mono ?_; rintro e w3 ⟨rfl, rfl⟩))
  go_ret
  exact ⟨rfl, HB2.out⟩
set_option maxRecDepth 100000 in
set_option maxHeartbeats 4000000 in
theorem ref_RCheck_B2 (r : Rul) (pv : Value) (w : World) (h : Sl 3 elPha w (· < w.heap.size) pv r.power) (hn : r.name.length ≤ 1000000000) (h1 : nameS r.name = true) (h2 : inRangeS r = true) (f1 : (r.follow != 0) = true) (f2 : (r.inns == 1) = false) (o1 : (r.overs == 0) = true) (q1 : (r.quota != 0) = false) (l1 : decide (0 < r.power.length) = true) (l2 : decide ((0 : Int) < (r.power.length : Int)) = true) :
    Calls Tryz.prog 13 #[rulV r pv] w fun e w' => e = .returned (.int .i64 1) ∧ Below w.heap.size w w' := by
  obtain ⟨A, c, rfl, hc, hc2⟩ := h.shape
  have hA := RulAt.new h
  have hb0 : Below w.heap.size w (w.alloc (.cells (rulCells r (.slice A r.power.length c)) 24)) := Below.alloc (Below.refl _ _) (Nat.le_refl _) _
  have HB0 := Lib.hid hb0
  have hnm : ∀ W, Below w.heap.size w W → RulAt W w.heap.size r (.slice A r.power.length c) → Calls Tryz.prog 34 #[.string (S r.name)] W fun e W' => e = .returned (.bool (nameS r.name)) ∧ Below w.heap.size w W' ∧ RulAt W' w.heap.size r (.slice A r.power.length c) := fun W h1 h2 => by
    refine (ref_Name (S r.name) W (by simp only [S_size, maxLen]; omega)).mono ?_
    rintro e W' ⟨rfl, rfl⟩
    exact ⟨rfl, h1, h2⟩
  have HA := Lib.hid hA
  have H := Lib.hid h
  unfold rulCells at HA HB0
  have HNM := Lib.hid hnm
  clear h hA hb0 hnm
  unfold rulV rulCells
  obtain ⟨⟨a1, a2⟩, _, ⟨a3, a4⟩, _, ⟨a5, a6⟩, _⟩ := (inRangeS_iff r).1 h2
  have m1 : 0 ≤ r.quota * r.side := Int.mul_nonneg a5 (by omega)
  have m2 : r.quota * r.side ≤ 990 := by
    have := Int.mul_le_mul a6 a2 (by omega) (by omega)
    omega
  unfold inRangeS at h2
  simp only [Bool.and_eq_true] at h2
  obtain ⟨⟨⟨⟨⟨⟨⟨⟨⟨⟨e0, e1⟩, e2⟩, e3⟩, e4⟩, e5⟩, e6⟩, e7⟩, e8⟩, e9⟩, e10⟩ := h2
  go_enter Tryz.func13, Tryz.ntmps13
  go_wp2_with (first | (go_at_call 34; refine (HNM.out _ HB0.out HA.out).mono ?_; rintro e w2 ⟨rfl, hb2, hr2⟩; obtain ⟨y0, y1, y2, y3, y4, y5, y6, y7, y8, y9, y10, y11, y12, y13⟩ := hr2.cells; have HB2 := Lib.hid hb2; have HR2 := Lib.hid hr2; clear hb2 hr2) | (go_at_call 35; refine (ref_in _ _ _ _).mono ?_; rintro e w3 ⟨rfl, rfl⟩))
  go_ret
  exact ⟨rfl, HB2.out⟩
set_option maxRecDepth 100000 in
set_option maxHeartbeats 4000000 in
theorem ref_RCheck_B4 (r : Rul) (pv : Value) (w : World) (h : Sl 3 elPha w (· < w.heap.size) pv r.power) (hn : r.name.length ≤ 1000000000) (h1 : nameS r.name = true) (h2 : inRangeS r = true) (f1 : (r.follow != 0) = true) (f2 : (r.inns == 1) = false) (o1 : (r.overs == 0) = false) (q1 : (r.quota != 0) = true) (p1 : (decide (r.quota * r.side < r.overs)) = true) :
    Calls Tryz.prog 13 #[rulV r pv] w fun e w' => e = .returned (.int .i64 13) ∧ Below w.heap.size w w' := by
  obtain ⟨A, c, rfl, hc, hc2⟩ := h.shape
  have hA := RulAt.new h
  have hb0 : Below w.heap.size w (w.alloc (.cells (rulCells r (.slice A r.power.length c)) 24)) := Below.alloc (Below.refl _ _) (Nat.le_refl _) _
  have HB0 := Lib.hid hb0
  have hnm : ∀ W, Below w.heap.size w W → RulAt W w.heap.size r (.slice A r.power.length c) → Calls Tryz.prog 34 #[.string (S r.name)] W fun e W' => e = .returned (.bool (nameS r.name)) ∧ Below w.heap.size w W' ∧ RulAt W' w.heap.size r (.slice A r.power.length c) := fun W h1 h2 => by
    refine (ref_Name (S r.name) W (by simp only [S_size, maxLen]; omega)).mono ?_
    rintro e W' ⟨rfl, rfl⟩
    exact ⟨rfl, h1, h2⟩
  have HA := Lib.hid hA
  have H := Lib.hid h
  unfold rulCells at HA HB0
  have HNM := Lib.hid hnm
  clear h hA hb0 hnm
  unfold rulV rulCells
  obtain ⟨⟨a1, a2⟩, _, ⟨a3, a4⟩, _, ⟨a5, a6⟩, _⟩ := (inRangeS_iff r).1 h2
  have m1 : 0 ≤ r.quota * r.side := Int.mul_nonneg a5 (by omega)
  have m2 : r.quota * r.side ≤ 990 := by
    have := Int.mul_le_mul a6 a2 (by omega) (by omega)
    omega
  unfold inRangeS at h2
  simp only [Bool.and_eq_true] at h2
  obtain ⟨⟨⟨⟨⟨⟨⟨⟨⟨⟨e0, e1⟩, e2⟩, e3⟩, e4⟩, e5⟩, e6⟩, e7⟩, e8⟩, e9⟩, e10⟩ := h2
  go_enter Tryz.func13, Tryz.ntmps13
  go_wp2_with (first | (go_at_call 34; refine (HNM.out _ HB0.out HA.out).mono ?_; rintro e w2 ⟨rfl, hb2, hr2⟩; obtain ⟨y0, y1, y2, y3, y4, y5, y6, y7, y8, y9, y10, y11, y12, y13⟩ := hr2.cells; have HB2 := Lib.hid hb2; have HR2 := Lib.hid hr2; clear hb2 hr2) | (go_at_call 35; refine (ref_in _ _ _ _).mono ?_; rintro e w3 ⟨rfl, rfl⟩))
  go_ret
  exact ⟨rfl, HB2.out⟩
set_option maxRecDepth 100000 in
set_option maxHeartbeats 4000000 in
theorem ref_RCheck_C1 (r : Rul) (pv : Value) (w : World) (h : Sl 3 elPha w (· < w.heap.size) pv r.power) (hn : r.name.length ≤ 1000000000) (h1 : nameS r.name = true) (h2 : inRangeS r = true) (f1 : (r.follow != 0) = false) (o1 : (r.overs == 0) = true) (q1 : (r.quota != 0) = true) :
    Calls Tryz.prog 13 #[rulV r pv] w fun e w' => e = .returned (.int .i64 1) ∧ Below w.heap.size w w' := by
  obtain ⟨A, c, rfl, hc, hc2⟩ := h.shape
  have hA := RulAt.new h
  have hb0 : Below w.heap.size w (w.alloc (.cells (rulCells r (.slice A r.power.length c)) 24)) := Below.alloc (Below.refl _ _) (Nat.le_refl _) _
  have HB0 := Lib.hid hb0
  have hnm : ∀ W, Below w.heap.size w W → RulAt W w.heap.size r (.slice A r.power.length c) → Calls Tryz.prog 34 #[.string (S r.name)] W fun e W' => e = .returned (.bool (nameS r.name)) ∧ Below w.heap.size w W' ∧ RulAt W' w.heap.size r (.slice A r.power.length c) := fun W h1 h2 => by
    refine (ref_Name (S r.name) W (by simp only [S_size, maxLen]; omega)).mono ?_
    rintro e W' ⟨rfl, rfl⟩
    exact ⟨rfl, h1, h2⟩
  have HA := Lib.hid hA
  have H := Lib.hid h
  unfold rulCells at HA HB0
  have HNM := Lib.hid hnm
  clear h hA hb0 hnm
  unfold rulV rulCells
  obtain ⟨⟨a1, a2⟩, _, ⟨a3, a4⟩, _, ⟨a5, a6⟩, _⟩ := (inRangeS_iff r).1 h2
  have m1 : 0 ≤ r.quota * r.side := Int.mul_nonneg a5 (by omega)
  have m2 : r.quota * r.side ≤ 990 := by
    have := Int.mul_le_mul a6 a2 (by omega) (by omega)
    omega
  unfold inRangeS at h2
  simp only [Bool.and_eq_true] at h2
  obtain ⟨⟨⟨⟨⟨⟨⟨⟨⟨⟨e0, e1⟩, e2⟩, e3⟩, e4⟩, e5⟩, e6⟩, e7⟩, e8⟩, e9⟩, e10⟩ := h2
  go_enter Tryz.func13, Tryz.ntmps13
  go_wp2_with (first | (go_at_call 34; refine (HNM.out _ HB0.out HA.out).mono ?_; rintro e w2 ⟨rfl, hb2, hr2⟩; obtain ⟨y0, y1, y2, y3, y4, y5, y6, y7, y8, y9, y10, y11, y12, y13⟩ := hr2.cells; have HB2 := Lib.hid hb2; have HR2 := Lib.hid hr2; clear hb2 hr2) | (go_at_call 35; refine (ref_in _ _ _ _).mono ?_; rintro e w3 ⟨rfl, rfl⟩))
  go_ret
  exact ⟨rfl, HB2.out⟩
set_option maxRecDepth 100000 in
set_option maxHeartbeats 4000000 in
theorem ref_RCheck_C2 (r : Rul) (pv : Value) (w : World) (h : Sl 3 elPha w (· < w.heap.size) pv r.power) (hn : r.name.length ≤ 1000000000) (h1 : nameS r.name = true) (h2 : inRangeS r = true) (f1 : (r.follow != 0) = false) (o1 : (r.overs == 0) = true) (q1 : (r.quota != 0) = false) (l1 : decide (0 < r.power.length) = true) (l2 : decide ((0 : Int) < (r.power.length : Int)) = true) :
    Calls Tryz.prog 13 #[rulV r pv] w fun e w' => e = .returned (.int .i64 1) ∧ Below w.heap.size w w' := by
  obtain ⟨A, c, rfl, hc, hc2⟩ := h.shape
  have hA := RulAt.new h
  have hb0 : Below w.heap.size w (w.alloc (.cells (rulCells r (.slice A r.power.length c)) 24)) := Below.alloc (Below.refl _ _) (Nat.le_refl _) _
  have HB0 := Lib.hid hb0
  have hnm : ∀ W, Below w.heap.size w W → RulAt W w.heap.size r (.slice A r.power.length c) → Calls Tryz.prog 34 #[.string (S r.name)] W fun e W' => e = .returned (.bool (nameS r.name)) ∧ Below w.heap.size w W' ∧ RulAt W' w.heap.size r (.slice A r.power.length c) := fun W h1 h2 => by
    refine (ref_Name (S r.name) W (by simp only [S_size, maxLen]; omega)).mono ?_
    rintro e W' ⟨rfl, rfl⟩
    exact ⟨rfl, h1, h2⟩
  have HA := Lib.hid hA
  have H := Lib.hid h
  unfold rulCells at HA HB0
  have HNM := Lib.hid hnm
  clear h hA hb0 hnm
  unfold rulV rulCells
  obtain ⟨⟨a1, a2⟩, _, ⟨a3, a4⟩, _, ⟨a5, a6⟩, _⟩ := (inRangeS_iff r).1 h2
  have m1 : 0 ≤ r.quota * r.side := Int.mul_nonneg a5 (by omega)
  have m2 : r.quota * r.side ≤ 990 := by
    have := Int.mul_le_mul a6 a2 (by omega) (by omega)
    omega
  unfold inRangeS at h2
  simp only [Bool.and_eq_true] at h2
  obtain ⟨⟨⟨⟨⟨⟨⟨⟨⟨⟨e0, e1⟩, e2⟩, e3⟩, e4⟩, e5⟩, e6⟩, e7⟩, e8⟩, e9⟩, e10⟩ := h2
  go_enter Tryz.func13, Tryz.ntmps13
  go_wp2_with (first | (go_at_call 34; refine (HNM.out _ HB0.out HA.out).mono ?_; rintro e w2 ⟨rfl, hb2, hr2⟩; obtain ⟨y0, y1, y2, y3, y4, y5, y6, y7, y8, y9, y10, y11, y12, y13⟩ := hr2.cells; have HB2 := Lib.hid hb2; have HR2 := Lib.hid hr2; clear hb2 hr2) | (go_at_call 35; refine (ref_in _ _ _ _).mono ?_; rintro e w3 ⟨rfl, rfl⟩))
  go_ret
  exact ⟨rfl, HB2.out⟩
set_option maxRecDepth 100000 in
set_option maxHeartbeats 4000000 in
theorem ref_RCheck_C4 (r : Rul) (pv : Value) (w : World) (h : Sl 3 elPha w (· < w.heap.size) pv r.power) (hn : r.name.length ≤ 1000000000) (h1 : nameS r.name = true) (h2 : inRangeS r = true) (f1 : (r.follow != 0) = false) (o1 : (r.overs == 0) = false) (q1 : (r.quota != 0) = true) (p1 : (decide (r.quota * r.side < r.overs)) = true) :
    Calls Tryz.prog 13 #[rulV r pv] w fun e w' => e = .returned (.int .i64 13) ∧ Below w.heap.size w w' := by
  obtain ⟨A, c, rfl, hc, hc2⟩ := h.shape
  have hA := RulAt.new h
  have hb0 : Below w.heap.size w (w.alloc (.cells (rulCells r (.slice A r.power.length c)) 24)) := Below.alloc (Below.refl _ _) (Nat.le_refl _) _
  have HB0 := Lib.hid hb0
  have hnm : ∀ W, Below w.heap.size w W → RulAt W w.heap.size r (.slice A r.power.length c) → Calls Tryz.prog 34 #[.string (S r.name)] W fun e W' => e = .returned (.bool (nameS r.name)) ∧ Below w.heap.size w W' ∧ RulAt W' w.heap.size r (.slice A r.power.length c) := fun W h1 h2 => by
    refine (ref_Name (S r.name) W (by simp only [S_size, maxLen]; omega)).mono ?_
    rintro e W' ⟨rfl, rfl⟩
    exact ⟨rfl, h1, h2⟩
  have HA := Lib.hid hA
  have H := Lib.hid h
  unfold rulCells at HA HB0
  have HNM := Lib.hid hnm
  clear h hA hb0 hnm
  unfold rulV rulCells
  obtain ⟨⟨a1, a2⟩, _, ⟨a3, a4⟩, _, ⟨a5, a6⟩, _⟩ := (inRangeS_iff r).1 h2
  have m1 : 0 ≤ r.quota * r.side := Int.mul_nonneg a5 (by omega)
  have m2 : r.quota * r.side ≤ 990 := by
    have := Int.mul_le_mul a6 a2 (by omega) (by omega)
    omega
  unfold inRangeS at h2
  simp only [Bool.and_eq_true] at h2
  obtain ⟨⟨⟨⟨⟨⟨⟨⟨⟨⟨e0, e1⟩, e2⟩, e3⟩, e4⟩, e5⟩, e6⟩, e7⟩, e8⟩, e9⟩, e10⟩ := h2
  go_enter Tryz.func13, Tryz.ntmps13
  go_wp2_with (first | (go_at_call 34; refine (HNM.out _ HB0.out HA.out).mono ?_; rintro e w2 ⟨rfl, hb2, hr2⟩; obtain ⟨y0, y1, y2, y3, y4, y5, y6, y7, y8, y9, y10, y11, y12, y13⟩ := hr2.cells; have HB2 := Lib.hid hb2; have HR2 := Lib.hid hr2; clear hb2 hr2) | (go_at_call 35; refine (ref_in _ _ _ _).mono ?_; rintro e w3 ⟨rfl, rfl⟩))
  go_ret
  exact ⟨rfl, HB2.out⟩
end Go.Proofs.YtnacklbaphobbaaGreatDoor
