/- The contract of the reference's Check of rules: the other ways through. -/
import Derived.Test.YtnacklbaphobbaaGreatDoorU3
import Derived.Test.YtnacklbaphobbaaGreatDoorF0
set_option linter.unusedSimpArgs false
set_option linter.unusedVariables false
namespace Go.Proofs.YtnacklbaphobbaaGreatDoor
open Go.RowKit

set_option maxRecDepth 100000 in
set_option maxHeartbeats 4000000 in
theorem ref_RCheck_C3 (r : Rul) (pv : Value) (w : World) (h : Sl 3 elPha w (· < w.heap.size) pv r.power) (hn : r.name.length ≤ 1000000000) (h1 : nameS r.name = true) (h2 : inRangeS r = true) (f1 : (r.follow != 0) = false) (o1 : (r.overs == 0) = true) (q1 : (r.quota != 0) = false) (l1 : decide (0 < r.power.length) = false) (l2 : decide ((0 : Int) < (r.power.length : Int)) = false) :
    Calls Tryz.prog 13 #[rulV r pv] w fun e w' => e = .returned (.int .i64 (phasesS r)) ∧ Below w.heap.size w w' := by
  obtain ⟨z, hz⟩ : ∃ z, z = phasesS r := ⟨_, rfl⟩
  rw [← hz]
  unfold phasesS at hz
  obtain ⟨A, c, rfl, hc, hc2⟩ := h.shape
  have hA := RulAt.new h
  have hb0 : Below w.heap.size w (w.alloc (.cells (rulCells r (.slice A r.power.length c)) 24)) := Below.alloc (Below.refl _ _) (Nat.le_refl _) _
  have HB0 := Lib.hid hb0
  have hnm : ∀ W, Below w.heap.size w W → RulAt W w.heap.size r (.slice A r.power.length c) → Calls Tryz.prog 34 #[.string (S r.name)] W fun e W' => e = .returned (.bool (nameS r.name)) ∧ Below w.heap.size w W' ∧ RulAt W' w.heap.size r (.slice A r.power.length c) := fun W h1 h2 => by
    refine (ref_Name (S r.name) W (by simp only [S_size, maxLen]; omega)).mono ?_
    rintro e W' ⟨rfl, rfl⟩
    exact ⟨rfl, h1, h2⟩
  have HA := Lib.hid hA
  have H := Lib.hid h
  unfold rulCells at HA HB0
  have HNM := Lib.hid hnm
  clear h hA hb0 hnm
  unfold rulV rulCells
  obtain ⟨⟨a1, a2⟩, _, ⟨a3, a4⟩, _, ⟨a5, a6⟩, _⟩ := (inRangeS_iff r).1 h2
  have m1 : 0 ≤ r.quota * r.side := Int.mul_nonneg a5 (by omega)
  have m2 : r.quota * r.side ≤ 990 := by
    have := Int.mul_le_mul a6 a2 (by omega) (by omega)
    omega
  unfold inRangeS at h2
  simp only [Bool.and_eq_true] at h2
  obtain ⟨⟨⟨⟨⟨⟨⟨⟨⟨⟨e0, e1⟩, e2⟩, e3⟩, e4⟩, e5⟩, e6⟩, e7⟩, e8⟩, e9⟩, e10⟩ := h2
  by_cases h8 : 8 < r.power.length
  · rw [if_pos h8] at hz
    have HZ := Lib.hid hz
    have h8' : (8 : Int) < (r.power.length : Int) := by omega
    clear hz
    as_aux_lemma =>
      go_enter Tryz.func13, Tryz.ntmps13
      go_wp2_with (first | (go_at_call 34; refine (HNM.out _ HB0.out HA.out).mono ?_; rintro e w2 ⟨rfl, hb2, hr2⟩; obtain ⟨y0, y1, y2, y3, y4, y5, y6, y7, y8, y9, y10, y11, y12, y13⟩ := hr2.cells; have HB2 := Lib.hid hb2; have HR2 := Lib.hid hr2; clear hb2 hr2) | (go_at_call 35; refine (ref_in _ _ _ _).mono ?_; rintro e w3 ⟨rfl, rfl⟩))
      go_ret
      exact ⟨ret_i HZ.out.symm, HB2.out⟩
  · rw [if_neg h8] at hz
    have h8' : (r.power.length : Int) ≤ 8 := by omega
    have HZ := Lib.hid hz
    clear hz
    go_enter Tryz.func13, Tryz.ntmps13
    go_wp2_with (first | (go_at_call 34; refine (HNM.out _ HB0.out HA.out).mono ?_; rintro e w2 ⟨rfl, hb2, hr2⟩; obtain ⟨y0, y1, y2, y3, y4, y5, y6, y7, y8, y9, y10, y11, y12, y13⟩ := hr2.cells; have HB2 := Lib.hid hb2; have HR2 := Lib.hid hr2; clear hb2 hr2) | (go_at_call 35; refine (ref_in _ _ _ _).mono ?_; rintro e w3 ⟨rfl, rfl⟩))
    clear f1 o1 q1 l1 l2 e0 e1 e2 e3 e4 e5 e6 e7 e8 e9 e10 h1 m1 m2 a1 a2 a3 a4 a5 a6 y0 y1 y2 y3 y4 y5 y6 y7 y8 y9 y10 y11 y12 y13
    go_loopw [117] (fun i wr => ∃ k : Nat, k ≤ r.power.length ∧ i = .int .i64 k ∧ Below w.heap.size w wr ∧ RulAt wr w.heap.size r (.slice A r.power.length c) ∧ Hid (z = phasesF r.overs (r.power.drop k) (prevP r.power k)))
      (fun i _ => r.power.length - (intOf i).toNat)
    case atStart => exact ⟨0, Nat.zero_le _, rfl, HB2.out, HR2.out, HZ.out⟩
    case round =>
      obtain ⟨k, hk, rfl, hb, ha, hzz⟩ := hrel
      have HB := Lib.hid hb
      have HAA := Lib.hid ha
      by_cases hlt : k < r.power.length
      · obtain ⟨b, o, rfl, hbl, y0, y1, y2⟩ := pha_at ha.sl hlt
        have hzz' := hzz.out
        rw [phasesF_at hlt] at hzz'
        obtain ⟨⟨pf, pt, po⟩, hp⟩ : ∃ p, p = r.power[k] := ⟨_, rfl⟩
        rw [← hp] at y0 y1 y2 hzz'
        have hkb := ha.blk
        have hg := hkb.lt
        unfold rulCells at hkb
        have x3 := hkb.cell 3
        have x13 := hkb.cell 13
        simp only [List.getElem?_toArray, List.getElem?_cons_zero, List.getElem?_cons_succ] at x3 x13
        have HP := Lib.hid hp
        rcases phaB_ways r.overs ⟨pf, pt, po⟩ with ⟨hB, hw⟩ | ⟨hB, e1, e2, e3, e4⟩
        · have hz2 : z = 2 := by rw [hzz', phaErr_two hB]; rfl
          have HZZ := Lib.hid hz2
          clear hb ha hzz hzz' hkb hp hz2 hB
          rcases hw with e1 | ⟨e1, e2⟩ | ⟨e1, e2, e3⟩ | ⟨e1, e2, e3, e4⟩
          all_goals
            dsimp only at *
            go_wp2_with (go_at_call 35; refine (ref_in _ _ _ _).mono ?_; rintro e w2 ⟨rfl, rfl⟩)
            go_ret
            exact ⟨ret_i HZZ.out.symm, Below.alloc HB.out HB.out.size _⟩
        · dsimp only at e1 e2 e3 e4
          by_cases hk0 : k = 0
          · have hz2 : z = phasesF r.overs (r.power.drop (k + 1)) (prevP r.power (k + 1)) := by
              rw [hzz', hk0, prevP_zero, phaErr_none hB]; rfl
            have HZZ := Lib.hid hz2
            have g1 : decide ((0 : Int) < (k : Int)) = false := decide_eq_false (by omega)
            have g2 : decide (0 < k) = false := decide_eq_false (by omega)
            clear hb ha hzz hzz' hkb hp hz2 hB hk0
            go_wp2_with (go_at_call 35; refine (ref_in _ _ _ _).mono ?_; rintro e w2 ⟨rfl, rfl⟩)
            go_quiet (fail)
            go_wp2
            go_roundw
            case rel => exact ⟨k + 1, by omega, by go_num, Below.drewN_ (Below.alloc HB.out HB.out.size _) _, HAA.out.below (Below.drewN_ (Below.alloc (Below.refl _ _) (Nat.le_refl _) _) _), HZZ.out⟩
            case measure => simp [intOf]; omega
          · obtain ⟨b', o', hbo, hbl', q0, q1, q2⟩ := pha_at ha.sl (k := k - 1) (by omega)
            simp only [Option.some.injEq, Addr.mk.injEq] at hbo
            obtain ⟨rfl, rfl, _⟩ := hbo
            obtain ⟨x, hx⟩ : ∃ x, x = r.power[k - 1]'(by omega) := ⟨_, rfl⟩
            have hz2 : z = if (if pf ≤ x.til then (8 : Int) else 0) ≠ 0 then (if pf ≤ x.til then (8 : Int) else 0) else phasesF r.overs (r.power.drop (k + 1)) (prevP r.power (k + 1)) := by
              rw [hzz', prevP_succ hk0 (by omega), phaErr_some hB, ← hx]
            rw [← hx] at q0 q1 q2
            have g1 : decide ((0 : Int) < (k : Int)) = true := decide_eq_true (by omega)
            have g2 : decide (0 < k) = true := decide_eq_true (by omega)
            have s1 : IntKind.i64.wrap ((k : Int) - 1) = (k : Int) - 1 := IntWalk.i64_in _ (by omega)
            have s2 : (0 : Int) ≤ (k : Int) - 1 := by omega
            have s3 : ((k : Int) - 1).toNat = k - 1 := by omega
            have s4 : (k : Int) - 1 < (r.power.length : Int) := by omega
            by_cases hle : pf ≤ x.til
            · rw [if_pos hle, if_pos (by decide)] at hz2
              have HZZ := Lib.hid hz2
              have g3 : decide (pf ≤ x.til) = true := decide_eq_true hle
              clear hb ha hzz hzz' hkb hp hz2 hB hk0 hx
              go_wp2_with (go_at_call 35; refine (ref_in _ _ _ _).mono ?_; rintro e w2 ⟨rfl, rfl⟩)
              go_quiet (fail)
              go_wp2
              go_ret
              exact ⟨ret_i HZZ.out.symm, Below.drewN_ (Below.alloc HB.out HB.out.size _) _⟩
            · rw [if_neg hle, if_neg (by decide)] at hz2
              have HZZ := Lib.hid hz2
              have g3 : decide (pf ≤ x.til) = false := decide_eq_false hle
              clear hb ha hzz hzz' hkb hp hz2 hB hk0 hx
              go_wp2_with (go_at_call 35; refine (ref_in _ _ _ _).mono ?_; rintro e w2 ⟨rfl, rfl⟩)
              go_quiet (fail)
              go_wp2
              go_roundw
              case rel => exact ⟨k + 1, by omega, by go_num, Below.drewN_ (Below.alloc HB.out HB.out.size _) _, HAA.out.below (Below.drewN_ (Below.alloc (Below.refl _ _) (Nat.le_refl _) _) _), HZZ.out⟩
              case measure => simp [intOf]; omega
      · obtain rfl : k = r.power.length := by omega
        have hzz' := hzz.out
        rw [phasesF_end (Nat.le_refl _)] at hzz'
        have HZZ := Lib.hid hzz'
        clear hb ha hzz hzz'
        go_wp2
        go_ret
        exact ⟨ret_i HZZ.out.symm, HB.out⟩
set_option maxRecDepth 100000 in
set_option maxHeartbeats 4000000 in
theorem ref_RCheck_C5 (r : Rul) (pv : Value) (w : World) (h : Sl 3 elPha w (· < w.heap.size) pv r.power) (hn : r.name.length ≤ 1000000000) (h1 : nameS r.name = true) (h2 : inRangeS r = true) (f1 : (r.follow != 0) = false) (o1 : (r.overs == 0) = false) (q1 : (r.quota != 0) = true) (p1 : (decide (r.quota * r.side < r.overs)) = false) :
    Calls Tryz.prog 13 #[rulV r pv] w fun e w' => e = .returned (.int .i64 (phasesS r)) ∧ Below w.heap.size w w' := by
  obtain ⟨z, hz⟩ : ∃ z, z = phasesS r := ⟨_, rfl⟩
  rw [← hz]
  unfold phasesS at hz
  obtain ⟨A, c, rfl, hc, hc2⟩ := h.shape
  have hA := RulAt.new h
  have hb0 : Below w.heap.size w (w.alloc (.cells (rulCells r (.slice A r.power.length c)) 24)) := Below.alloc (Below.refl _ _) (Nat.le_refl _) _
  have HB0 := Lib.hid hb0
  have hnm : ∀ W, Below w.heap.size w W → RulAt W w.heap.size r (.slice A r.power.length c) → Calls Tryz.prog 34 #[.string (S r.name)] W fun e W' => e = .returned (.bool (nameS r.name)) ∧ Below w.heap.size w W' ∧ RulAt W' w.heap.size r (.slice A r.power.length c) := fun W h1 h2 => by
    refine (ref_Name (S r.name) W (by simp only [S_size, maxLen]; omega)).mono ?_
    rintro e W' ⟨rfl, rfl⟩
    exact ⟨rfl, h1, h2⟩
  have HA := Lib.hid hA
  have H := Lib.hid h
  unfold rulCells at HA HB0
  have HNM := Lib.hid hnm
  clear h hA hb0 hnm
  unfold rulV rulCells
  obtain ⟨⟨a1, a2⟩, _, ⟨a3, a4⟩, _, ⟨a5, a6⟩, _⟩ := (inRangeS_iff r).1 h2
  have m1 : 0 ≤ r.quota * r.side := Int.mul_nonneg a5 (by omega)
  have m2 : r.quota * r.side ≤ 990 := by
    have := Int.mul_le_mul a6 a2 (by omega) (by omega)
    omega
  unfold inRangeS at h2
  simp only [Bool.and_eq_true] at h2
  obtain ⟨⟨⟨⟨⟨⟨⟨⟨⟨⟨e0, e1⟩, e2⟩, e3⟩, e4⟩, e5⟩, e6⟩, e7⟩, e8⟩, e9⟩, e10⟩ := h2
  by_cases h8 : 8 < r.power.length
  · rw [if_pos h8] at hz
    have HZ := Lib.hid hz
    have h8' : (8 : Int) < (r.power.length : Int) := by omega
    clear hz
    as_aux_lemma =>
      go_enter Tryz.func13, Tryz.ntmps13
      go_wp2_with (first | (go_at_call 34; refine (HNM.out _ HB0.out HA.out).mono ?_; rintro e w2 ⟨rfl, hb2, hr2⟩; obtain ⟨y0, y1, y2, y3, y4, y5, y6, y7, y8, y9, y10, y11, y12, y13⟩ := hr2.cells; have HB2 := Lib.hid hb2; have HR2 := Lib.hid hr2; clear hb2 hr2) | (go_at_call 35; refine (ref_in _ _ _ _).mono ?_; rintro e w3 ⟨rfl, rfl⟩))
      go_ret
      exact ⟨ret_i HZ.out.symm, HB2.out⟩
  · rw [if_neg h8] at hz
    have h8' : (r.power.length : Int) ≤ 8 := by omega
    have HZ := Lib.hid hz
    clear hz
    go_enter Tryz.func13, Tryz.ntmps13
    go_wp2_with (first | (go_at_call 34; refine (HNM.out _ HB0.out HA.out).mono ?_; rintro e w2 ⟨rfl, hb2, hr2⟩; obtain ⟨y0, y1, y2, y3, y4, y5, y6, y7, y8, y9, y10, y11, y12, y13⟩ := hr2.cells; have HB2 := Lib.hid hb2; have HR2 := Lib.hid hr2; clear hb2 hr2) | (go_at_call 35; refine (ref_in _ _ _ _).mono ?_; rintro e w3 ⟨rfl, rfl⟩))
    clear f1 o1 q1 p1 e0 e1 e2 e3 e4 e5 e6 e7 e8 e9 e10 h1 m1 m2 a1 a2 a3 a4 a5 a6 y0 y1 y2 y3 y4 y5 y6 y7 y8 y9 y10 y11 y12 y13
    go_loopw [117] (fun i wr => ∃ k : Nat, k ≤ r.power.length ∧ i = .int .i64 k ∧ Below w.heap.size w wr ∧ RulAt wr w.heap.size r (.slice A r.power.length c) ∧ Hid (z = phasesF r.overs (r.power.drop k) (prevP r.power k)))
      (fun i _ => r.power.length - (intOf i).toNat)
    case atStart => exact ⟨0, Nat.zero_le _, rfl, HB2.out, HR2.out, HZ.out⟩
    case round =>
      obtain ⟨k, hk, rfl, hb, ha, hzz⟩ := hrel
      have HB := Lib.hid hb
      have HAA := Lib.hid ha
      by_cases hlt : k < r.power.length
      · obtain ⟨b, o, rfl, hbl, y0, y1, y2⟩ := pha_at ha.sl hlt
        have hzz' := hzz.out
        rw [phasesF_at hlt] at hzz'
        obtain ⟨⟨pf, pt, po⟩, hp⟩ : ∃ p, p = r.power[k] := ⟨_, rfl⟩
        rw [← hp] at y0 y1 y2 hzz'
        have hkb := ha.blk
        have hg := hkb.lt
        unfold rulCells at hkb
        have x3 := hkb.cell 3
        have x13 := hkb.cell 13
        simp only [List.getElem?_toArray, List.getElem?_cons_zero, List.getElem?_cons_succ] at x3 x13
        have HP := Lib.hid hp
        rcases phaB_ways r.overs ⟨pf, pt, po⟩ with ⟨hB, hw⟩ | ⟨hB, e1, e2, e3, e4⟩
        · have hz2 : z = 2 := by rw [hzz', phaErr_two hB]; rfl
          have HZZ := Lib.hid hz2
          clear hb ha hzz hzz' hkb hp hz2 hB
          rcases hw with e1 | ⟨e1, e2⟩ | ⟨e1, e2, e3⟩ | ⟨e1, e2, e3, e4⟩
          all_goals
            dsimp only at *
            go_wp2_with (go_at_call 35; refine (ref_in _ _ _ _).mono ?_; rintro e w2 ⟨rfl, rfl⟩)
            go_ret
            exact ⟨ret_i HZZ.out.symm, Below.alloc HB.out HB.out.size _⟩
        · dsimp only at e1 e2 e3 e4
          by_cases hk0 : k = 0
          · have hz2 : z = phasesF r.overs (r.power.drop (k + 1)) (prevP r.power (k + 1)) := by
              rw [hzz', hk0, prevP_zero, phaErr_none hB]; rfl
            have HZZ := Lib.hid hz2
            have g1 : decide ((0 : Int) < (k : Int)) = false := decide_eq_false (by omega)
            have g2 : decide (0 < k) = false := decide_eq_false (by omega)
            clear hb ha hzz hzz' hkb hp hz2 hB hk0
            go_wp2_with (go_at_call 35; refine (ref_in _ _ _ _).mono ?_; rintro e w2 ⟨rfl, rfl⟩)
            go_quiet (fail)
            go_wp2
            go_roundw
            case rel => exact ⟨k + 1, by omega, by go_num, Below.drewN_ (Below.alloc HB.out HB.out.size _) _, HAA.out.below (Below.drewN_ (Below.alloc (Below.refl _ _) (Nat.le_refl _) _) _), HZZ.out⟩
            case measure => simp [intOf]; omega
          · obtain ⟨b', o', hbo, hbl', q0, q1, q2⟩ := pha_at ha.sl (k := k - 1) (by omega)
            simp only [Option.some.injEq, Addr.mk.injEq] at hbo
            obtain ⟨rfl, rfl, _⟩ := hbo
            obtain ⟨x, hx⟩ : ∃ x, x = r.power[k - 1]'(by omega) := ⟨_, rfl⟩
            have hz2 : z = if (if pf ≤ x.til then (8 : Int) else 0) ≠ 0 then (if pf ≤ x.til then (8 : Int) else 0) else phasesF r.overs (r.power.drop (k + 1)) (prevP r.power (k + 1)) := by
              rw [hzz', prevP_succ hk0 (by omega), phaErr_some hB, ← hx]
            rw [← hx] at q0 q1 q2
            have g1 : decide ((0 : Int) < (k : Int)) = true := decide_eq_true (by omega)
            have g2 : decide (0 < k) = true := decide_eq_true (by omega)
            have s1 : IntKind.i64.wrap ((k : Int) - 1) = (k : Int) - 1 := IntWalk.i64_in _ (by omega)
            have s2 : (0 : Int) ≤ (k : Int) - 1 := by omega
            have s3 : ((k : Int) - 1).toNat = k - 1 := by omega
            have s4 : (k : Int) - 1 < (r.power.length : Int) := by omega
            by_cases hle : pf ≤ x.til
            · rw [if_pos hle, if_pos (by decide)] at hz2
              have HZZ := Lib.hid hz2
              have g3 : decide (pf ≤ x.til) = true := decide_eq_true hle
              clear hb ha hzz hzz' hkb hp hz2 hB hk0 hx
              go_wp2_with (go_at_call 35; refine (ref_in _ _ _ _).mono ?_; rintro e w2 ⟨rfl, rfl⟩)
              go_quiet (fail)
              go_wp2
              go_ret
              exact ⟨ret_i HZZ.out.symm, Below.drewN_ (Below.alloc HB.out HB.out.size _) _⟩
            · rw [if_neg hle, if_neg (by decide)] at hz2
              have HZZ := Lib.hid hz2
              have g3 : decide (pf ≤ x.til) = false := decide_eq_false hle
              clear hb ha hzz hzz' hkb hp hz2 hB hk0 hx
              go_wp2_with (go_at_call 35; refine (ref_in _ _ _ _).mono ?_; rintro e w2 ⟨rfl, rfl⟩)
              go_quiet (fail)
              go_wp2
              go_roundw
              case rel => exact ⟨k + 1, by omega, by go_num, Below.drewN_ (Below.alloc HB.out HB.out.size _) _, HAA.out.below (Below.drewN_ (Below.alloc (Below.refl _ _) (Nat.le_refl _) _) _), HZZ.out⟩
              case measure => simp [intOf]; omega
      · obtain rfl : k = r.power.length := by omega
        have hzz' := hzz.out
        rw [phasesF_end (Nat.le_refl _)] at hzz'
        have HZZ := Lib.hid hzz'
        clear hb ha hzz hzz'
        go_wp2
        go_ret
        exact ⟨ret_i HZZ.out.symm, HB.out⟩
set_option maxRecDepth 100000 in
set_option maxHeartbeats 4000000 in
theorem ref_RCheck_C6 (r : Rul) (pv : Value) (w : World) (h : Sl 3 elPha w (· < w.heap.size) pv r.power) (hn : r.name.length ≤ 1000000000) (h1 : nameS r.name = true) (h2 : inRangeS r = true) (f1 : (r.follow != 0) = false) (o1 : (r.overs == 0) = false) (q1 : (r.quota != 0) = false) :
    Calls Tryz.prog 13 #[rulV r pv] w fun e w' => e = .returned (.int .i64 (phasesS r)) ∧ Below w.heap.size w w' := by
  obtain ⟨z, hz⟩ : ∃ z, z = phasesS r := ⟨_, rfl⟩
  rw [← hz]
  unfold phasesS at hz
  obtain ⟨A, c, rfl, hc, hc2⟩ := h.shape
  have hA := RulAt.new h
  have hb0 : Below w.heap.size w (w.alloc (.cells (rulCells r (.slice A r.power.length c)) 24)) := Below.alloc (Below.refl _ _) (Nat.le_refl _) _
  have HB0 := Lib.hid hb0
  have hnm : ∀ W, Below w.heap.size w W → RulAt W w.heap.size r (.slice A r.power.length c) → Calls Tryz.prog 34 #[.string (S r.name)] W fun e W' => e = .returned (.bool (nameS r.name)) ∧ Below w.heap.size w W' ∧ RulAt W' w.heap.size r (.slice A r.power.length c) := fun W h1 h2 => by
    refine (ref_Name (S r.name) W (by simp only [S_size, maxLen]; omega)).mono ?_
    rintro e W' ⟨rfl, rfl⟩
    exact ⟨rfl, h1, h2⟩
  have HA := Lib.hid hA
  have H := Lib.hid h
  unfold rulCells at HA HB0
  have HNM := Lib.hid hnm
  clear h hA hb0 hnm
  unfold rulV rulCells
  obtain ⟨⟨a1, a2⟩, _, ⟨a3, a4⟩, _, ⟨a5, a6⟩, _⟩ := (inRangeS_iff r).1 h2
  have m1 : 0 ≤ r.quota * r.side := Int.mul_nonneg a5 (by omega)
  have m2 : r.quota * r.side ≤ 990 := by
    have := Int.mul_le_mul a6 a2 (by omega) (by omega)
    omega
  unfold inRangeS at h2
  simp only [Bool.and_eq_true] at h2
  obtain ⟨⟨⟨⟨⟨⟨⟨⟨⟨⟨e0, e1⟩, e2⟩, e3⟩, e4⟩, e5⟩, e6⟩, e7⟩, e8⟩, e9⟩, e10⟩ := h2
  by_cases h8 : 8 < r.power.length
  · rw [if_pos h8] at hz
    have HZ := Lib.hid hz
    have h8' : (8 : Int) < (r.power.length : Int) := by omega
    clear hz
    as_aux_lemma =>
      go_enter Tryz.func13, Tryz.ntmps13
      go_wp2_with (first | (go_at_call 34; refine (HNM.out _ HB0.out HA.out).mono ?_; rintro e w2 ⟨rfl, hb2, hr2⟩; obtain ⟨y0, y1, y2, y3, y4, y5, y6, y7, y8, y9, y10, y11, y12, y13⟩ := hr2.cells; have HB2 := Lib.hid hb2; have HR2 := Lib.hid hr2; clear hb2 hr2) | (go_at_call 35; refine (ref_in _ _ _ _).mono ?_; rintro e w3 ⟨rfl, rfl⟩))
      go_ret
      exact ⟨ret_i HZ.out.symm, HB2.out⟩
  · rw [if_neg h8] at hz
    have h8' : (r.power.length : Int) ≤ 8 := by omega
    have HZ := Lib.hid hz
    clear hz
    go_enter Tryz.func13, Tryz.ntmps13
    go_wp2_with (first | (go_at_call 34; refine (HNM.out _ HB0.out HA.out).mono ?_; rintro e w2 ⟨rfl, hb2, hr2⟩; obtain ⟨y0, y1, y2, y3, y4, y5, y6, y7, y8, y9, y10, y11, y12, y13⟩ := hr2.cells; have HB2 := Lib.hid hb2; have HR2 := Lib.hid hr2; clear hb2 hr2) | (go_at_call 35; refine (ref_in _ _ _ _).mono ?_; rintro e w3 ⟨rfl, rfl⟩))
    clear f1 o1 q1 e0 e1 e2 e3 e4 e5 e6 e7 e8 e9 e10 h1 m1 m2 a1 a2 a3 a4 a5 a6 y0 y1 y2 y3 y4 y5 y6 y7 y8 y9 y10 y11 y12 y13
    go_loopw [117] (fun i wr => ∃ k : Nat, k ≤ r.power.length ∧ i = .int .i64 k ∧ Below w.heap.size w wr ∧ RulAt wr w.heap.size r (.slice A r.power.length c) ∧ Hid (z = phasesF r.overs (r.power.drop k) (prevP r.power k)))
      (fun i _ => r.power.length - (intOf i).toNat)
    case atStart => exact ⟨0, Nat.zero_le _, rfl, HB2.out, HR2.out, HZ.out⟩
    case round =>
      obtain ⟨k, hk, rfl, hb, ha, hzz⟩ := hrel
      have HB := Lib.hid hb
      have HAA := Lib.hid ha
      by_cases hlt : k < r.power.length
      · obtain ⟨b, o, rfl, hbl, y0, y1, y2⟩ := pha_at ha.sl hlt
        have hzz' := hzz.out
        rw [phasesF_at hlt] at hzz'
        obtain ⟨⟨pf, pt, po⟩, hp⟩ : ∃ p, p = r.power[k] := ⟨_, rfl⟩
        rw [← hp] at y0 y1 y2 hzz'
        have hkb := ha.blk
        have hg := hkb.lt
        unfold rulCells at hkb
        have x3 := hkb.cell 3
        have x13 := hkb.cell 13
        simp only [List.getElem?_toArray, List.getElem?_cons_zero, List.getElem?_cons_succ] at x3 x13
        have HP := Lib.hid hp
        rcases phaB_ways r.overs ⟨pf, pt, po⟩ with ⟨hB, hw⟩ | ⟨hB, e1, e2, e3, e4⟩
        · have hz2 : z = 2 := by rw [hzz', phaErr_two hB]; rfl
          have HZZ := Lib.hid hz2
          clear hb ha hzz hzz' hkb hp hz2 hB
          rcases hw with e1 | ⟨e1, e2⟩ | ⟨e1, e2, e3⟩ | ⟨e1, e2, e3, e4⟩
          all_goals
            dsimp only at *
            go_wp2_with (go_at_call 35; refine (ref_in _ _ _ _).mono ?_; rintro e w2 ⟨rfl, rfl⟩)
            go_ret
            exact ⟨ret_i HZZ.out.symm, Below.alloc HB.out HB.out.size _⟩
        · dsimp only at e1 e2 e3 e4
          by_cases hk0 : k = 0
          · have hz2 : z = phasesF r.overs (r.power.drop (k + 1)) (prevP r.power (k + 1)) := by
              rw [hzz', hk0, prevP_zero, phaErr_none hB]; rfl
            have HZZ := Lib.hid hz2
            have g1 : decide ((0 : Int) < (k : Int)) = false := decide_eq_false (by omega)
            have g2 : decide (0 < k) = false := decide_eq_false (by omega)
            clear hb ha hzz hzz' hkb hp hz2 hB hk0
            go_wp2_with (go_at_call 35; refine (ref_in _ _ _ _).mono ?_; rintro e w2 ⟨rfl, rfl⟩)
            go_quiet (fail)
            go_wp2
            go_roundw
            case rel => exact ⟨k + 1, by omega, by go_num, Below.drewN_ (Below.alloc HB.out HB.out.size _) _, HAA.out.below (Below.drewN_ (Below.alloc (Below.refl _ _) (Nat.le_refl _) _) _), HZZ.out⟩
            case measure => simp [intOf]; omega
          · obtain ⟨b', o', hbo, hbl', q0, q1, q2⟩ := pha_at ha.sl (k := k - 1) (by omega)
            simp only [Option.some.injEq, Addr.mk.injEq] at hbo
            obtain ⟨rfl, rfl, _⟩ := hbo
            obtain ⟨x, hx⟩ : ∃ x, x = r.power[k - 1]'(by omega) := ⟨_, rfl⟩
            have hz2 : z = if (if pf ≤ x.til then (8 : Int) else 0) ≠ 0 then (if pf ≤ x.til then (8 : Int) else 0) else phasesF r.overs (r.power.drop (k + 1)) (prevP r.power (k + 1)) := by
              rw [hzz', prevP_succ hk0 (by omega), phaErr_some hB, ← hx]
            rw [← hx] at q0 q1 q2
            have g1 : decide ((0 : Int) < (k : Int)) = true := decide_eq_true (by omega)
            have g2 : decide (0 < k) = true := decide_eq_true (by omega)
            have s1 : IntKind.i64.wrap ((k : Int) - 1) = (k : Int) - 1 := IntWalk.i64_in _ (by omega)
            have s2 : (0 : Int) ≤ (k : Int) - 1 := by omega
            have s3 : ((k : Int) - 1).toNat = k - 1 := by omega
            have s4 : (k : Int) - 1 < (r.power.length : Int) := by omega
            by_cases hle : pf ≤ x.til
            · rw [if_pos hle, if_pos (by decide)] at hz2
              have HZZ := Lib.hid hz2
              have g3 : decide (pf ≤ x.til) = true := decide_eq_true hle
              clear hb ha hzz hzz' hkb hp hz2 hB hk0 hx
              go_wp2_with (go_at_call 35; refine (ref_in _ _ _ _).mono ?_; rintro e w2 ⟨rfl, rfl⟩)
              go_quiet (fail)
              go_wp2
              go_ret
              exact ⟨ret_i HZZ.out.symm, Below.drewN_ (Below.alloc HB.out HB.out.size _) _⟩
            · rw [if_neg hle, if_neg (by decide)] at hz2
              have HZZ := Lib.hid hz2
              have g3 : decide (pf ≤ x.til) = false := decide_eq_false hle
              clear hb ha hzz hzz' hkb hp hz2 hB hk0 hx
              go_wp2_with (go_at_call 35; refine (ref_in _ _ _ _).mono ?_; rintro e w2 ⟨rfl, rfl⟩)
              go_quiet (fail)
              go_wp2
              go_roundw
              case rel => exact ⟨k + 1, by omega, by go_num, Below.drewN_ (Below.alloc HB.out HB.out.size _) _, HAA.out.below (Below.drewN_ (Below.alloc (Below.refl _ _) (Nat.le_refl _) _) _), HZZ.out⟩
              case measure => simp [intOf]; omega
      · obtain rfl : k = r.power.length := by omega
        have hzz' := hzz.out
        rw [phasesF_end (Nat.le_refl _)] at hzz'
        have HZZ := Lib.hid hzz'
        clear hb ha hzz hzz'
        go_wp2
        go_ret
        exact ⟨ret_i HZZ.out.symm, HB.out⟩
end Go.Proofs.YtnacklbaphobbaaGreatDoor
