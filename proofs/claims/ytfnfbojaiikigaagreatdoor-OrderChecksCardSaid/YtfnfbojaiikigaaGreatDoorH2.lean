/- The contracts of chance.Check and of the reference's Check. No conditions but that the distribution can be read. -/
import Derived.Test.YtfnfbojaiikigaaGreatDoorH1
set_option linter.unusedSimpArgs false
set_option linter.unusedVariables false
namespace Go.Proofs.YtfnfbojaiikigaaGreatDoor
open Go.RowKit

theorem befB_neg (a b : Otc) : decide (0 ≤ ordS a b) = !befB a b := by
  unfold befB
  by_cases h : ordS a b < 0
  · rw [decide_eq_true h, decide_eq_false (by omega)]; rfl
  · rw [decide_eq_false h, decide_eq_true (by omega)]; rfl
theorem Blk.of_alloc {w : World} {t : TypeId} {cs : Array Value} {g : Nat} (hg : g = w.heap.size) : Blk (w.alloc (.cells cs t)) g t cs := by rw [hg]; exact Blk.new w t cs

set_option maxRecDepth 100000 in
set_option maxHeartbeats 2000000 in
theorem ch_Check (d : List Otc) (v : Value) (w : World) (h : Sl 3 elOtc w (· < w.heap.size) v d) : Calls Tryz.prog 83 #[v] w fun e w' => e = .returned (.int .i64 (checkD d)) ∧ Below w.heap.size w w' := by
  obtain ⟨z, hz⟩ : ∃ z, z = checkD d := ⟨_, rfl⟩
  rw [← hz]
  unfold checkD at hz
  obtain ⟨A, c, rfl, hc, hc2⟩ := h.shape
  by_cases h0 : d.length = 0
  · rw [if_pos h0] at hz
    have HZ := Lib.hid hz
    clear hz h
    go_enter Tryz.func83, Tryz.ntmps83
    have e0 : ((d.length : Int) == 0) = true := by rw [h0]; rfl
    clear h0
    go_wp2
    go_ret
    exact ⟨ret_i HZ.out.symm, Below.refl _ _⟩
  · rw [if_neg h0] at hz
    have e0 : ((d.length : Int) == 0) = false := by rw [beq_eq_false_iff_ne]; omega
    by_cases h16 : 16 < d.length
    · rw [if_pos h16] at hz
      have HZ := Lib.hid hz
      have h16' : (16 : Int) < (d.length : Int) := by omega
      clear hz h h0
      go_enter Tryz.func83, Tryz.ntmps83
      go_wp2
      go_ret
      exact ⟨ret_i HZ.out.symm, Below.refl _ _⟩
    · rw [if_neg h16] at hz
      have h16' : (d.length : Int) ≤ 16 := by omega
      have HZ := Lib.hid hz
      have H := Lib.hid h
      clear hz h h0 h16
      go_enter Tryz.func83, Tryz.ntmps83
      go_wp2
      go_loopw [3, 16] (fun sv i wr => ∃ (k : Nat) (s : Int), k ≤ d.length ∧ i = .int .i64 k ∧ sv = .int .i64 s ∧ 0 ≤ s ∧ s ≤ 16 * k ∧ Below w.heap.size w wr ∧ Hid (z = otcsF (prevO d k) s (d.drop k)))
        (fun _ i _ => d.length - (intOf i).toNat)
      case atStart => exact ⟨0, 0, Nat.zero_le _, rfl, rfl, by omega, by omega, Below.refl _ _, HZ.out⟩
      case round =>
        obtain ⟨k, s, hk, rfl, rfl, hs0, hs1, hb, hzz⟩ := hrel
        have HB := Lib.hid hb
        by_cases hlt : k < d.length
        · obtain ⟨b, o, rfl, hbl, y0', y1', y2'⟩ := otc_at H.out hlt
          have hzz' := hzz.out
          rw [otcsF_at s hlt] at hzz'
          obtain ⟨⟨pr, pw, pt⟩, hp⟩ : ∃ p, p = d[k] := ⟨_, rfl⟩
          rw [← hp] at y0' y1' y2' hzz'
          have y0 := (hb.cell (p := ⟨b, o + k * 3, none⟩) hbl).trans y0'
          have y1 := (hb.cell (p := ⟨b, o + k * 3 + 1, none⟩) hbl).trans y1'
          have y2 := (hb.cell (p := ⟨b, o + k * 3 + 2, none⟩) hbl).trans y2'
          dsimp only at y0 y1 y2
          clear y0' y1' y2' hzz
          have hbw : b < wr.heap.size := Nat.lt_of_lt_of_le hbl hb.size
          rcases badO_ways ⟨pr, pw, pt⟩ with ⟨hB, hw⟩ | ⟨hB, e1, e2, e3, e4⟩
          · have hz2 : z = 2 := by rw [hzz', otcErr_bad hB]; rfl
            have HZZ := Lib.hid hz2
            clear hb hzz' hp hz2 hB hbw
            rcases hw with e1 | ⟨e1, e2⟩ | ⟨e1, e2, e3⟩ | ⟨e1, e2, e3, e4⟩
            all_goals
              dsimp only at *
              go_wp2
              go_ret
              exact ⟨ret_i HZZ.out.symm, Below.alloc HB.out HB.out.size _⟩
          · have hok := badO_no hB
            have hw1 := hok.w1
            have hw16 := hok.w16
            dsimp only at e1 e2 e3 e4 hw1 hw16
            by_cases hk0 : k = 0
            · have hz2 : z = otcsF (prevO d (k + 1)) (s + pt) (d.drop (k + 1)) := by
                rw [hzz', hk0, prevO_zero, otcErr_none hB]; rfl
              have HZZ := Lib.hid hz2
              have g1 : decide ((0 : Int) < (k : Int)) = false := decide_eq_false (by omega)
              have g2 : decide (0 < k) = false := decide_eq_false (by omega)
              clear hb hzz' hp hz2 hB hk0 hok hbw
              go_wp2
              go_quiet (fail)
              go_wp2
              go_roundw
              case rel => exact ⟨k + 1, _, by omega, by go_num, rfl, by omega, by omega, Below.drewN_ (Below.alloc HB.out HB.out.size _) _, HZZ.out⟩
              case measure => simp [intOf]; omega
            · obtain ⟨b', o', hbo, hbl', q0', q1', q2'⟩ := otc_at H.out (k := k - 1) (by omega)
              simp only [Option.some.injEq, Addr.mk.injEq] at hbo
              obtain ⟨rfl, rfl, _⟩ := hbo
              obtain ⟨x, hx⟩ : ∃ x, x = d[k - 1]'(by omega) := ⟨_, rfl⟩
              have hz2 : z = if (if befB x ⟨pr, pw, pt⟩ = true then (0 : Int) else 8) ≠ 0 then (if befB x ⟨pr, pw, pt⟩ = true then (0 : Int) else 8) else otcsF (prevO d (k + 1)) (s + pt) (d.drop (k + 1)) := by
                rw [hzz', prevO_succ hk0 (by omega), otcErr_some hB, ← hx]
              rw [← hx] at q0' q1' q2'
              have q0 := (hb.cell (p := ⟨b, o + (k - 1) * 3, none⟩) hbl).trans q0'
              have q1 := (hb.cell (p := ⟨b, o + (k - 1) * 3 + 1, none⟩) hbl).trans q1'
              have q2 := (hb.cell (p := ⟨b, o + (k - 1) * 3 + 2, none⟩) hbl).trans q2'
              have g1 : decide ((0 : Int) < (k : Int)) = true := decide_eq_true (by omega)
              have g2 : decide (0 < k) = true := decide_eq_true (by omega)
              have s1 : IntKind.i64.wrap ((k : Int) - 1) = (k : Int) - 1 := IntWalk.i64_in _ (by omega)
              have s2 : (0 : Int) ≤ (k : Int) - 1 := by omega
              have s2' : (1 : Int) ≤ (k : Int) := by omega
              have s3 : ((k : Int) - 1).toNat = k - 1 := by omega
              have s4 : (k : Int) - 1 < (d.length : Int) := by omega
              obtain ⟨wa, hwa⟩ : ∃ wa, wa = wr.alloc (.cells #[.int .i64 pr, .bool pw, .int .i64 pt] 46) := ⟨_, rfl⟩
              have hka : Blk wa wr.heap.size 46 #[.int .i64 pr, .bool pw, .int .i64 pt] := by rw [hwa]; exact Blk.new wr _ _
              have hba : Below wr.heap.size wr wa := by rw [hwa]; exact Below.alloc (Below.refl _ _) (Nat.le_refl _) _
              have z0 := (hba.cell (p := ⟨b, o + (k - 1) * 3, none⟩) hbw).trans q0
              have z1 := (hba.cell (p := ⟨b, o + (k - 1) * 3 + 1, none⟩) hbw).trans q1
              have z2 := (hba.cell (p := ⟨b, o + (k - 1) * 3 + 2, none⟩) hbw).trans q2
              have HBA := Lib.hid (HB.out.trans (hba.mono HB.out.size))
              have HWA := Lib.hid hwa
              have HKA := Lib.hid hka
              obtain ⟨g, hg⟩ : ∃ g, g = wr.heap.size := ⟨_, rfl⟩
              have HGG := Lib.hid hg
              cases hbf : befB x ⟨pr, pw, pt⟩
              · have HZZ := Lib.hid (show z = 8 by rw [hz2, hbf]; simp)
                have g3 : decide (0 ≤ ordS x ⟨pr, pw, pt⟩) = true := by rw [befB_neg, hbf]; rfl
                clear hb hzz' hp hz2 hB hk0 hok hx q0 q1 q2 q0' q1' q2' hwa hka hba hg hbf hbl'
                go_wp2
                rw [← HWA.out, ← HGG.out]
                rw [← HGG.out] at HKA
                have x0 : wa.cell? ⟨g, 0, none⟩ = some (.int .i64 pr) := HKA.out.cell 0
                have x1 : wa.cell? ⟨g, 1, none⟩ = some (.bool pw) := HKA.out.cell 1
                have x2 : wa.cell? ⟨g, 2, none⟩ = some (.int .i64 pt) := HKA.out.cell 2
                go_region_held3 (fun w' => (w'.cell? ⟨b, o + (k - 1) * 3, none⟩ = some (.int .i64 x.runs) ∧ w'.cell? ⟨b, o + (k - 1) * 3 + 1, none⟩ = some (.bool x.wick) ∧ w'.cell? ⟨b, o + (k - 1) * 3 + 2, none⟩ = some (.int .i64 x.wt)) ∧ w'.cell? ⟨g, 0, none⟩ = some (.int .i64 pr) ∧ w'.cell? ⟨g, 1, none⟩ = some (.bool pw) ∧ w'.cell? ⟨g, 2, none⟩ = some (.int .i64 pt)) (first | exact ⟨⟨z0, z1, z2⟩, x0, x1, x2⟩ | go_keep) ((go_at_call 120; refine (ch_order x ⟨pr, pw, pt⟩ _).mono ?_; rintro e w3 ⟨rfl, hb3⟩; have hzw := (Below.drew HBA.out).size; have hk3 : Blk w3 g 46 #[.int .i64 pr, .bool pw, .int .i64 pt] := Blk.below (w := wa.drew) HKA.out hb3 HKA.out.lt; have x0 : w3.cell? ⟨g, 0, none⟩ = some (.int .i64 pr) := hk3.cell 0; have x1 : w3.cell? ⟨g, 1, none⟩ = some (.bool pw) := hk3.cell 1; have x2 : w3.cell? ⟨g, 2, none⟩ = some (.int .i64 pt) := hk3.cell 2; have hbwa : b < wa.heap.size := Nat.lt_of_lt_of_le hbl hzw; have z0 := (hb3.cell (p := ⟨b, o + (k - 1) * 3, none⟩) hbwa).trans z0; have z1 := (hb3.cell (p := ⟨b, o + (k - 1) * 3 + 1, none⟩) hbwa).trans z1; have z2 := (hb3.cell (p := ⟨b, o + (k - 1) * 3 + 2, none⟩) hbwa).trans z2; have HB3 := Lib.hid ((Below.drew HBA.out).trans (hb3.mono hzw)); clear hk3 hb3 hzw hbwa))
                all_goals go_wp2
                all_goals go_ret
                all_goals exact ⟨ret_i HZZ.out.symm, HB3.out⟩
              · have HZZ := Lib.hid (show z = otcsF (prevO d (k + 1)) (s + pt) (d.drop (k + 1)) by rw [hz2, hbf]; simp)
                have g3 : decide (0 ≤ ordS x ⟨pr, pw, pt⟩) = false := by rw [befB_neg, hbf]; rfl
                clear hb hzz' hp hz2 hB hk0 hok hx q0 q1 q2 q0' q1' q2' hwa hka hba hg hbf hbl'
                go_wp2
                rw [← HWA.out, ← HGG.out]
                rw [← HGG.out] at HKA
                have x0 : wa.cell? ⟨g, 0, none⟩ = some (.int .i64 pr) := HKA.out.cell 0
                have x1 : wa.cell? ⟨g, 1, none⟩ = some (.bool pw) := HKA.out.cell 1
                have x2 : wa.cell? ⟨g, 2, none⟩ = some (.int .i64 pt) := HKA.out.cell 2
                go_region_held3 (fun w' => (w'.cell? ⟨b, o + (k - 1) * 3, none⟩ = some (.int .i64 x.runs) ∧ w'.cell? ⟨b, o + (k - 1) * 3 + 1, none⟩ = some (.bool x.wick) ∧ w'.cell? ⟨b, o + (k - 1) * 3 + 2, none⟩ = some (.int .i64 x.wt)) ∧ w'.cell? ⟨g, 0, none⟩ = some (.int .i64 pr) ∧ w'.cell? ⟨g, 1, none⟩ = some (.bool pw) ∧ w'.cell? ⟨g, 2, none⟩ = some (.int .i64 pt)) (first | exact ⟨⟨z0, z1, z2⟩, x0, x1, x2⟩ | go_keep) ((go_at_call 120; refine (ch_order x ⟨pr, pw, pt⟩ _).mono ?_; rintro e w3 ⟨rfl, hb3⟩; have hzw := (Below.drew HBA.out).size; have hk3 : Blk w3 g 46 #[.int .i64 pr, .bool pw, .int .i64 pt] := Blk.below (w := wa.drew) HKA.out hb3 HKA.out.lt; have x0 : w3.cell? ⟨g, 0, none⟩ = some (.int .i64 pr) := hk3.cell 0; have x1 : w3.cell? ⟨g, 1, none⟩ = some (.bool pw) := hk3.cell 1; have x2 : w3.cell? ⟨g, 2, none⟩ = some (.int .i64 pt) := hk3.cell 2; have hbwa : b < wa.heap.size := Nat.lt_of_lt_of_le hbl hzw; have z0 := (hb3.cell (p := ⟨b, o + (k - 1) * 3, none⟩) hbwa).trans z0; have z1 := (hb3.cell (p := ⟨b, o + (k - 1) * 3 + 1, none⟩) hbwa).trans z1; have z2 := (hb3.cell (p := ⟨b, o + (k - 1) * 3 + 2, none⟩) hbwa).trans z2; have HB3 := Lib.hid ((Below.drew HBA.out).trans (hb3.mono hzw)); clear hk3 hb3 hzw hbwa))
                all_goals go_wp2
                all_goals go_roundw
                case rel => exact ⟨k + 1, _, by omega, by go_num, rfl, by omega, by omega, HB3.out, HZZ.out⟩
                case measure => simp [intOf]; omega
        · have hzz' := hzz.out
          rw [otcsF_end _ _ (by omega)] at hzz'
          clear hb hzz
          by_cases h16s : s = 16
          · rw [if_pos h16s] at hzz'
            have HZZ := Lib.hid hzz'
            have g1 : (s != 16) = false := by rw [h16s]; rfl
            clear hzz' h16s
            go_wp2
            go_ret
            exact ⟨ret_i HZZ.out.symm, HB.out⟩
          · rw [if_neg h16s] at hzz'
            have HZZ := Lib.hid hzz'
            have g1 : (s != 16) = true := by rw [bne_iff_ne]; exact h16s
            clear hzz' h16s
            go_wp2
            go_ret
            exact ⟨ret_i HZZ.out.symm, HB.out⟩

set_option maxRecDepth 100000 in
set_option maxHeartbeats 2000000 in
theorem ref_CCheck (d : List Otc) (v : Value) (w : World) (h : Sl 3 elOtc w (· < w.heap.size) v d) : Calls Tryz.prog 94 #[v] w fun e w' => e = .returned (.int .i64 (checkD d)) ∧ Below w.heap.size w w' := by
  obtain ⟨z, hz⟩ : ∃ z, z = checkD d := ⟨_, rfl⟩
  rw [← hz]
  unfold checkD at hz
  obtain ⟨A, c, rfl, hc, hc2⟩ := h.shape
  by_cases h0 : d.length = 0
  · rw [if_pos h0] at hz
    have HZ := Lib.hid hz
    clear hz h
    go_enter Tryz.func94, Tryz.ntmps94
    have e0 : ((d.length : Int) == 0) = true := by rw [h0]; rfl
    clear h0
    go_wp2
    go_ret
    exact ⟨ret_i HZ.out.symm, Below.refl _ _⟩
  · rw [if_neg h0] at hz
    have e0 : ((d.length : Int) == 0) = false := by rw [beq_eq_false_iff_ne]; omega
    by_cases h16 : 16 < d.length
    · rw [if_pos h16] at hz
      have HZ := Lib.hid hz
      have h16' : (16 : Int) < (d.length : Int) := by omega
      clear hz h h0
      go_enter Tryz.func94, Tryz.ntmps94
      go_wp2
      go_ret
      exact ⟨ret_i HZ.out.symm, Below.refl _ _⟩
    · rw [if_neg h16] at hz
      have h16' : (d.length : Int) ≤ 16 := by omega
      have HZ := Lib.hid hz
      have H := Lib.hid h
      clear hz h h0 h16
      go_enter Tryz.func94, Tryz.ntmps94
      go_wp2
      go_loopw [3, 14] (fun sv i wr => ∃ (k : Nat) (s : Int), k ≤ d.length ∧ i = .int .i64 k ∧ sv = .int .i64 s ∧ 0 ≤ s ∧ s ≤ 16 * k ∧ Below w.heap.size w wr ∧ Hid (z = otcsF (prevO d k) s (d.drop k)))
        (fun _ i _ => d.length - (intOf i).toNat)
      case atStart => exact ⟨0, 0, Nat.zero_le _, rfl, rfl, by omega, by omega, Below.refl _ _, HZ.out⟩
      case round =>
        obtain ⟨k, s, hk, rfl, rfl, hs0, hs1, hb, hzz⟩ := hrel
        have HB := Lib.hid hb
        by_cases hlt : k < d.length
        · obtain ⟨b, o, rfl, hbl, y0', y1', y2'⟩ := otc_at H.out hlt
          have hzz' := hzz.out
          rw [otcsF_at s hlt] at hzz'
          obtain ⟨⟨pr, pw, pt⟩, hp⟩ : ∃ p, p = d[k] := ⟨_, rfl⟩
          rw [← hp] at y0' y1' y2' hzz'
          have y0 := (hb.cell (p := ⟨b, o + k * 3, none⟩) hbl).trans y0'
          have y1 := (hb.cell (p := ⟨b, o + k * 3 + 1, none⟩) hbl).trans y1'
          have y2 := (hb.cell (p := ⟨b, o + k * 3 + 2, none⟩) hbl).trans y2'
          dsimp only at y0 y1 y2
          clear y0' y1' y2' hzz
          have hbw : b < wr.heap.size := Nat.lt_of_lt_of_le hbl hb.size
          rcases badO_ways ⟨pr, pw, pt⟩ with ⟨hB, hw⟩ | ⟨hB, e1, e2, e3, e4⟩
          · have hz2 : z = 2 := by rw [hzz', otcErr_bad hB]; rfl
            have HZZ := Lib.hid hz2
            clear hb hzz' hp hz2 hB hbw
            rcases hw with e1 | ⟨e1, e2⟩ | ⟨e1, e2, e3⟩ | ⟨e1, e2, e3, e4⟩
            all_goals
              dsimp only at *
              go_wp2
              go_ret
              exact ⟨ret_i HZZ.out.symm, Below.alloc HB.out HB.out.size _⟩
          · have hok := badO_no hB
            have hw1 := hok.w1
            have hw16 := hok.w16
            dsimp only at e1 e2 e3 e4 hw1 hw16
            by_cases hk0 : k = 0
            · have hz2 : z = otcsF (prevO d (k + 1)) (s + pt) (d.drop (k + 1)) := by
                rw [hzz', hk0, prevO_zero, otcErr_none hB]; rfl
              have HZZ := Lib.hid hz2
              have g1 : decide ((0 : Int) < (k : Int)) = false := decide_eq_false (by omega)
              have g2 : decide (0 < k) = false := decide_eq_false (by omega)
              clear hb hzz' hp hz2 hB hk0 hok hbw
              go_wp2
              go_quiet (fail)
              go_wp2
              go_roundw
              case rel => exact ⟨k + 1, _, by omega, by go_num, rfl, by omega, by omega, Below.drewN_ (Below.alloc HB.out HB.out.size _) _, HZZ.out⟩
              case measure => simp [intOf]; omega
            · obtain ⟨b', o', hbo, hbl', q0', q1', q2'⟩ := otc_at H.out (k := k - 1) (by omega)
              simp only [Option.some.injEq, Addr.mk.injEq] at hbo
              obtain ⟨rfl, rfl, _⟩ := hbo
              obtain ⟨x, hx⟩ : ∃ x, x = d[k - 1]'(by omega) := ⟨_, rfl⟩
              have hz2 : z = if (if befB x ⟨pr, pw, pt⟩ = true then (0 : Int) else 8) ≠ 0 then (if befB x ⟨pr, pw, pt⟩ = true then (0 : Int) else 8) else otcsF (prevO d (k + 1)) (s + pt) (d.drop (k + 1)) := by
                rw [hzz', prevO_succ hk0 (by omega), otcErr_some hB, ← hx]
              rw [← hx] at q0' q1' q2'
              have q0 := (hb.cell (p := ⟨b, o + (k - 1) * 3, none⟩) hbl).trans q0'
              have q1 := (hb.cell (p := ⟨b, o + (k - 1) * 3 + 1, none⟩) hbl).trans q1'
              have q2 := (hb.cell (p := ⟨b, o + (k - 1) * 3 + 2, none⟩) hbl).trans q2'
              have g1 : decide ((0 : Int) < (k : Int)) = true := decide_eq_true (by omega)
              have g2 : decide (0 < k) = true := decide_eq_true (by omega)
              have s1 : IntKind.i64.wrap ((k : Int) - 1) = (k : Int) - 1 := IntWalk.i64_in _ (by omega)
              have s2 : (0 : Int) ≤ (k : Int) - 1 := by omega
              have s2' : (1 : Int) ≤ (k : Int) := by omega
              have s3 : ((k : Int) - 1).toNat = k - 1 := by omega
              have s4 : (k : Int) - 1 < (d.length : Int) := by omega
              obtain ⟨wa, hwa⟩ : ∃ wa, wa = wr.alloc (.cells #[.int .i64 pr, .bool pw, .int .i64 pt] 46) := ⟨_, rfl⟩
              have hka : Blk wa wr.heap.size 46 #[.int .i64 pr, .bool pw, .int .i64 pt] := by rw [hwa]; exact Blk.new wr _ _
              have hba : Below wr.heap.size wr wa := by rw [hwa]; exact Below.alloc (Below.refl _ _) (Nat.le_refl _) _
              have z0 := (hba.cell (p := ⟨b, o + (k - 1) * 3, none⟩) hbw).trans q0
              have z1 := (hba.cell (p := ⟨b, o + (k - 1) * 3 + 1, none⟩) hbw).trans q1
              have z2 := (hba.cell (p := ⟨b, o + (k - 1) * 3 + 2, none⟩) hbw).trans q2
              have HBA := Lib.hid (HB.out.trans (hba.mono HB.out.size))
              have HWA := Lib.hid hwa
              have HKA := Lib.hid hka
              obtain ⟨g, hg⟩ : ∃ g, g = wr.heap.size := ⟨_, rfl⟩
              have HGG := Lib.hid hg
              cases hbf : befB x ⟨pr, pw, pt⟩
              · have HZZ := Lib.hid (show z = 8 by rw [hz2, hbf]; simp)
                have g3 : befB x ⟨pr, pw, pt⟩ = false := hbf
                clear hb hzz' hp hz2 hB hk0 hok hx q0 q1 q2 q0' q1' q2' hwa hka hba hg hbf hbl'
                go_wp2
                rw [← HWA.out, ← HGG.out]
                rw [← HGG.out] at HKA
                have x0 : wa.cell? ⟨g, 0, none⟩ = some (.int .i64 pr) := HKA.out.cell 0
                have x1 : wa.cell? ⟨g, 1, none⟩ = some (.bool pw) := HKA.out.cell 1
                have x2 : wa.cell? ⟨g, 2, none⟩ = some (.int .i64 pt) := HKA.out.cell 2
                go_region_held3 (fun w' => (w'.cell? ⟨b, o + (k - 1) * 3, none⟩ = some (.int .i64 x.runs) ∧ w'.cell? ⟨b, o + (k - 1) * 3 + 1, none⟩ = some (.bool x.wick) ∧ w'.cell? ⟨b, o + (k - 1) * 3 + 2, none⟩ = some (.int .i64 x.wt)) ∧ w'.cell? ⟨g, 0, none⟩ = some (.int .i64 pr) ∧ w'.cell? ⟨g, 1, none⟩ = some (.bool pw) ∧ w'.cell? ⟨g, 2, none⟩ = some (.int .i64 pt)) (first | exact ⟨⟨z0, z1, z2⟩, x0, x1, x2⟩ | go_keep) ((go_at_call 129; refine (ref_Before x ⟨pr, pw, pt⟩ _).mono ?_; rintro e w3 ⟨rfl, hb3⟩; have hzw := (Below.drew HBA.out).size; have hk3 : Blk w3 g 46 #[.int .i64 pr, .bool pw, .int .i64 pt] := Blk.below (w := wa.drew) HKA.out hb3 HKA.out.lt; have x0 : w3.cell? ⟨g, 0, none⟩ = some (.int .i64 pr) := hk3.cell 0; have x1 : w3.cell? ⟨g, 1, none⟩ = some (.bool pw) := hk3.cell 1; have x2 : w3.cell? ⟨g, 2, none⟩ = some (.int .i64 pt) := hk3.cell 2; have hbwa : b < wa.heap.size := Nat.lt_of_lt_of_le hbl hzw; have z0 := (hb3.cell (p := ⟨b, o + (k - 1) * 3, none⟩) hbwa).trans z0; have z1 := (hb3.cell (p := ⟨b, o + (k - 1) * 3 + 1, none⟩) hbwa).trans z1; have z2 := (hb3.cell (p := ⟨b, o + (k - 1) * 3 + 2, none⟩) hbwa).trans z2; have HB3 := Lib.hid ((Below.drew HBA.out).trans (hb3.mono hzw)); clear hk3 hb3 hzw hbwa))
                all_goals go_wp2
                all_goals go_ret
                all_goals exact ⟨ret_i HZZ.out.symm, HB3.out⟩
              · have HZZ := Lib.hid (show z = otcsF (prevO d (k + 1)) (s + pt) (d.drop (k + 1)) by rw [hz2, hbf]; simp)
                have g3 : befB x ⟨pr, pw, pt⟩ = true := hbf
                clear hb hzz' hp hz2 hB hk0 hok hx q0 q1 q2 q0' q1' q2' hwa hka hba hg hbf hbl'
                go_wp2
                rw [← HWA.out, ← HGG.out]
                rw [← HGG.out] at HKA
                have x0 : wa.cell? ⟨g, 0, none⟩ = some (.int .i64 pr) := HKA.out.cell 0
                have x1 : wa.cell? ⟨g, 1, none⟩ = some (.bool pw) := HKA.out.cell 1
                have x2 : wa.cell? ⟨g, 2, none⟩ = some (.int .i64 pt) := HKA.out.cell 2
                go_region_held3 (fun w' => (w'.cell? ⟨b, o + (k - 1) * 3, none⟩ = some (.int .i64 x.runs) ∧ w'.cell? ⟨b, o + (k - 1) * 3 + 1, none⟩ = some (.bool x.wick) ∧ w'.cell? ⟨b, o + (k - 1) * 3 + 2, none⟩ = some (.int .i64 x.wt)) ∧ w'.cell? ⟨g, 0, none⟩ = some (.int .i64 pr) ∧ w'.cell? ⟨g, 1, none⟩ = some (.bool pw) ∧ w'.cell? ⟨g, 2, none⟩ = some (.int .i64 pt)) (first | exact ⟨⟨z0, z1, z2⟩, x0, x1, x2⟩ | go_keep) ((go_at_call 129; refine (ref_Before x ⟨pr, pw, pt⟩ _).mono ?_; rintro e w3 ⟨rfl, hb3⟩; have hzw := (Below.drew HBA.out).size; have hk3 : Blk w3 g 46 #[.int .i64 pr, .bool pw, .int .i64 pt] := Blk.below (w := wa.drew) HKA.out hb3 HKA.out.lt; have x0 : w3.cell? ⟨g, 0, none⟩ = some (.int .i64 pr) := hk3.cell 0; have x1 : w3.cell? ⟨g, 1, none⟩ = some (.bool pw) := hk3.cell 1; have x2 : w3.cell? ⟨g, 2, none⟩ = some (.int .i64 pt) := hk3.cell 2; have hbwa : b < wa.heap.size := Nat.lt_of_lt_of_le hbl hzw; have z0 := (hb3.cell (p := ⟨b, o + (k - 1) * 3, none⟩) hbwa).trans z0; have z1 := (hb3.cell (p := ⟨b, o + (k - 1) * 3 + 1, none⟩) hbwa).trans z1; have z2 := (hb3.cell (p := ⟨b, o + (k - 1) * 3 + 2, none⟩) hbwa).trans z2; have HB3 := Lib.hid ((Below.drew HBA.out).trans (hb3.mono hzw)); clear hk3 hb3 hzw hbwa))
                all_goals go_wp2
                all_goals go_roundw
                case rel => exact ⟨k + 1, _, by omega, by go_num, rfl, by omega, by omega, HB3.out, HZZ.out⟩
                case measure => simp [intOf]; omega
        · have hzz' := hzz.out
          rw [otcsF_end _ _ (by omega)] at hzz'
          clear hb hzz
          by_cases h16s : s = 16
          · rw [if_pos h16s] at hzz'
            have HZZ := Lib.hid hzz'
            have g1 : (s != 16) = false := by rw [h16s]; rfl
            clear hzz' h16s
            go_wp2
            go_ret
            exact ⟨ret_i HZZ.out.symm, HB.out⟩
          · rw [if_neg h16s] at hzz'
            have HZZ := Lib.hid hzz'
            have g1 : (s != 16) = true := by rw [bne_iff_ne]; exact h16s
            clear hzz' h16s
            go_wp2
            go_ret
            exact ⟨ret_i HZZ.out.symm, HB.out⟩

end Go.Proofs.YtfnfbojaiikigaaGreatDoor
