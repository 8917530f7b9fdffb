/- The reference's Percent, and the walk of ChancePercents. -/
import Derived.Test.YtoeeodemimndlaaGreatDoorH13
import Derived.Test.YtoeeodemimndlaaGreatDoorN4
set_option linter.unusedSimpArgs false
set_option linter.unusedVariables false
namespace Go.Proofs.YtoeeodemimndlaaGreatDoor
open Go.RowKit

set_option maxRecDepth 100000 in
set_option maxHeartbeats 1000000 in
theorem ref_Percent (wt n : Int) (w : World) : Calls Tryz.prog 18 #[.int .i64 wt, .int .i64 n] w fun e w' => e = .returned (.tuple #[.string (S (pctS wt n).1), .int .i64 (pctS wt n).2]) ∧ w = w' := by
  obtain ⟨z, hz⟩ : ∃ z, z = pctS wt n := ⟨_, rfl⟩
  rw [← hz]
  unfold pctS at hz
  have hu := fun W => ref_Unit n W
  by_cases h1 : n < 0 ∨ 12 < n
  · rw [if_pos h1] at hz
    rw [unitS_bad h1] at hu
    have HU := Lib.hid hu
    have HZ := Lib.hid hz
    clear hz hu h1
    go_enter Tryz.func18, Tryz.ntmps18
    go_wp2_with (go_at_call 41; refine (HU.out _).mono ?_; rintro e w3 ⟨rfl, rfl⟩)
    go_ret2
    exact ⟨by rw [HZ.out] <;> rfl, rfl⟩
  · rw [if_neg h1] at hz
    obtain ⟨m, rfl⟩ : ∃ m : Nat, n = (m : Int) := ⟨n.toNat, by omega⟩
    have hm : m ≤ 12 := by omega
    rw [unitS_ok hm] at hu
    rw [Int.toNat_natCast] at hz
    by_cases h2 : wt < 0 ∨ unitV m < wt
    · rw [if_pos h2] at hz
      obtain ⟨u, huu⟩ : ∃ u, u = unitV m := ⟨_, rfl⟩
      rw [← huu] at hu h2
      have HU := Lib.hid hu
      have HZ := Lib.hid hz
      clear hz hu h1 huu
      by_cases h3 : wt < 0
      · clear h2
        go_enter Tryz.func18, Tryz.ntmps18
        go_wp2_with (go_at_call 41; refine (HU.out _).mono ?_; rintro e w3 ⟨rfl, rfl⟩)
        go_ret2
        exact ⟨by rw [HZ.out] <;> rfl, rfl⟩
      · have h4 : u < wt := h2.resolve_left h3
        clear h2
        go_enter Tryz.func18, Tryz.ntmps18
        go_wp2_with (go_at_call 41; refine (HU.out _).mono ?_; rintro e w3 ⟨rfl, rfl⟩)
        go_ret2
        exact ⟨by rw [HZ.out] <;> rfl, rfl⟩
    · rw [if_neg h2] at hz
      have hw0 : 0 ≤ wt := by omega
      have hw1 : wt ≤ unitV m := by omega
      obtain ⟨b1, b2, b3, b4, b5, b6⟩ := pctH_bd hm hw0 hw1
      have hhd : pctH wt m = (20000 * wt + unitV m) / (2 * unitV m) := rfl
      obtain ⟨u1, u2⟩ := unitV_le hm
      obtain ⟨u, huu⟩ : ∃ u, u = unitV m := ⟨_, rfl⟩
      obtain ⟨q, hq⟩ : ∃ q, q = pctH wt m := ⟨_, rfl⟩
      rw [← huu] at hu hw1 b3 b4 b5 b6 u1 u2 hhd
      rw [← hq] at hz b1 b2 hhd
      rw [Int.mul_comm 20000 wt] at b3 b4 hhd
      have hqq : (wt * 20000 + u) / (2 * u) = q := hhd.symm
      have hg0 : (2 * u == 0) = false := by rw [beq_eq_false_iff_ne]; omega
      obtain ⟨q1, hq1⟩ : ∃ q1 : Nat, q / 100 = (q1 : Int) := ⟨(q / 100).toNat, by omega⟩
      obtain ⟨q2, hq2⟩ : ∃ q2 : Nat, q % 100 = (q2 : Int) := ⟨(q % 100).toNat, by omega⟩
      rw [hq1, hq2] at hz
      have kd := fun W => ref_Decimal q1 W (by omega)
      have kp := fun W => ref_Padded q2 2 W (by omega) (by omega) (by omega)
      have hl1 : (Lib.itoa (q1 : Int)).length ≤ 20 := itoa_le (by omega) (by omega)
      have hl2 : (padS (q2 : Int) 2).length ≤ 100 := padS_small q2 (by omega) 2
      obtain ⟨t1, ht1⟩ : ∃ t1, t1 = Lib.itoa (q1 : Int) := ⟨_, rfl⟩
      obtain ⟨t2, ht2⟩ : ∃ t2, t2 = padS (q2 : Int) 2 := ⟨_, rfl⟩
      rw [← ht1] at kd hz hl1
      rw [← ht2] at kp hz hl2
      have a1 := fun W => run_string_add_sum (P := Tryz.prog) W (S t1) ⟨#[46]⟩ (by rw [S_size, show (⟨#[46]⟩ : ByteArray).size = 1 from rfl]; omega)
      have a2 := fun W => run_string_add_sum (P := Tryz.prog) W (S t1 ++ ⟨#[46]⟩) (S t2) (by rw [ByteArray.size_append, S_size, S_size, show (⟨#[46]⟩ : ByteArray).size = 1 from rfl]; omega)
      have h3 : ¬ wt < 0 := by omega
      have h4 : ¬ u < wt := by omega
      have HU := Lib.hid hu
      have HZ := Lib.hid hz
      have KD := Lib.hid kd
      have KP := Lib.hid kp
      clear hz hu h1 huu hq h2 hhd ht1 ht2 kd kp hl1 hl2
      go_enter Tryz.func18, Tryz.ntmps18
      go_wp2_with (first
        | (go_at_call 41; refine (HU.out _).mono ?_; rintro e w3 ⟨rfl, rfl⟩)
        | (go_at_call 47; refine (KD.out _).mono ?_; rintro e w4 ⟨rfl, rfl⟩)
        | (go_at_call 48; refine (KP.out _).mono ?_; rintro e w5 ⟨rfl, rfl⟩))
      go_ret2
      exact ⟨by rw [HZ.out, ← S_dot] <;> rfl, rfl⟩
set_option maxRecDepth 100000 in
set_option maxHeartbeats 1000000 in
theorem law_Percents (wt n : Int) (w : World) (hg : GlobN w) :
    Calls Tryz.prog 4 #[.int .i64 wt, .int .i64 n] w fun e w' => e = .returned (.bool true) ∧ Below w.heap.size w w' := by
  have HAW := Lib.hid (law42_awake w hg)
  have k2 := fun W (hW : Below w.heap.size w W) => ch_Percent wt n W (hg.below hW)
  have k3 := fun W => ref_Percent wt n W
  generalize pctS wt n = z at *
  obtain ⟨t, x⟩ := z
  have K2 := Lib.hid k2
  have K3 := Lib.hid k3
  clear k2 k3 hg
  go_enter Tryz.func4, Tryz.ntmps4
  go_wp2_with (first
    | (go_at_call 11; refine HAW.out.mono ?_; rintro e w1 ⟨rfl, hb1⟩; have HB1 := Lib.hid hb1; clear hb1)
    | (go_at_call 17; refine (K2.out _ HB1.out).mono ?_; rintro e w2 ⟨rfl, hb2⟩; have HB2 := Lib.hid (HB1.out.trans (hb2.mono HB1.out.size)); clear hb2)
    | (go_at_call 18; refine (K3.out _).mono ?_; rintro e w3 ⟨rfl, rfl⟩))
  go_ret
  exact ⟨rfl, HB2.out⟩
end Go.Proofs.YtoeeodemimndlaaGreatDoor
