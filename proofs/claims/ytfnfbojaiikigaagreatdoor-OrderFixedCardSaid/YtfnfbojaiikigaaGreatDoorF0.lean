/- The contract of the reference's Name. -/
import Derived.Test.YtfnfbojaiikigaaGreatDoorPP
import Derived.Test.YtfnfbojaiikigaaGreatDoorT1
set_option linter.unusedSimpArgs false
set_option linter.unusedVariables false
namespace Go.Proofs.YtfnfbojaiikigaaGreatDoor
open Go.RowKit

set_option maxRecDepth 100000 in
set_option maxHeartbeats 4000000 in
theorem ref_Name (s : ByteArray) (w : World) (hs : s.size ≤ maxLen) :
    Calls Tryz.prog 92 #[.string s] w fun e w' => e = .returned (.bool (nameS s.data.toList)) ∧ w' = w := by
  unfold maxLen at hs
  have hb : ∀ b, (nameS s.data.toList = b) → nameS s.data.toList = b := fun _ h => h
  by_cases hz : s.size = 0
  · have e0 : s.toList.isEmpty = true := by rw [ByteArray.toList_eq, List.isEmpty_iff, ← List.length_eq_zero_iff]; simpa using hz
    have hn : nameS s.data.toList = false := by rw [Bool.eq_false_iff]; intro h; have := (nameS_eq _).1 h; have h1 := this.2.1; simp at h1; omega
    have HN := Lib.hid hn
    clear hn hb hz
    go_enter Tryz.func92, Tryz.ntmps92
    go_wp2
    go_ret
    exact ⟨ret_b HN.out.symm, rfl⟩
  · have e0 : s.toList.isEmpty = false := by rw [Bool.eq_false_iff]; intro h; rw [ByteArray.toList_eq, List.isEmpty_iff, ← List.length_eq_zero_iff] at h; exact hz (by simpa using h)
    by_cases h16 : (16 : Int) < (s.size : Int)
    · have hn : nameS s.data.toList = false := by rw [Bool.eq_false_iff]; intro h; have := (nameS_eq _).1 h; have h1 := this.2.2; simp at h1; omega
      have HN := Lib.hid hn
      clear hn hb hz
      go_enter Tryz.func92, Tryz.ntmps92
      go_wp2
      go_ret
      exact ⟨ret_b HN.out.symm, rfl⟩
    · have h16' : (s.size : Int) ≤ 16 := by omega
      have HZ := Lib.hid hz
      clear hb hz
      go_enter Tryz.func92, Tryz.ntmps92
      go_wp2
      go_loop [3] (fun i => ∃ k : Nat, k ≤ s.size ∧ i = .int .i64 k ∧ Hid (∀ j, j < k → nameOk s.data.toList j = true)) (fun i => s.size - (intOf i).toNat)
      case atStart => exact ⟨0, Nat.zero_le _, rfl, fun j hj => absurd hj (by omega)⟩
      case round =>
        obtain ⟨k, hk, rfl, hall⟩ := hrel
        by_cases hlt : k < s.size
        · have hbad := Lib.hid (nameS_bad s k hlt)
          have hat := Lib.hid (nameOk_at s k hlt)
          rcases Nat.eq_zero_or_pos k with h0 | h0
          · have hzk : ((k : Int) == 0) = true := by rw [h0]; rfl
            have h0' := Lib.hid h0
            clear h0
            rcases (show (s[k].toNat : Int) < 65 ∨ (65 ≤ (s[k].toNat : Int) ∧ (s[k].toNat : Int) ≤ 90) ∨ 90 < (s[k].toNat : Int) from by omega) with hc | ⟨hc, hc'⟩ | hc
            all_goals ((first | (have e1 : decide ((65 : Int) ≤ (s[k].toNat : Int)) = true := decide_eq_true (by omega)) | (have e1 : decide ((65 : Int) ≤ (s[k].toNat : Int)) = false := decide_eq_false (by omega))); (first | (have e2 : decide ((s[k].toNat : Int) ≤ (90 : Int)) = true := decide_eq_true (by omega)) | (have e2 : decide ((s[k].toNat : Int) ≤ (90 : Int)) = false := decide_eq_false (by omega))); go_wp2)
            all_goals first
              | (go_ret; exact ⟨ret_b (hbad.out (by rw [hat.out, if_pos h0'.out, letterB_iff, decide_eq_false_iff_not]; omega)).symm, rfl⟩)
              | (go_round
                 case rel => exact ⟨k + 1, by omega, by go_num, nameOk_next hall hat.out (by rw [if_pos h0'.out, letterB_iff, decide_eq_true_eq]; omega)⟩
                 case measure => simp [intOf]; omega)
          · have hzk : ((k : Int) == 0) = false := by simp; omega
            rcases (show (s[k].toNat : Int) < 45 ∨ (45 ≤ (s[k].toNat : Int) ∧ (s[k].toNat : Int) ≤ 45) ∨ (46 ≤ (s[k].toNat : Int) ∧ (s[k].toNat : Int) ≤ 47) ∨ (48 ≤ (s[k].toNat : Int) ∧ (s[k].toNat : Int) ≤ 57) ∨ (58 ≤ (s[k].toNat : Int) ∧ (s[k].toNat : Int) ≤ 64) ∨ (65 ≤ (s[k].toNat : Int) ∧ (s[k].toNat : Int) ≤ 90) ∨ (91 ≤ (s[k].toNat : Int) ∧ (s[k].toNat : Int) ≤ 94) ∨ (95 ≤ (s[k].toNat : Int) ∧ (s[k].toNat : Int) ≤ 95) ∨ 95 < (s[k].toNat : Int) from by omega) with hc | ⟨hc, hc'⟩ | ⟨hc, hc'⟩ | ⟨hc, hc'⟩ | ⟨hc, hc'⟩ | ⟨hc, hc'⟩ | ⟨hc, hc'⟩ | ⟨hc, hc'⟩ | hc
            all_goals ((first | (have e1 : decide ((65 : Int) ≤ (s[k].toNat : Int)) = true := decide_eq_true (by omega)) | (have e1 : decide ((65 : Int) ≤ (s[k].toNat : Int)) = false := decide_eq_false (by omega))); (first | (have e2 : decide ((s[k].toNat : Int) ≤ (90 : Int)) = true := decide_eq_true (by omega)) | (have e2 : decide ((s[k].toNat : Int) ≤ (90 : Int)) = false := decide_eq_false (by omega))); (first | (have e3 : ((s[k].toNat : Int) != (95 : Int)) = true := by rw [bne_iff_ne]; omega) | (have e3 : ((s[k].toNat : Int) != (95 : Int)) = false := by rw [bne_eq_false_iff_eq]; omega)); (first | (have e4 : ((s[k].toNat : Int) != (45 : Int)) = true := by rw [bne_iff_ne]; omega) | (have e4 : ((s[k].toNat : Int) != (45 : Int)) = false := by rw [bne_eq_false_iff_eq]; omega)); (first | (have e5 : decide ((s[k].toNat : Int) < (48 : Int)) = true := decide_eq_true (by omega)) | (have e5 : decide ((s[k].toNat : Int) < (48 : Int)) = false := decide_eq_false (by omega))); (first | (have e6 : decide ((57 : Int) < (s[k].toNat : Int)) = true := decide_eq_true (by omega)) | (have e6 : decide ((57 : Int) < (s[k].toNat : Int)) = false := decide_eq_false (by omega))); go_wp2)
            all_goals first
              | (go_ret; exact ⟨ret_b (hbad.out (by rw [hat.out, if_neg (by omega), tailB_iff, decide_eq_false_iff_not]; omega)).symm, rfl⟩)
              | (go_round
                 case rel => exact ⟨k + 1, by omega, by go_num, nameOk_next hall hat.out (by rw [if_neg (by omega), tailB_iff, decide_eq_true_eq]; omega)⟩
                 case measure => simp [intOf]; omega)

        · obtain rfl : k = s.size := by omega
          have hn : nameS s.data.toList = true := by
            rw [nameS_end s hall.out]
            have := HZ.out
            simp; omega
          have HN := Lib.hid hn
          clear hn
          go_wp2
          go_ret
          exact ⟨ret_b HN.out.symm, rfl⟩

end Go.Proofs.YtfnfbojaiikigaaGreatDoor
