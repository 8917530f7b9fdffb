/- slices.Index, Contains and Equal at int64. -/
import Derived.Test.YtajcnjehjkpieaaE7
set_option linter.unusedSimpArgs false
set_option linter.unusedVariables false
namespace Go.Proofs.Ytajcnjehjkpieaa
open Go.RowKit

theorem ixF_mem (x : Int) (l : List Int) (k : Nat) : decide (0 ≤ ixF (fun d => x == d) l k) = decide (x ∈ l) := by
  rw [ixF_any, Bool.eq_iff_iff, decide_eq_true_eq, List.any_eq_true]
  exact ⟨fun ⟨d, h1, h2⟩ => by rw [show x = d from by simpa using h2]; exact h1, fun h => ⟨x, h, by simp⟩⟩
set_option maxRecDepth 100000 in
set_option maxHeartbeats 2000000 in
theorem i64_Index (l : List Int) (lv : Value) (x : Int) (F : Nat → Prop) (w : World) (hl : Sl 1 elInt w F lv l) :
    Calls Try.prog 25 #[lv, .int .i64 x] w fun e w' => e = .returned (.int .i64 (ixF (fun d => x == d) l 0)) ∧ w = w' := by
  obtain ⟨z, hz⟩ : ∃ z, z = ixF (fun d => x == d) l 0 := ⟨_, rfl⟩
  rw [← hz]
  obtain ⟨A, c, rfl, hc, hc2⟩ := hl.shape
  have HZ : Hid (z = ixF (fun d => x == d) (l.drop 0) 0) := hz
  have HL := Lib.hid hl
  clear hz hl
  go_enter Try.func25, Try.ntmps25
  go_wp2
  go_loop [8] (fun i => ∃ k : Nat, k ≤ l.length ∧ i = .int .i64 k ∧ Hid (z = ixF (fun d => x == d) (l.drop k) k)) (fun i => l.length - (intOf i).toNat)
  case atStart => exact ⟨0, Nat.zero_le _, rfl, HZ⟩
  case round =>
    obtain ⟨k, hk, rfl, hzz⟩ := hrel
    clear HZ
    by_cases hlt : k < l.length
    · obtain ⟨b0, o, rfl, hbl, y0⟩ := i64_at HL.out hlt
      have hz2 := hzz.out
      rw [drop_get hlt, ixF, get_i64 hlt] at hz2
      obtain ⟨u, hp⟩ : ∃ p, p = l.getD k 0 := ⟨_, rfl⟩
      rw [← hp] at y0 hz2
      clear hzz hp
      cases d1 : (x == u)
      · rw [d1] at hz2
        rw [if_neg (by simp)] at hz2
        have HZZ := Lib.hid hz2
        clear hz2
        go_wp2
        go_round
        case rel => exact ⟨k + 1, by omega, by go_num, HZZ⟩
        case measure => simp [intOf]; omega
      · rw [d1] at hz2
        rw [if_pos rfl] at hz2
        have HZZ := Lib.hid hz2
        clear hz2
        go_wp2
        go_ret
        exact ⟨ret_i HZZ.out.symm, rfl⟩
    · obtain rfl : k = l.length := by omega
      have hz2 := hzz.out
      rw [List.drop_of_length_le (Nat.le_refl _), ixF] at hz2
      have HZZ := Lib.hid hz2
      clear hzz hz2
      go_wp2
      go_ret
      exact ⟨ret_i HZZ.out.symm, rfl⟩
set_option maxRecDepth 100000 in
theorem i64_Contains (l : List Int) (lv : Value) (x : Int) (F : Nat → Prop) (w : World) (hl : Sl 1 elInt w F lv l) :
    Calls Try.prog 8 #[lv, .int .i64 x] w fun e w' => e = .returned (.bool (decide (x ∈ l))) ∧ w = w' := by
  have hm := ixF_mem x l 0
  have hi := i64_Index l lv x F w hl
  obtain ⟨i, hie⟩ : ∃ i, i = ixF (fun d => x == d) l 0 := ⟨_, rfl⟩
  rw [← hie] at hm hi
  have HM := Lib.hid hm
  have HI := Lib.hid hi
  obtain ⟨A, c, rfl, hc, hc2⟩ := hl.shape
  clear hm hi hie hl
  go_enter Try.func8, Try.ntmps8
  go_wp2_with (go_at_call 25; refine HI.out.mono ?_; rintro e w2 ⟨rfl, rfl⟩)
  go_ret
  exact ⟨ret_b HM.out, rfl⟩
/-- Two lists of one reading are equal. -/
theorem i64_Equal (l : List Int) (v v' : Value) (F F' : Nat → Prop) (w : World) (h : Sl 1 elInt w F v l) (h' : Sl 1 elInt w F' v' l) :
    Calls Try.prog 13 #[v, v'] w fun e w' => e = .returned (.bool true) ∧ ∃ n, w' = w.drewN n := by
  obtain ⟨A, c, rfl, hc, hc2⟩ := h.shape
  obtain ⟨A', c', rfl, hc', hc2'⟩ := h'.shape
  have H := Lib.hid h
  have H' := Lib.hid h'
  clear h h'
  go_enter Try.func13, Try.ntmps13
  go_wp2
  go_loopw [13] (fun i wr => ∃ k : Nat, k ≤ l.length ∧ i = .int .i64 k ∧ ∃ n, wr = w.drewN n) (fun i _ => l.length - (intOf i).toNat)
  case atStart => exact ⟨0, Nat.zero_le _, rfl, 0, rfl⟩
  case round =>
    obtain ⟨k, hk, rfl, n, rfl⟩ := hrel
    by_cases hlt : k < l.length
    · obtain ⟨b, o, rfl, hbl, y0⟩ := i64_at H.out hlt
      obtain ⟨b', o', rfl, hbl', z0⟩ := i64_at H'.out hlt
      obtain ⟨u, hp⟩ : ∃ p, p = l.getD k 0 := ⟨_, rfl⟩
      rw [← hp] at y0 z0
      clear hp
      go_wp2
      go_quiet (fail)
      go_wp2
      go_roundw
      case rel => exact ⟨k + 1, by omega, by go_num, _, rfl⟩
      case measure => simp [intOf]; omega
    · obtain rfl : k = l.length := by omega
      go_wp2
      go_ret
      exact ⟨rfl, _, rfl⟩
end Go.Proofs.Ytajcnjehjkpieaa
