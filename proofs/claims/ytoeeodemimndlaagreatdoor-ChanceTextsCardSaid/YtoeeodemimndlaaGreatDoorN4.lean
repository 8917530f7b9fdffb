/- The reference's decimals: Padded and Decimal of numbers that are not negative. -/
import Derived.Test.YtoeeodemimndlaaGreatDoorN3
set_option linter.unusedSimpArgs false
set_option linter.unusedVariables false
namespace Go.Proofs.YtoeeodemimndlaaGreatDoor
open Go.RowKit

theorem dig_at : ∀ r : Nat, r < 10 → (⟨#[48, 49, 50, 51, 52, 53, 54, 55, 56, 57]⟩ : ByteArray).extract r (r + 1) = S [UInt8.ofNat (48 + r)] := by
  intro r h
  match r, h with
  | 0, _ => rfl
  | 1, _ => rfl
  | 2, _ => rfl
  | 3, _ => rfl
  | 4, _ => rfl
  | 5, _ => rfl
  | 6, _ => rfl
  | 7, _ => rfl
  | 8, _ => rfl
  | 9, _ => rfl
theorem padR_len (M u : Nat) (s : List UInt8) : s.length ≤ (padR M u s).length := by
  unfold padR
  split
  · simp
  · simp; omega
theorem padS_small (u : Nat) (h : u ≤ 9223372036854775807) (width : Int) : (padS (u : Int) width).length ≤ 100 := by
  unfold padS
  have := decDigits_le (u := u) (by omega)
  simp only [List.length_append, List.length_replicate]
  rw [if_neg (by omega), Int.natAbs_natCast]
  simp; omega
theorem S_cons (c : UInt8) (t : ByteArray) : S [c] ++ t = S (c :: t.data.toList) := by
  apply ByteArray.ext; apply Array.ext'
  simp [S, ByteArray.data_append]
theorem empty_app (t : ByteArray) : (⟨#[]⟩ : ByteArray) ++ t = t := by
  apply ByteArray.ext; apply Array.ext'
  simp [ByteArray.data_append]
set_option maxRecDepth 100000 in
set_option maxHeartbeats 1000000 in
theorem ref_Padded (u : Nat) (width : Int) (w : World) (h1 : u ≤ 9223372036854775807) (k0 : -9223372036854775808 ≤ width) (k1 : width ≤ 9223372036854775807) :
    Calls Tryz.prog 48 #[.int .i64 (u : Int), .int .i64 width] w fun e w' => e = .returned (.string (S (padS (u : Int) width))) ∧ w = w' := by
  obtain ⟨M, hM⟩ : ∃ M : Nat, (M : Int) = max 1 (min width 20) := ⟨(max 1 (min width 20)).toNat, by omega⟩
  have hm20 : M ≤ 20 := by omega
  have hm1 : 1 ≤ M := by omega
  have hmm : max 1 (min width 20) = (M : Int) := hM.symm
  have hst : padS (u : Int) width = padR M u [] := by
    have := padR_all u width
    rw [hmm, Int.toNat_natCast] at this
    rw [this]
    unfold padS
    rw [if_neg (by omega), List.nil_append]; rfl
  have HL := Lib.hid (padS_small u h1 width)
  obtain ⟨z, hz⟩ : ∃ z, z = padS (u : Int) width := ⟨_, rfl⟩
  rw [← hz] at hst HL ⊢
  have HS0 := Lib.hid hst
  have hn0 : ¬ (u : Int) < 0 := by omega
  clear hst hz hM
  go_enter Tryz.func48, Tryz.ntmps48
  go_wp2
  go_loop [6, 8] (fun uv tv => ∃ (k : Nat) (t : ByteArray), uv = .int .u64 (k : Int) ∧ tv = .string t ∧ k ≤ 9223372036854775807 ∧ Hid (z = padR M k t.data.toList)) (fun uv tv => (intOf uv).toNat + (M - (match tv with | .string t => t.size | _ => 0)))
  case atStart => exact ⟨u, ⟨#[]⟩, rfl, rfl, h1, Lib.hid HS0.out⟩
  case round =>
    obtain ⟨k, t, rfl, rfl, hk, HS⟩ := hrel
    have hts : t.size ≤ 100 := by have := padR_len M k t.data.toList; rw [← HS.out] at this; have := HL.out; have e : t.data.toList.length = t.size := rfl; omega
    obtain ⟨r, hr⟩ : ∃ r : Nat, r = k % 10 := ⟨_, rfl⟩
    obtain ⟨q, hq⟩ : ∃ q : Nat, q = k / 10 := ⟨_, rfl⟩
    have hr10 : r < 10 := by omega
    have er : (k : Int) % 10 = (r : Int) := by omega
    have eq : (k : Int) / 10 = (q : Int) := by omega
    have hqk : q ≤ 9223372036854775807 := by omega
    obtain ⟨c, hc⟩ : ∃ c, c = S [UInt8.ofNat (48 + r)] := ⟨_, rfl⟩
    have hx : (⟨#[48, 49, 50, 51, 52, 53, 54, 55, 56, 57]⟩ : ByteArray).extract r (r + 1) = c := by rw [dig_at r hr10, hc]
    have hc1 : c.size = 1 := by rw [hc]; rfl
    have a1 := fun W => run_string_add_sum (P := Tryz.prog) W c t (by omega)
    have a2 := fun W => run_string_add_sum (P := Tryz.prog) W (⟨#[]⟩ : ByteArray) t (by rw [show (⟨#[]⟩ : ByteArray).size = 0 from rfl]; omega)
    by_cases hgo : 0 < k ∨ t.size < M
    · have hstep : Hid (z = padR M q (c ++ t).data.toList) := Lib.hid (by rw [HS.out, padR_step (by simpa using hgo), hq, hc, S_cons, hr, S_data])
      have hm : q + (M - (1 + t.size)) < k + (M - t.size) := by omega
      have hsz : (c ++ t).size = 1 + t.size := by rw [ByteArray.size_append, hc1]
      have HM := Lib.hid (show q + (M - (c ++ t).size) < k + (M - t.size) by rw [hsz]; exact hm)
      clear hr hq hc HS hm hsz
      by_cases hk0 : 0 < k
      · have hk1 : (0 : Int) < (k : Int) := by omega
        clear hgo
        go_wp2
        go_round
        case rel => exact ⟨q, _, rfl, rfl, hqk, hstep⟩
        case measure => have := HM.out; rw [ByteArray.size_append] at this; simp [intOf]; exact this
      · have hk1 : ¬ (0 : Int) < (k : Int) := by omega
        have ht1 : (t.size : Int) < (M : Int) := by have := hgo.resolve_left hk0; omega
        clear hgo
        go_wp2
        go_round
        case rel => exact ⟨q, _, rfl, rfl, hqk, hstep⟩
        case measure => have := HM.out; rw [ByteArray.size_append] at this; simp [intOf]; exact this
    · have hk1 : ¬ (0 : Int) < (k : Int) := by omega
      have ht1 : ¬ (t.size : Int) < (M : Int) := by omega
      have hk0 : k = 0 := by omega
      have HE := Lib.hid (show z = t.data.toList by rw [HS.out, hk0]; exact padR_end (by show M ≤ t.size; omega))
      clear hgo hk0 hr hq hc HS
      go_wp2
      go_ret
      exact ⟨ret_str (by rw [HE.out, empty_app]), rfl⟩
set_option maxRecDepth 100000 in
theorem ref_Decimal (u : Nat) (w : World) (h1 : u ≤ 9223372036854775807) :
    Calls Tryz.prog 47 #[.int .i64 (u : Int)] w fun e w' => e = .returned (.string (S (Lib.itoa (u : Int)))) ∧ w = w' := by
  have K := Lib.hid (ref_Padded u 1 w h1 (by omega) (by omega))
  rw [padS_one] at K
  clear h1
  go_enter Tryz.func47, Tryz.ntmps47
  go_wp2_with (go_at_call 48; refine K.out.mono ?_; rintro e w2 ⟨rfl, rfl⟩)
  go_ret
  exact ⟨rfl, rfl⟩
end Go.Proofs.YtoeeodemimndlaaGreatDoor
