/- The reference's contract: reading a quoted string. -/
import Derived.Test.YtdgejeiiiholnaaGreatDoorF3
set_option linter.unusedSimpArgs false
set_option linter.unusedVariables false
namespace Go.Proofs.YtdgejeiiiholnaaGreatDoor
open Go.RowKit

/-- How the reference hands back what was read of a quoted string. -/
def rqV (q : List UInt8 × Nat × Bool) : Value := if q.2.2 then .tuple #[.string (S q.1), .int .i64 q.2.1, .int .i64 (-1)] else .tuple #[.string ⟨#[]⟩, .int .i64 0, .int .i64 q.2.1]
theorem rq_ok {q : List UInt8 × Nat × Bool} (x : List UInt8) (m : Nat) {n : Int} (h : q = (x, m, true)) (hn : n = m) : Ending.returned (.tuple #[.string (S x), .int .i64 n, .int .i64 (-1)]) = .returned (rqV q) := by rw [h, hn]; rfl
theorem rq_bad {q : List UInt8 × Nat × Bool} (m : Nat) {n : Int} (h : q = ([], m, false)) (hn : n = m) : Ending.returned (.tuple #[.string ⟨#[]⟩, .int .i64 0, .int .i64 n]) = .returned (rqV q) := by rw [h, hn]; rfl
theorem printedB_iff (c : UInt8) : printedB c = true ↔ (32 ≤ (c.toNat : Int) ∧ (c.toNat : Int) ≤ 126) := by
  unfold printedB
  simp only [Bool.and_eq_true, decide_eq_true_eq, UInt8.le_iff_toNat_le]
  have e1 : (32 : UInt8).toNat = 32 := rfl
  have e2 : (126 : UInt8).toNat = 126 := rfl
  omega
set_option maxRecDepth 100000 in
set_option maxHeartbeats 1000000 in
theorem ref_quoted (s : ByteArray) (i : Nat) (w : World) (hi : i < s.size) (hs : s.size ≤ 140737488351232) :
    Calls Tryz.prog 94 #[.string s, .int .i64 i] w fun e w' => e = .returned (rqV (quotedAt s (i + 1) [])) ∧ w' = w := by
  obtain ⟨q, hq⟩ : ∃ q, q = quotedAt s (i + 1) [] := ⟨_, rfl⟩
  rw [← hq]
  have HQ := Lib.hid hq
  clear hq
  go_enter Tryz.func94, Tryz.ntmps94
  go_wp2
  go_loop [1, 7] (fun j v => ∃ (k : Nat) (acc : List UInt8), k ≤ s.size ∧ j = .int .i64 k ∧ v = .string (S acc) ∧ acc.length ≤ k ∧ Hid (quotedAt s k acc = q))
    (fun j _ => s.size - (intOf j).toNat)
  case atStart => exact ⟨i + 1, [], by omega, by go_num, rfl, by simp, HQ.out.symm⟩
  case round =>
    obtain ⟨k, acc, hk, rfl, rfl, hacc, hqk⟩ := hrel
    by_cases hlt : k < s.size
    · by_cases h32 : (s[k].toNat : Int) < 32
      · have hp : printedB s[k] = false := by rw [Bool.eq_false_iff]; intro h; have := (printedB_iff _).1 h; omega
        have hc : s[k] ≠ 34 := by intro e; rw [e] at h32; revert h32; decide
        have HN := Lib.hid (quoted_bad s k acc hlt hc hp)
        clear hp hc
        go_wp2
        go_ret3
        exact ⟨rq_bad k (by rw [← hqk.out, HN.out]) rfl, rfl⟩
      · by_cases h126 : (126 : Int) < (s[k].toNat : Int)
        · have hp : printedB s[k] = false := by rw [Bool.eq_false_iff]; intro h; have := (printedB_iff _).1 h; omega
          have hc : s[k] ≠ 34 := by intro e; rw [e] at h126; revert h126; decide
          have HN := Lib.hid (quoted_bad s k acc hlt hc hp)
          clear hp hc
          go_wp2
          go_ret3
          exact ⟨rq_bad k (by rw [← hqk.out, HN.out]) rfl, rfl⟩
        · have hp : printedB s[k] = true := (printedB_iff _).2 (by omega)
          have d1 : decide ((s[k].toNat : Int) < 32) = false := decide_eq_false h32
          have d2 : decide ((126 : Int) < (s[k].toNat : Int)) = false := decide_eq_false h126
          have Hp := Lib.hid hp
          clear hp h32 h126
          by_cases hc : s[k] = 34
          · have c34 : ((s[k].toNat : Int) == 34) = true := by rw [hc]; rfl
            by_cases h2 : k + 1 < s.size
            · have e2 : decide ((s.size : Int) ≤ (k : Int) + 1) = false := decide_eq_false (by omega)
              by_cases hd : s[k + 1] = 34
              · have d34 : ((s[k + 1].toNat : Int) != 34) = false := by rw [hd]; rfl
                have hone := S_one s (k + 1) h2
                rw [hd] at hone
                have HN := Lib.hid (quoted_two s k acc hlt hc h2 hd)
                have a1 := fun W => run_string_add_sum (P := Tryz.prog) W (S acc) (s.extract (k + 1) (k + 1 + 1)) (by rw [S_size, hone, S_size]; simp; omega)
                have HO := Lib.hid hone
                have hi1 : (k : Int) + 1 + 1 ≤ (s.size : Int) := by omega
                clear hc hd hone
                go_wp2
                go_round
                case rel => exact ⟨k + 2, acc ++ [34], by omega, by go_num, by rw [HO.out, S_app], by simp; omega, by unfold Hid; rw [← HN.out]; exact hqk.out⟩
                case measure => simp [intOf]; omega
              · have d34 : ((s[k + 1].toNat : Int) != 34) = true := by rw [bne_iff_ne]; exact fun e => hd (byte_eq 34 e)
                have HN := Lib.hid (quoted_close s k acc hlt hc h2 hd)
                clear hc hd
                go_wp2
                go_ret3
                exact ⟨rq_ok acc (k + 1) (by rw [← hqk.out, HN.out]) (by omega), rfl⟩
            · have e2 : decide ((s.size : Int) ≤ (k : Int) + 1) = true := decide_eq_true (by omega)
              have HN := Lib.hid (quoted_last s k acc hlt hc (by omega))
              clear hc
              go_wp2
              go_ret3
              exact ⟨rq_ok acc (k + 1) (by rw [← hqk.out, HN.out]) (by omega), rfl⟩
          · have c34 : ((s[k].toNat : Int) == 34) = false := beq_eq_false_iff_ne.2 fun e => hc (byte_eq 34 e)
            have hone := S_one s k hlt
            have HN := Lib.hid (quoted_step s k acc hlt hc Hp.out)
            have a1 := fun W => run_string_add_sum (P := Tryz.prog) W (S acc) (s.extract k (k + 1)) (by rw [S_size, hone, S_size]; simp; omega)
            have HO := Lib.hid hone
            have hi1 : (k : Int) + 1 ≤ (s.size : Int) := by omega
            clear hc hone
            go_wp2
            go_round
            case rel => exact ⟨k + 1, acc ++ [s[k]], by omega, by go_num, by rw [HO.out, S_app], by simp; omega, by unfold Hid; rw [← HN.out]; exact hqk.out⟩
            case measure => simp [intOf]; omega
    · have HN := Lib.hid (quoted_end s k acc (by omega))
      go_wp2
      go_ret3
      exact ⟨rq_bad s.size (by rw [← hqk.out, HN.out]) rfl, rfl⟩
end Go.Proofs.YtdgejeiiiholnaaGreatDoor
