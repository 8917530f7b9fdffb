/- The contract of text.quoted. -/
import Derived.Test.YticfopjbaoigfaaGreatDoorT1
set_option linter.unusedSimpArgs false
set_option linter.unusedVariables false
namespace Go.Proofs.YticfopjbaoigfaaGreatDoor
open Go.RowKit

theorem ret_q {q : List UInt8 × Nat × Bool} (x : List UInt8) (m : Nat) (b : Bool) {n : Int} (h : q = (x, m, b)) (hn : n = m) : Ending.returned (.tuple #[.string (S x), .int .i64 n, .bool b]) = .returned (.tuple #[.string (S q.1), .int .i64 q.2.1, .bool q.2.2]) := by rw [h, hn]
theorem byte_eq {c : UInt8} (n : UInt8) (h : (c.toNat : Int) = (n.toNat : Int)) : c = n := UInt8.toNat_inj.1 (by omega)
theorem byte_ne {c : UInt8} (n : UInt8) (h : ¬ (c.toNat : Int) = (n.toNat : Int)) : c ≠ n := fun e => h (by rw [e])

set_option maxRecDepth 100000 in
set_option maxHeartbeats 1000000 in
theorem text_quoted (s : ByteArray) (i : Nat) (w : World) (hi : i < s.size) (hs : s.size ≤ 140737488351232) :
    Calls Tryz.prog 99 #[.string s, .int .i64 i] w fun e w' =>
      e = .returned (.tuple #[.string (S (quotedAt s (i + 1) []).1), .int .i64 (quotedAt s (i + 1) []).2.1, .bool (quotedAt s (i + 1) []).2.2]) ∧ Below w.heap.size w w' := by
  have HQ : ∃ q, q = quotedAt s (i + 1) [] := ⟨_, rfl⟩
  obtain ⟨q, hq⟩ := HQ
  rw [← hq]
  have HQ := Lib.hid hq
  clear hq
  go_enter Tryz.func99, Tryz.ntmps99
  go_wp2
  go_loopw [7, 8] (fun v j wr => ∃ (k : Nat) (acc : List UInt8), k ≤ s.size ∧ j = .int .i64 k ∧ OwnSl 1 elByte 5 w.heap.size wr v acc ∧ acc.length ≤ k ∧ Hid (quotedAt s k acc = q) ∧ Below w.heap.size w wr)
    (fun _ j _ => s.size - (intOf j).toNat)
  case atStart => exact ⟨i + 1, [], by omega, by go_num, OwnSl.nil _, by simp, HQ.out.symm, Below.refl _ _⟩
  case round =>
    obtain ⟨k, acc, hk, rfl, hown, hacc, hqk, hbel⟩ := hrel
    have hbs := hbel.size
    by_cases hlt : k < s.size
    · by_cases hc : s[k] = 34
      · have c34 : ((s[k].toNat : Int) == 34) = true := by rw [hc]; rfl
        have Hc := Lib.hid hc
        clear hc
        have hconv := run_string_of Tryz.underlying101 Tryz.underlying9 Tryz.underlying5 wr (hown.sl elByte_good)
        by_cases h2 : k + 1 < s.size
        · have e2 : ((k : Int) + 1 == (s.size : Int)) = false := beq_eq_false_iff_ne.2 (by omega)
          by_cases hd : s[k + 1] = 34
          · have d34 : ((s[k + 1].toNat : Int) != 34) = false := by rw [hd]; rfl
            have Hd := Lib.hid hd
            clear hd hconv
            go_wp2_with (at_builtin; refine wpList_append_sl _ rfl (.tmp 54) (.tmp 58) _ rfl E_byte elByte_good w.heap.size _ acc rfl (hown.alloc elByte_good _) ⟨wr.heap.size, 0, none⟩ 1 [.int .u8 _] rfl s[k + 1] rfl (cell_one_new _ _ _) (oneCells rfl) rfl (by simp only [maxLen]; omega) (by omega) (by simp; omega) ?_; intro v1 w1 hown1 hg1 hat1)
            have hb1 := below_own (hbel.alloc (by omega) _) (hown.alloc elByte_good _) hg1 (Nat.le_refl _) (by simp; omega)
            go_wp2
            go_roundw
            case rel => exact ⟨k + 2, _, by omega, by go_num, hown1, by simp; omega, by unfold Hid; rw [Hd.out, ← quoted_two s k acc hlt Hc.out h2 Hd.out]; exact hqk.out, hb1⟩
            case measure => simp [intOf]; omega
          · have d34 : ((s[k + 1].toNat : Int) != 34) = true := by rw [bne_iff_ne]; exact fun e => hd (byte_eq 34 e)
            have Hd := Lib.hid hd
            clear hd
            go_wp2
            go_ret3
            exact ⟨ret_q acc (k + 1) true (by rw [← hqk.out, quoted_close s k acc hlt Hc.out h2 Hd.out]) (by omega), hbel⟩
        · have e2 : ((k : Int) + 1 == (s.size : Int)) = true := beq_iff_eq.2 (by omega)
          go_wp2
          go_ret3
          exact ⟨ret_q acc (k + 1) true (by rw [← hqk.out, quoted_last s k acc hlt Hc.out (by omega)]) (by omega), hbel⟩
      · have c34 : ((s[k].toNat : Int) == 34) = false := beq_eq_false_iff_ne.2 fun e => hc (byte_eq 34 e)
        have Hc := Lib.hid hc
        clear hc
        cases hp : printedB s[k]
        · have Hp := Lib.hid hp
          go_wp2_with (go_at_call 136; refine (text_printed _ _).mono ?_; rintro e w' ⟨rfl, rfl⟩)
          go_ret3
          exact ⟨ret_q [] k false (by rw [← hqk.out, quoted_bad s k acc hlt Hc.out Hp.out]) rfl, hbel⟩
        · have Hp := Lib.hid hp
          go_wp2_with (first | (go_at_call 136; refine (text_printed _ _).mono ?_; rintro e w' ⟨rfl, rfl⟩) | (at_builtin; refine wpList_append_sl _ rfl (.tmp 54) (.tmp 58) _ rfl E_byte elByte_good w.heap.size _ acc rfl (hown.alloc elByte_good _) ⟨wr.heap.size, 0, none⟩ 1 [.int .u8 _] rfl s[k] rfl (cell_one_new _ _ _) (oneCells rfl) rfl (by simp only [maxLen]; omega) (by omega) (by simp; omega) ?_; intro v1 w1 hown1 hg1 hat1))
          have hb1 := below_own (hbel.alloc (by omega) _) (hown.alloc elByte_good _) hg1 (Nat.le_refl _) (by simp; omega)
          go_wp2
          go_roundw
          case rel => exact ⟨k + 1, _, by omega, by go_num, hown1, by simp; omega, by unfold Hid; rw [← quoted_step s k acc hlt Hc.out Hp.out]; exact hqk.out, hb1⟩
          case measure => simp [intOf]; omega
    · go_wp2
      go_ret3
      exact ⟨ret_q [] s.size false (by rw [← hqk.out, quoted_end s k acc (by omega)]) rfl, hbel⟩
end Go.Proofs.YticfopjbaoigfaaGreatDoor
