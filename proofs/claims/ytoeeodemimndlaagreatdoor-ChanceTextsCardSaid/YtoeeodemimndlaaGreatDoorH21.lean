/- The contract of the reference's Text. -/
import Derived.Test.YtoeeodemimndlaaGreatDoorH13
import Derived.Test.YtoeeodemimndlaaGreatDoorN4
set_option linter.unusedSimpArgs false
set_option linter.unusedVariables false
namespace Go.Proofs.YtoeeodemimndlaaGreatDoor
open Go.RowKit

theorem join_app (l : List (List UInt8)) (x sep : List UInt8) : Lib.join (l ++ [x]) sep = Lib.join l sep ++ (if l.length = 0 then [] else sep) ++ x := by
  cases l with
  | nil => rw [List.nil_append, Lib.join_one, Lib.join_nil]; rfl
  | cons y r =>
    rw [List.cons_append, Lib.join_cons, Lib.join_cons, if_neg (by simp)]
    have e : Lib.joinTail sep (r ++ [x]) = Lib.joinTail sep r ++ (sep ++ x) := by unfold Lib.joinTail; simp
    rw [e]; simp
theorem text_step {d : List Otc} {k : Nat} (hk : k < d.length) : Lib.join ((d.take (k + 1)).map otcW) [32] = Lib.join ((d.take k).map otcW) [32] ++ (if k = 0 then [] else [32]) ++ (Lib.itoa d[k].runs ++ (if d[k].wick = true then [87] else []) ++ [58] ++ Lib.itoa d[k].wt) := by
  rw [List.take_succ_eq_append_getElem hk, List.map_append, List.map_cons, List.map_nil, join_app, List.length_map, List.length_take, Nat.min_eq_left (by omega)]
  rfl
set_option maxRecDepth 100000 in
set_option maxHeartbeats 2000000 in
theorem ref_Text (d : List Otc) (v : Value) (w : World) (h : Sl 3 elOtc w (· < w.heap.size) v d) : Calls Tryz.prog 20 #[v] w fun e w' => e = .returned (.tuple #[.string (S (textC d).1), .int .i64 (textC d).2]) ∧ Below w.heap.size w w' := by
  obtain ⟨z, hz⟩ : ∃ z, z = textC d := ⟨_, rfl⟩
  rw [← hz]
  unfold textC at hz
  have kc := ref_CCheck d v w h
  obtain ⟨A, c, rfl, hc, hc2⟩ := h.shape
  by_cases h0 : checkD d = 0
  · rw [if_neg (fun k => k h0)] at hz
    rw [h0] at kc
    have hok := checkD_ok h0
    have hl16 := hok.len.2
    have HOK := Lib.hid hok.each
    have KC := Lib.hid kc
    have HZ := Lib.hid hz
    have H := Lib.hid h
    clear hz kc hok h0 h
    go_enter Tryz.func20, Tryz.ntmps20
    go_wp2_with (go_at_call 43; refine KC.out.mono ?_; rintro e w1 ⟨rfl, hb1⟩; have HB1 := Lib.hid hb1; clear hb1)
    go_loopw [5, 15] (fun tv i wr => ∃ (k : Nat) (t : ByteArray), k ≤ d.length ∧ i = .int .i64 k ∧ tv = .string t ∧ t.size ≤ 51 * k ∧ Below w.heap.size w wr ∧ Hid (t.data.toList = Lib.join ((d.take k).map otcW) [32])) (fun _ i _ => d.length - (intOf i).toNat)
    case atStart => exact ⟨0, ⟨#[]⟩, Nat.zero_le _, rfl, rfl, Nat.zero_le _, HB1.out, Lib.hid rfl⟩
    case round =>
      obtain ⟨k, t, hk, rfl, rfl, ht, hb, HS⟩ := hrel
      have HB := Lib.hid hb
      clear hb
      by_cases hlt : k < d.length
      · obtain ⟨b, o, rfl, hbl, y0, y1, y2⟩ := otc_at (otc_below H.out HB.out) hlt
        have hoo := HOK.out _ (List.getElem_mem hlt)
        have hst := text_step hlt
        obtain ⟨ru, hru⟩ : ∃ r : Nat, d[k].runs = (r : Int) := ⟨d[k].runs.toNat, by have := hoo.r0; omega⟩
        obtain ⟨wt, hwt⟩ : ∃ r : Nat, d[k].wt = (r : Int) := ⟨d[k].wt.toNat, by have := hoo.w1; omega⟩
        have hru7 : ru ≤ 7 := by have := hoo.r7; omega
        have hwt16 : wt ≤ 16 := by have := hoo.w16; omega
        obtain ⟨wk, hwk⟩ : ∃ b, b = d[k].wick := ⟨_, rfl⟩
        rw [hru] at y0
        rw [← hwk] at y1
        rw [hwt] at y2
        rw [hru, hwt, ← hwk] at hst
        have kd1 := fun W => ref_Decimal ru W (by omega)
        have kd2 := fun W => ref_Decimal wt W (by omega)
        obtain ⟨b1, hb1⟩ : ∃ b, b = S (Lib.itoa (ru : Int)) := ⟨_, rfl⟩
        obtain ⟨b2, hb2⟩ : ∃ b, b = S (Lib.itoa (wt : Int)) := ⟨_, rfl⟩
        have s1 : b1.size ≤ 20 := by rw [hb1, S_size]; exact itoa_le (by omega) (by omega)
        have s2 : b2.size ≤ 20 := by rw [hb2, S_size]; exact itoa_le (by omega) (by omega)
        have e1 : Lib.itoa (ru : Int) = b1.data.toList := by rw [hb1]; rfl
        have e2 : Lib.itoa (wt : Int) = b2.data.toList := by rw [hb2]; rfl
        rw [e1, e2, ← HS.out] at hst
        rw [← hb1] at kd1
        rw [← hb2] at kd2
        have KD1 := Lib.hid kd1
        have KD2 := Lib.hid kd2
        have tok0 : True := trivial
        have z1 : (⟨#[32]⟩ : ByteArray).size = 1 := rfl
        have z2 : (⟨#[87]⟩ : ByteArray).size = 1 := rfl
        have z3 : (⟨#[58]⟩ : ByteArray).size = 1 := rfl
        clear kd1 kd2 hb1 hb2 e1 e2 hru hwt hwk hoo HS
        have a0 := fun W => run_string_add_sum (P := Tryz.prog) W (⟨#[58]⟩ : ByteArray) b2 (by omega)
        have hk0 : k = 0 ∨ 0 < k := by omega
        cases wk
        case false =>
          by_cases hk1 : 0 < k
          · have hki : (0 : Int) < (k : Int) := by omega
            have a1 := fun W => run_string_add_sum (P := Tryz.prog) W (t) ((⟨#[32]⟩ : ByteArray)) (by (try simp only [ByteArray.size_append]); omega)
            have a2 := fun W => run_string_add_sum (P := Tryz.prog) W (t ++ (⟨#[32]⟩ : ByteArray)) (b1) (by (try simp only [ByteArray.size_append]); omega)
            have a3 := fun W => run_string_add_sum (P := Tryz.prog) W (t ++ (⟨#[32]⟩ : ByteArray) ++ b1) (((⟨#[58]⟩ : ByteArray) ++ b2)) (by (try simp only [ByteArray.size_append]); omega)
            have HN := Lib.hid (show (t ++ (⟨#[32]⟩ : ByteArray) ++ b1 ++ ((⟨#[58]⟩ : ByteArray) ++ b2)).data.toList = Lib.join ((d.take (k + 1)).map otcW) [32] by rw [hst]; rw [if_neg (by omega)]; simp [ByteArray.data_append])
            have hsz : (t ++ (⟨#[32]⟩ : ByteArray) ++ b1 ++ ((⟨#[58]⟩ : ByteArray) ++ b2)).size ≤ 51 * (k + 1) := by simp only [ByteArray.size_append]; omega
            clear hst hk0 hk1
            go_wp2_with (first
              | (clear tok0; go_at_call 47; refine (KD1.out _).mono ?_; rintro e w4 ⟨rfl, rfl⟩; have tok1 : True := trivial)
              | (clear tok1; go_at_call 47; refine (KD2.out _).mono ?_; rintro e w5 ⟨rfl, rfl⟩; have tok2 : True := trivial))
            go_roundw
            case rel => exact ⟨k + 1, _, by omega, by go_num, rfl, hsz, HB.out.alloc HB.out.size _, HN⟩
            case measure => simp [intOf]; omega
          · have hki : ¬ (0 : Int) < (k : Int) := by omega
            have a1 := fun W => run_string_add_sum (P := Tryz.prog) W (t) (b1) (by (try simp only [ByteArray.size_append]); omega)
            have a2 := fun W => run_string_add_sum (P := Tryz.prog) W (t ++ b1) (((⟨#[58]⟩ : ByteArray) ++ b2)) (by (try simp only [ByteArray.size_append]); omega)
            have HN := Lib.hid (show (t ++ b1 ++ ((⟨#[58]⟩ : ByteArray) ++ b2)).data.toList = Lib.join ((d.take (k + 1)).map otcW) [32] by rw [hst]; rw [if_pos (by omega)]; simp [ByteArray.data_append])
            have hsz : (t ++ b1 ++ ((⟨#[58]⟩ : ByteArray) ++ b2)).size ≤ 51 * (k + 1) := by simp only [ByteArray.size_append]; omega
            clear hst hk0 hk1
            go_wp2_with (first
              | (clear tok0; go_at_call 47; refine (KD1.out _).mono ?_; rintro e w4 ⟨rfl, rfl⟩; have tok1 : True := trivial)
              | (clear tok1; go_at_call 47; refine (KD2.out _).mono ?_; rintro e w5 ⟨rfl, rfl⟩; have tok2 : True := trivial))
            go_roundw
            case rel => exact ⟨k + 1, _, by omega, by go_num, rfl, hsz, HB.out.alloc HB.out.size _, HN⟩
            case measure => simp [intOf]; omega
        case true =>
          by_cases hk1 : 0 < k
          · have hki : (0 : Int) < (k : Int) := by omega
            have a1 := fun W => run_string_add_sum (P := Tryz.prog) W (t) ((⟨#[32]⟩ : ByteArray)) (by (try simp only [ByteArray.size_append]); omega)
            have a2 := fun W => run_string_add_sum (P := Tryz.prog) W (t ++ (⟨#[32]⟩ : ByteArray)) (b1) (by (try simp only [ByteArray.size_append]); omega)
            have a3 := fun W => run_string_add_sum (P := Tryz.prog) W (t ++ (⟨#[32]⟩ : ByteArray) ++ b1) ((⟨#[87]⟩ : ByteArray)) (by (try simp only [ByteArray.size_append]); omega)
            have a4 := fun W => run_string_add_sum (P := Tryz.prog) W (t ++ (⟨#[32]⟩ : ByteArray) ++ b1 ++ (⟨#[87]⟩ : ByteArray)) (((⟨#[58]⟩ : ByteArray) ++ b2)) (by (try simp only [ByteArray.size_append]); omega)
            have HN := Lib.hid (show (t ++ (⟨#[32]⟩ : ByteArray) ++ b1 ++ (⟨#[87]⟩ : ByteArray) ++ ((⟨#[58]⟩ : ByteArray) ++ b2)).data.toList = Lib.join ((d.take (k + 1)).map otcW) [32] by rw [hst]; rw [if_neg (by omega)]; simp [ByteArray.data_append])
            have hsz : (t ++ (⟨#[32]⟩ : ByteArray) ++ b1 ++ (⟨#[87]⟩ : ByteArray) ++ ((⟨#[58]⟩ : ByteArray) ++ b2)).size ≤ 51 * (k + 1) := by simp only [ByteArray.size_append]; omega
            clear hst hk0 hk1
            go_wp2_with (first
              | (clear tok0; go_at_call 47; refine (KD1.out _).mono ?_; rintro e w4 ⟨rfl, rfl⟩; have tok1 : True := trivial)
              | (clear tok1; go_at_call 47; refine (KD2.out _).mono ?_; rintro e w5 ⟨rfl, rfl⟩; have tok2 : True := trivial))
            go_roundw
            case rel => exact ⟨k + 1, _, by omega, by go_num, rfl, hsz, HB.out.alloc HB.out.size _, HN⟩
            case measure => simp [intOf]; omega
          · have hki : ¬ (0 : Int) < (k : Int) := by omega
            have a1 := fun W => run_string_add_sum (P := Tryz.prog) W (t) (b1) (by (try simp only [ByteArray.size_append]); omega)
            have a2 := fun W => run_string_add_sum (P := Tryz.prog) W (t ++ b1) ((⟨#[87]⟩ : ByteArray)) (by (try simp only [ByteArray.size_append]); omega)
            have a3 := fun W => run_string_add_sum (P := Tryz.prog) W (t ++ b1 ++ (⟨#[87]⟩ : ByteArray)) (((⟨#[58]⟩ : ByteArray) ++ b2)) (by (try simp only [ByteArray.size_append]); omega)
            have HN := Lib.hid (show (t ++ b1 ++ (⟨#[87]⟩ : ByteArray) ++ ((⟨#[58]⟩ : ByteArray) ++ b2)).data.toList = Lib.join ((d.take (k + 1)).map otcW) [32] by rw [hst]; rw [if_pos (by omega)]; simp [ByteArray.data_append])
            have hsz : (t ++ b1 ++ (⟨#[87]⟩ : ByteArray) ++ ((⟨#[58]⟩ : ByteArray) ++ b2)).size ≤ 51 * (k + 1) := by simp only [ByteArray.size_append]; omega
            clear hst hk0 hk1
            go_wp2_with (first
              | (clear tok0; go_at_call 47; refine (KD1.out _).mono ?_; rintro e w4 ⟨rfl, rfl⟩; have tok1 : True := trivial)
              | (clear tok1; go_at_call 47; refine (KD2.out _).mono ?_; rintro e w5 ⟨rfl, rfl⟩; have tok2 : True := trivial))
            go_roundw
            case rel => exact ⟨k + 1, _, by omega, by go_num, rfl, hsz, HB.out.alloc HB.out.size _, HN⟩
            case measure => simp [intOf]; omega
      · have hkl : k = d.length := by omega
        subst hkl
        have HZ2 := Lib.hid (show z = (t.data.toList, 0) by rw [HZ.out, HS.out, List.take_of_length_le (Nat.le_refl _)])
        clear HS
        go_wp2
        go_ret2
        exact ⟨by rw [HZ2.out] <;> rfl, HB.out⟩
  · rw [if_pos h0] at hz
    obtain ⟨z9, hz9⟩ : ∃ z9, z9 = checkD d := ⟨_, rfl⟩
    rw [← hz9] at kc hz h0
    have g1 : (z9 != 0) = true := by rw [bne_iff_ne]; exact h0
    have KC := Lib.hid kc
    have HZ := Lib.hid hz
    clear kc hz h0 h hz9
    go_enter Tryz.func20, Tryz.ntmps20
    go_wp2_with (go_at_call 43; refine KC.out.mono ?_; rintro e w2 ⟨rfl, hb2⟩; have HB2 := Lib.hid hb2; clear hb2)
    go_ret2
    exact ⟨by rw [HZ.out] <;> rfl, HB2.out⟩
end Go.Proofs.YtoeeodemimndlaaGreatDoor
