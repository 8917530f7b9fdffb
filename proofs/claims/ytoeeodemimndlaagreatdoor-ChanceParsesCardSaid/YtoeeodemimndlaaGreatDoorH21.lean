/- The contract of the reference's Text. -/
import Derived.Test.YtoeeodemimndlaaGreatDoorH13
import Derived.Test.YtoeeodemimndlaaGreatDoorN3
set_option linter.unusedSimpArgs false
set_option linter.unusedVariables false
namespace Go.Proofs.YtoeeodemimndlaaGreatDoor
section
open Go.RowKit

theorem dig_at : ∀ r : Nat, r < 10 → (⟨#[48, 49, 50, 51, 52, 53, 54, 55, 56, 57]⟩ : ByteArray).extract r (r + 1) = S [UInt8.ofNat (48 + r)] := by
  intro r h
  match r, h with
  | 0, _ => rfl
  | 1, _ => rfl
  | 2, _ => rfl
  | 3, _ => rfl
  | 4, _ => rfl
  | 5, _ => rfl
  | 6, _ => rfl
  | 7, _ => rfl
  | 8, _ => rfl
  | 9, _ => rfl
theorem padR_len (M u : Nat) (s : List UInt8) : s.length ≤ (padR M u s).length := by
  unfold padR
  split
  · simp
  · simp; omega
theorem padS_small (u : Nat) (h : u ≤ 9223372036854775807) (width : Int) : (padS (u : Int) width).length ≤ 100 := by
  unfold padS
  have := decDigits_le (u := u) (by omega)
  simp only [List.length_append, List.length_replicate]
  rw [if_neg (by omega), Int.natAbs_natCast]
  simp; omega
theorem S_cons (c : UInt8) (t : ByteArray) : S [c] ++ t = S (c :: t.data.toList) := by
  apply ByteArray.ext; apply Array.ext'
  simp [S, ByteArray.data_append]
theorem empty_app (t : ByteArray) : (⟨#[]⟩ : ByteArray) ++ t = t := by
  apply ByteArray.ext; apply Array.ext'
  simp [ByteArray.data_append]
set_option maxRecDepth 100000 in
set_option maxHeartbeats 1000000 in
theorem ref_Padded (u : Nat) (width : Int) (w : World) (h1 : u ≤ 9223372036854775807) (k0 : -9223372036854775808 ≤ width) (k1 : width ≤ 9223372036854775807) :
    Calls Tryz.prog 48 #[.int .i64 (u : Int), .int .i64 width] w fun e w' => e = .returned (.string (S (padS (u : Int) width))) ∧ w = w' := by
  obtain ⟨M, hM⟩ : ∃ M : Nat, (M : Int) = max 1 (min width 20) := ⟨(max 1 (min width 20)).toNat, by omega⟩
  have hm20 : M ≤ 20 := by omega
  have hm1 : 1 ≤ M := by omega
  have hmm : max 1 (min width 20) = (M : Int) := hM.symm
  have hst : padS (u : Int) width = padR M u [] := by
    have := padR_all u width
    rw [hmm, Int.toNat_natCast] at this
    rw [this]
    unfold padS
    rw [if_neg (by omega), List.nil_append]; rfl
  have HL := Lib.hid (padS_small u h1 width)
  obtain ⟨z, hz⟩ : ∃ z, z = padS (u : Int) width := ⟨_, rfl⟩
  rw [← hz] at hst HL ⊢
  have HS0 := Lib.hid hst
  have hn0 : ¬ (u : Int) < 0 := by omega
  clear hst hz hM
  go_enter Tryz.func48, Tryz.ntmps48
  go_wp2
  go_loop [6, 8] (fun uv tv => ∃ (k : Nat) (t : ByteArray), uv = .int .u64 (k : Int) ∧ tv = .string t ∧ k ≤ 9223372036854775807 ∧ Hid (z = padR M k t.data.toList)) (fun uv tv => (intOf uv).toNat + (M - (match tv with | .string t => t.size | _ => 0)))
  case atStart => exact ⟨u, ⟨#[]⟩, rfl, rfl, h1, Lib.hid HS0.out⟩
  case round =>
    obtain ⟨k, t, rfl, rfl, hk, HS⟩ := hrel
    have hts : t.size ≤ 100 := by have := padR_len M k t.data.toList; rw [← HS.out] at this; have := HL.out; have e : t.data.toList.length = t.size := rfl; omega
    obtain ⟨r, hr⟩ : ∃ r : Nat, r = k % 10 := ⟨_, rfl⟩
    obtain ⟨q, hq⟩ : ∃ q : Nat, q = k / 10 := ⟨_, rfl⟩
    have hr10 : r < 10 := by omega
    have er : (k : Int) % 10 = (r : Int) := by omega
    have eq : (k : Int) / 10 = (q : Int) := by omega
    have hqk : q ≤ 9223372036854775807 := by omega
    obtain ⟨c, hc⟩ : ∃ c, c = S [UInt8.ofNat (48 + r)] := ⟨_, rfl⟩
    have hx : (⟨#[48, 49, 50, 51, 52, 53, 54, 55, 56, 57]⟩ : ByteArray).extract r (r + 1) = c := by rw [dig_at r hr10, hc]
    have hc1 : c.size = 1 := by rw [hc]; rfl
    have a1 := fun W => run_string_add_sum (P := Tryz.prog) W c t (by omega)
    have a2 := fun W => run_string_add_sum (P := Tryz.prog) W (⟨#[]⟩ : ByteArray) t (by rw [show (⟨#[]⟩ : ByteArray).size = 0 from rfl]; omega)
    by_cases hgo : 0 < k ∨ t.size < M
    · have hstep : Hid (z = padR M q (c ++ t).data.toList) := Lib.hid (by rw [HS.out, padR_step (by simpa using hgo), hq, hc, S_cons, hr, S_data])
      have hm : q + (M - (1 + t.size)) < k + (M - t.size) := by omega
      have hsz : (c ++ t).size = 1 + t.size := by rw [ByteArray.size_append, hc1]
      have HM := Lib.hid (show q + (M - (c ++ t).size) < k + (M - t.size) by rw [hsz]; exact hm)
      clear hr hq hc HS hm hsz
      by_cases hk0 : 0 < k
      · have hk1 : (0 : Int) < (k : Int) := by omega
        clear hgo
        go_wp2
        go_round
        case rel => exact ⟨q, _, rfl, rfl, hqk, hstep⟩
        case measure => have := HM.out; rw [ByteArray.size_append] at this; simp [intOf]; exact this
      · have hk1 : ¬ (0 : Int) < (k : Int) := by omega
        have ht1 : (t.size : Int) < (M : Int) := by have := hgo.resolve_left hk0; omega
        clear hgo
        go_wp2
        go_round
        case rel => exact ⟨q, _, rfl, rfl, hqk, hstep⟩
        case measure => have := HM.out; rw [ByteArray.size_append] at this; simp [intOf]; exact this
    · have hk1 : ¬ (0 : Int) < (k : Int) := by omega
      have ht1 : ¬ (t.size : Int) < (M : Int) := by omega
      have hk0 : k = 0 := by omega
      have HE := Lib.hid (show z = t.data.toList by rw [HS.out, hk0]; exact padR_end (by show M ≤ t.size; omega))
      clear hgo hk0 hr hq hc HS
      go_wp2
      go_ret
      exact ⟨ret_str (by rw [HE.out, empty_app]), rfl⟩
set_option maxRecDepth 100000 in
theorem ref_Decimal (u : Nat) (w : World) (h1 : u ≤ 9223372036854775807) :
    Calls Tryz.prog 47 #[.int .i64 (u : Int)] w fun e w' => e = .returned (.string (S (Lib.itoa (u : Int)))) ∧ w = w' := by
  have K := Lib.hid (ref_Padded u 1 w h1 (by omega) (by omega))
  rw [padS_one] at K
  clear h1
  go_enter Tryz.func47, Tryz.ntmps47
  go_wp2_with (go_at_call 48; refine K.out.mono ?_; rintro e w2 ⟨rfl, rfl⟩)
  go_ret
  exact ⟨rfl, rfl⟩
end
open Go.RowKit

theorem join_app (l : List (List UInt8)) (x sep : List UInt8) : Lib.join (l ++ [x]) sep = Lib.join l sep ++ (if l.length = 0 then [] else sep) ++ x := by
  cases l with
  | nil => rw [List.nil_append, Lib.join_one, Lib.join_nil]; rfl
  | cons y r =>
    rw [List.cons_append, Lib.join_cons, Lib.join_cons, if_neg (by simp)]
    have e : Lib.joinTail sep (r ++ [x]) = Lib.joinTail sep r ++ (sep ++ x) := by unfold Lib.joinTail; simp
    rw [e]; simp
theorem text_step {d : List Otc} {k : Nat} (hk : k < d.length) : Lib.join ((d.take (k + 1)).map otcW) [32] = Lib.join ((d.take k).map otcW) [32] ++ (if k = 0 then [] else [32]) ++ (Lib.itoa d[k].runs ++ (if d[k].wick = true then [87] else []) ++ [58] ++ Lib.itoa d[k].wt) := by
  rw [List.take_succ_eq_append_getElem hk, List.map_append, List.map_cons, List.map_nil, join_app, List.length_map, List.length_take, Nat.min_eq_left (by omega)]
  rfl
set_option maxRecDepth 100000 in
set_option maxHeartbeats 2000000 in
theorem ref_Text (d : List Otc) (v : Value) (w : World) (h : Sl 3 elOtc w (· < w.heap.size) v d) : Calls Tryz.prog 20 #[v] w fun e w' => e = .returned (.tuple #[.string (S (textC d).1), .int .i64 (textC d).2]) ∧ Below w.heap.size w w' := by
  obtain ⟨z, hz⟩ : ∃ z, z = textC d := ⟨_, rfl⟩
  rw [← hz]
  unfold textC at hz
  have kc := ref_CCheck d v w h
  obtain ⟨A, c, rfl, hc, hc2⟩ := h.shape
  by_cases h0 : checkD d = 0
  · rw [if_neg (fun k => k h0)] at hz
    rw [h0] at kc
    have hok := checkD_ok h0
    have hl16 := hok.len.2
    have HOK := Lib.hid hok.each
    have KC := Lib.hid kc
    have HZ := Lib.hid hz
    have H := Lib.hid h
    clear hz kc hok h0 h
    go_enter Tryz.func20, Tryz.ntmps20
    go_wp2_with (go_at_call 43; refine KC.out.mono ?_; rintro e w1 ⟨rfl, hb1⟩; have HB1 := Lib.hid hb1; clear hb1)
    go_loopw [5, 15] (fun tv i wr => ∃ (k : Nat) (t : ByteArray), k ≤ d.length ∧ i = .int .i64 k ∧ tv = .string t ∧ t.size ≤ 51 * k ∧ Below w.heap.size w wr ∧ Hid (t.data.toList = Lib.join ((d.take k).map otcW) [32])) (fun _ i _ => d.length - (intOf i).toNat)
    case atStart => exact ⟨0, ⟨#[]⟩, Nat.zero_le _, rfl, rfl, Nat.zero_le _, HB1.out, Lib.hid rfl⟩
    case round =>
      obtain ⟨k, t, hk, rfl, rfl, ht, hb, HS⟩ := hrel
      have HB := Lib.hid hb
      clear hb
      by_cases hlt : k < d.length
      · obtain ⟨b, o, rfl, hbl, y0, y1, y2⟩ := otc_at (otc_below H.out HB.out) hlt
        have hoo := HOK.out _ (List.getElem_mem hlt)
        have hst := text_step hlt
        obtain ⟨ru, hru⟩ : ∃ r : Nat, d[k].runs = (r : Int) := ⟨d[k].runs.toNat, by have := hoo.r0; omega⟩
        obtain ⟨wt, hwt⟩ : ∃ r : Nat, d[k].wt = (r : Int) := ⟨d[k].wt.toNat, by have := hoo.w1; omega⟩
        have hru7 : ru ≤ 7 := by have := hoo.r7; omega
        have hwt16 : wt ≤ 16 := by have := hoo.w16; omega
        obtain ⟨wk, hwk⟩ : ∃ b, b = d[k].wick := ⟨_, rfl⟩
        rw [hru] at y0
        rw [← hwk] at y1
        rw [hwt] at y2
        rw [hru, hwt, ← hwk] at hst
        have kd1 := fun W => ref_Decimal ru W (by omega)
        have kd2 := fun W => ref_Decimal wt W (by omega)
        obtain ⟨b1, hb1⟩ : ∃ b, b = S (Lib.itoa (ru : Int)) := ⟨_, rfl⟩
        obtain ⟨b2, hb2⟩ : ∃ b, b = S (Lib.itoa (wt : Int)) := ⟨_, rfl⟩
        have s1 : b1.size ≤ 20 := by rw [hb1, S_size]; exact itoa_le (by omega) (by omega)
        have s2 : b2.size ≤ 20 := by rw [hb2, S_size]; exact itoa_le (by omega) (by omega)
        have e1 : Lib.itoa (ru : Int) = b1.data.toList := by rw [hb1]; rfl
        have e2 : Lib.itoa (wt : Int) = b2.data.toList := by rw [hb2]; rfl
        rw [e1, e2, ← HS.out] at hst
        rw [← hb1] at kd1
        rw [← hb2] at kd2
        have KD1 := Lib.hid kd1
        have KD2 := Lib.hid kd2
        have tok0 : True := trivial
        have z1 : (⟨#[32]⟩ : ByteArray).size = 1 := rfl
        have z2 : (⟨#[87]⟩ : ByteArray).size = 1 := rfl
        have z3 : (⟨#[58]⟩ : ByteArray).size = 1 := rfl
        clear kd1 kd2 hb1 hb2 e1 e2 hru hwt hwk hoo HS
        have a0 := fun W => run_string_add_sum (P := Tryz.prog) W (⟨#[58]⟩ : ByteArray) b2 (by omega)
        have hk0 : k = 0 ∨ 0 < k := by omega
        cases wk
        case false =>
          by_cases hk1 : 0 < k
          · have hki : (0 : Int) < (k : Int) := by omega
            have a1 := fun W => run_string_add_sum (P := Tryz.prog) W (t) ((⟨#[32]⟩ : ByteArray)) (by (try simp only [ByteArray.size_append]); omega)
            have a2 := fun W => run_string_add_sum (P := Tryz.prog) W (t ++ (⟨#[32]⟩ : ByteArray)) (b1) (by (try simp only [ByteArray.size_append]); omega)
            have a3 := fun W => run_string_add_sum (P := Tryz.prog) W (t ++ (⟨#[32]⟩ : ByteArray) ++ b1) (((⟨#[58]⟩ : ByteArray) ++ b2)) (by (try simp only [ByteArray.size_append]); omega)
            have HN := Lib.hid (show (t ++ (⟨#[32]⟩ : ByteArray) ++ b1 ++ ((⟨#[58]⟩ : ByteArray) ++ b2)).data.toList = Lib.join ((d.take (k + 1)).map otcW) [32] by rw [hst]; rw [if_neg (by omega)]; simp [ByteArray.data_append])
            have hsz : (t ++ (⟨#[32]⟩ : ByteArray) ++ b1 ++ ((⟨#[58]⟩ : ByteArray) ++ b2)).size ≤ 51 * (k + 1) := by simp only [ByteArray.size_append]; omega
            clear hst hk0 hk1
            go_wp2_with (first
              | (clear tok0; go_at_call 47; refine (KD1.out _).mono ?_; rintro e w4 ⟨rfl, rfl⟩; have tok1 : True := trivial)
              | (clear tok1; go_at_call 47; refine (KD2.out _).mono ?_; rintro e w5 ⟨rfl, rfl⟩; have tok2 : True := trivial))
            go_roundw
            case rel => exact ⟨k + 1, _, by omega, by go_num, rfl, hsz, HB.out.alloc HB.out.size _, HN⟩
            case measure => simp [intOf]; omega
          · have hki : ¬ (0 : Int) < (k : Int) := by omega
            have a1 := fun W => run_string_add_sum (P := Tryz.prog) W (t) (b1) (by (try simp only [ByteArray.size_append]); omega)
            have a2 := fun W => run_string_add_sum (P := Tryz.prog) W (t ++ b1) (((⟨#[58]⟩ : ByteArray) ++ b2)) (by (try simp only [ByteArray.size_append]); omega)
            have HN := Lib.hid (show (t ++ b1 ++ ((⟨#[58]⟩ : ByteArray) ++ b2)).data.toList = Lib.join ((d.take (k + 1)).map otcW) [32] by rw [hst]; rw [if_pos (by omega)]; simp [ByteArray.data_append])
            have hsz : (t ++ b1 ++ ((⟨#[58]⟩ : ByteArray) ++ b2)).size ≤ 51 * (k + 1) := by simp only [ByteArray.size_append]; omega
            clear hst hk0 hk1
            go_wp2_with (first
              | (clear tok0; go_at_call 47; refine (KD1.out _).mono ?_; rintro e w4 ⟨rfl, rfl⟩; have tok1 : True := trivial)
              | (clear tok1; go_at_call 47; refine (KD2.out _).mono ?_; rintro e w5 ⟨rfl, rfl⟩; have tok2 : True := trivial))
            go_roundw
            case rel => exact ⟨k + 1, _, by omega, by go_num, rfl, hsz, HB.out.alloc HB.out.size _, HN⟩
            case measure => simp [intOf]; omega
        case true =>
          by_cases hk1 : 0 < k
          · have hki : (0 : Int) < (k : Int) := by omega
            have a1 := fun W => run_string_add_sum (P := Tryz.prog) W (t) ((⟨#[32]⟩ : ByteArray)) (by (try simp only [ByteArray.size_append]); omega)
            have a2 := fun W => run_string_add_sum (P := Tryz.prog) W (t ++ (⟨#[32]⟩ : ByteArray)) (b1) (by (try simp only [ByteArray.size_append]); omega)
            have a3 := fun W => run_string_add_sum (P := Tryz.prog) W (t ++ (⟨#[32]⟩ : ByteArray) ++ b1) ((⟨#[87]⟩ : ByteArray)) (by (try simp only [ByteArray.size_append]); omega)
            have a4 := fun W => run_string_add_sum (P := Tryz.prog) W (t ++ (⟨#[32]⟩ : ByteArray) ++ b1 ++ (⟨#[87]⟩ : ByteArray)) (((⟨#[58]⟩ : ByteArray) ++ b2)) (by (try simp only [ByteArray.size_append]); omega)
            have HN := Lib.hid (show (t ++ (⟨#[32]⟩ : ByteArray) ++ b1 ++ (⟨#[87]⟩ : ByteArray) ++ ((⟨#[58]⟩ : ByteArray) ++ b2)).data.toList = Lib.join ((d.take (k + 1)).map otcW) [32] by rw [hst]; rw [if_neg (by omega)]; simp [ByteArray.data_append])
            have hsz : (t ++ (⟨#[32]⟩ : ByteArray) ++ b1 ++ (⟨#[87]⟩ : ByteArray) ++ ((⟨#[58]⟩ : ByteArray) ++ b2)).size ≤ 51 * (k + 1) := by simp only [ByteArray.size_append]; omega
            clear hst hk0 hk1
            go_wp2_with (first
              | (clear tok0; go_at_call 47; refine (KD1.out _).mono ?_; rintro e w4 ⟨rfl, rfl⟩; have tok1 : True := trivial)
              | (clear tok1; go_at_call 47; refine (KD2.out _).mono ?_; rintro e w5 ⟨rfl, rfl⟩; have tok2 : True := trivial))
            go_roundw
            case rel => exact ⟨k + 1, _, by omega, by go_num, rfl, hsz, HB.out.alloc HB.out.size _, HN⟩
            case measure => simp [intOf]; omega
          · have hki : ¬ (0 : Int) < (k : Int) := by omega
            have a1 := fun W => run_string_add_sum (P := Tryz.prog) W (t) (b1) (by (try simp only [ByteArray.size_append]); omega)
            have a2 := fun W => run_string_add_sum (P := Tryz.prog) W (t ++ b1) ((⟨#[87]⟩ : ByteArray)) (by (try simp only [ByteArray.size_append]); omega)
            have a3 := fun W => run_string_add_sum (P := Tryz.prog) W (t ++ b1 ++ (⟨#[87]⟩ : ByteArray)) (((⟨#[58]⟩ : ByteArray) ++ b2)) (by (try simp only [ByteArray.size_append]); omega)
            have HN := Lib.hid (show (t ++ b1 ++ (⟨#[87]⟩ : ByteArray) ++ ((⟨#[58]⟩ : ByteArray) ++ b2)).data.toList = Lib.join ((d.take (k + 1)).map otcW) [32] by rw [hst]; rw [if_pos (by omega)]; simp [ByteArray.data_append])
            have hsz : (t ++ b1 ++ (⟨#[87]⟩ : ByteArray) ++ ((⟨#[58]⟩ : ByteArray) ++ b2)).size ≤ 51 * (k + 1) := by simp only [ByteArray.size_append]; omega
            clear hst hk0 hk1
            go_wp2_with (first
              | (clear tok0; go_at_call 47; refine (KD1.out _).mono ?_; rintro e w4 ⟨rfl, rfl⟩; have tok1 : True := trivial)
              | (clear tok1; go_at_call 47; refine (KD2.out _).mono ?_; rintro e w5 ⟨rfl, rfl⟩; have tok2 : True := trivial))
            go_roundw
            case rel => exact ⟨k + 1, _, by omega, by go_num, rfl, hsz, HB.out.alloc HB.out.size _, HN⟩
            case measure => simp [intOf]; omega
      · have hkl : k = d.length := by omega
        subst hkl
        have HZ2 := Lib.hid (show z = (t.data.toList, 0) by rw [HZ.out, HS.out, List.take_of_length_le (Nat.le_refl _)])
        clear HS
        go_wp2
        go_ret2
        exact ⟨by rw [HZ2.out] <;> rfl, HB.out⟩
  · rw [if_pos h0] at hz
    obtain ⟨z9, hz9⟩ : ∃ z9, z9 = checkD d := ⟨_, rfl⟩
    rw [← hz9] at kc hz h0
    have g1 : (z9 != 0) = true := by rw [bne_iff_ne]; exact h0
    have KC := Lib.hid kc
    have HZ := Lib.hid hz
    clear kc hz h0 h hz9
    go_enter Tryz.func20, Tryz.ntmps20
    go_wp2_with (go_at_call 43; refine KC.out.mono ?_; rintro e w2 ⟨rfl, hb2⟩; have HB2 := Lib.hid hb2; clear hb2)
    go_ret2
    exact ⟨by rw [HZ.out] <;> rfl, HB2.out⟩
end Go.Proofs.YtoeeodemimndlaaGreatDoor
