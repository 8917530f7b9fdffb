/- The reference's contracts: words, quoting, writing. -/
import Derived.Test.YtnacklbaphobbaaGreatDoorT7
import Derived.Test.YtnacklbaphobbaaGreatDoorT3
set_option linter.unusedSimpArgs false
set_option linter.unusedVariables false
namespace Go.Proofs.YtnacklbaphobbaaGreatDoor
open Go.RowKit

theorem S_app (a b : List UInt8) : S a ++ S b = S (a ++ b) := by
  have := data_app (S a) (S b)
  rw [← S_of (S a ++ S b), this]; rfl
theorem S_one (s : ByteArray) (k : Nat) (h : k < s.size) : s.extract k (k + 1) = S [s[k]] := by
  have : (s.extract k (k + 1)).data.toList = [s[k]] := by
    rw [Lib.extract_data, drop_cons s k h]
    simp
  rw [← S_of (s.extract k (k + 1)), this]
set_option maxRecDepth 100000 in
set_option maxHeartbeats 400000 in
theorem ref_word (s : ByteArray) (w : World) (hs : s.size ≤ maxLen) :
    Calls Tryz.prog 67 #[.string s] w fun e w' => e = .returned (.bool (wordS s.data.toList)) ∧ w' = w := by
  unfold maxLen at hs
  go_enter Tryz.func67, Tryz.ntmps67
  go_wp2
  go_loop [3] (fun i => ∃ k : Nat, k ≤ s.size ∧ i = .int .i64 k ∧ Hid ((s.data.toList.take k).all wordB = true)) (fun i => s.size - (intOf i).toNat)
  case atStart => exact ⟨0, Nat.zero_le _, rfl, rfl⟩
  case round =>
    obtain ⟨k, hk, rfl, hall⟩ := hrel
    by_cases hlt : k < s.size
    · have hts := Lib.hid (take_snoc s k hlt)
      have hwf := Lib.hid (wordS_false s k hlt)
      cases hb : wordB s[k]
      · go_wp2_with (go_at_call 92; refine (ref_wordByte _ _).mono ?_; rintro e w' ⟨rfl, rfl⟩)
        go_ret
        exact ⟨ret_b (hwf.out hb).symm, rfl⟩
      · go_wp2_with (go_at_call 92; refine (ref_wordByte _ _).mono ?_; rintro e w' ⟨rfl, rfl⟩)
        go_round
        case rel => exact ⟨k + 1, by omega, by go_num, by unfold Hid; rw [hts.out, List.all_append, hall.out]; simp [hb]⟩
        case measure => simp [intOf]; omega
    · obtain rfl : k = s.size := by omega
      go_wp2
      go_ret
      exact ⟨ret_b (by rw [ByteArray.toList_eq, wordS_true s hall.out]), rfl⟩

set_option maxRecDepth 100000 in
set_option maxHeartbeats 1000000 in
theorem ref_Quote (s : ByteArray) (w : World) (hs : s.size ≤ 1000000000) :
    Calls Tryz.prog 68 #[.string s] w fun e w' => e = .returned (.string (S (quoteS s.data.toList))) ∧ w' = w := by
  have q1 : (⟨#[34]⟩ : ByteArray) = S [34] := rfl
  have hle : ∀ k, (34 :: subst1 34 [34, 34] (s.data.toList.take k)).length ≤ 2000000001 := fun k => by
    have h1 := subst1_le (s.data.toList.take k)
    have h2 : (s.data.toList.take k).length ≤ s.size := by simp; omega
    simp only [List.length_cons]; omega
  obtain ⟨res, hres⟩ : ∃ r, r = quoteS s.data.toList := ⟨_, rfl⟩
  rw [← hres]
  have HR := Lib.hid hres
  have HLE := Lib.hid hle
  clear hres hle
  go_enter Tryz.func68, Tryz.ntmps68
  go_wp2
  go_loop [3, 4] (fun o i => ∃ (k : Nat) (cur : List UInt8), k ≤ s.size ∧ i = .int .i64 k ∧ o = .string (S cur) ∧ Hid (cur = 34 :: subst1 34 [34, 34] (s.data.toList.take k))) (fun _ i => s.size - (intOf i).toNat)
  case atStart => exact ⟨0, [34], Nat.zero_le _, rfl, rfl, rfl⟩
  case round =>
    obtain ⟨k, cur, hk, rfl, rfl, hcur⟩ := hrel
    have hcl : cur.length ≤ 2000000001 := by rw [hcur.out]; exact HLE.out k
    by_cases hlt : k < s.size
    · have hsn := subst1_snoc (s.data.toList.take k) s[k]
      rw [← take_snoc s k hlt] at hsn
      have hone := S_one s k hlt
      have hi1 : (k : Int) + 1 ≤ (s.size : Int) := by omega
      by_cases hq : s[k] = 34
      · have e1 : ((s[k].toNat : Int) == 34) = true := by rw [hq]; rfl
        rw [if_pos hq] at hsn
        rw [hq] at hone
        have hfin : 34 :: subst1 34 [34, 34] (s.data.toList.take (k + 1)) = cur ++ [34] ++ [34] := by rw [hsn, hcur.out]; simp
        have s1 : (⟨#[34]⟩ : ByteArray).size = 1 := rfl
        have a1 := fun W => run_string_add_sum (P := Tryz.prog) W (S cur) ⟨#[34]⟩ (by rw [s1, S_size]; omega)
        have a2 := fun W => run_string_add_sum (P := Tryz.prog) W (S cur ++ ⟨#[34]⟩) (s.extract k (k + 1)) (by rw [ByteArray.size_append, s1, S_size, hone, S_size]; simp; omega)
        clear s1
        have HF := Lib.hid hfin
        have HO := Lib.hid hone
        clear hsn hfin hone hq
        go_wp2
        go_round
        case rel => exact ⟨k + 1, cur ++ [34] ++ [34], by omega, by go_num, by rw [HO.out, S_app, S_app], HF.out.symm⟩
        case measure => simp [intOf]; omega
      · have e1 : ((s[k].toNat : Int) == 34) = false := beq_eq_false_iff_ne.2 fun e => hq (byte_eq 34 e)
        rw [if_neg hq] at hsn
        have hfin : 34 :: subst1 34 [34, 34] (s.data.toList.take (k + 1)) = cur ++ [s[k]] := by rw [hsn, hcur.out]; simp
        have a2 := fun W => run_string_add_sum (P := Tryz.prog) W (S cur) (s.extract k (k + 1)) (by rw [S_size, hone, S_size]; simp; omega)
        have HF := Lib.hid hfin
        have HO := Lib.hid hone
        clear hsn hfin hone hq
        go_wp2
        go_round
        case rel => exact ⟨k + 1, cur ++ [s[k]], by omega, by go_num, by rw [HO.out, S_app], HF.out.symm⟩
        case measure => simp [intOf]; omega
    · obtain rfl : k = s.size := by omega
      have s1 : (⟨#[34]⟩ : ByteArray).size = 1 := rfl
      have a1 := fun W => run_string_add_sum (P := Tryz.prog) W (S cur) ⟨#[34]⟩ (by rw [s1, S_size]; omega)
      clear s1
      go_wp2
      go_ret
      refine ⟨?_, rfl⟩
      have hc := hcur.out
      rw [List.take_of_length_le (by simp)] at hc
      rw [S_app, HR.out, hc]
      rfl

theorem lineW_le : ∀ (fs : List Fld) (b : Bool) (m : Nat), (lineW (fs.take m) b).length ≤ (lineW fs b).length := by
  intro fs
  induction fs with
  | nil => intro b m; simp [lineW]
  | cons f fs ih =>
    intro b m
    cases m with
    | zero => simp [lineW]
    | succ m =>
      rw [List.take_succ_cons, lineW, lineW]
      have := ih false m
      simp only [List.length_append]
      omega
set_option maxRecDepth 100000 in
set_option maxHeartbeats 4000000 in
theorem ref_Write (v : Value) (ls : List Lin) (w : World) (hl : Sl 2 elLin w (· < w.heap.size) v ls) (hs : (writeS ls).length ≤ 1000000000) :
    Calls Tryz.prog 45 #[v] w fun e w' => e = .returned (.string (S (writeS ls))) ∧ Below w.heap.size w w' := by
  obtain ⟨A, c, rfl, hc1, hc2⟩ := hl.shape
  have HL := Lib.hid hl
  clear hl
  obtain ⟨q, hq⟩ : ∃ q, q = writeS ls := ⟨_, rfl⟩
  rw [← hq] at hs ⊢
  have HQ := Lib.hid hq
  clear hq
  go_enter Tryz.func45, Tryz.ntmps45
  go_wp2
  go_loopw [3, 10] (fun o i wr => ∃ (k : Nat) (cur : List UInt8), k ≤ ls.length ∧ i = .int .i64 k ∧ o = .string (S cur) ∧ Below w.heap.size w wr ∧ Hid (cur ++ writeS (ls.drop k) = q))
    (fun _ i _ => ls.length - (intOf i).toNat)
  case atStart => exact ⟨0, [], Nat.zero_le _, rfl, rfl, Below.refl _ _, HQ.out.symm⟩
  case round =>
    obtain ⟨k, cur, hk, rfl, rfl, hbel, hqk⟩ := hrel
    obtain ⟨wo, rfl⟩ : ∃ wo : World, wo = wr := ⟨_, rfl⟩
    by_cases hlt : k < ls.length
    · obtain ⟨b, o, cs, rfl, hF, hcl, hcc, hel⟩ := HL.out.at hlt
      have hqk' := hqk.out
      rw [drop_get hlt, writeS] at hqk'
      obtain ⟨⟨xn, fs⟩, hx⟩ : ∃ x, x = ls[k] := ⟨_, rfl⟩
      rw [← hx] at hel hqk'
      clear hx hqk
      obtain ⟨fv, rfl, hfl⟩ := hel
      dsimp only at hfl hcc hqk'
      obtain ⟨A2, c2, rfl, hf1, hf2⟩ := hfl.shape
      have x0 : wo.cell? ⟨b, o + k * 2, none⟩ = some (.int .i64 xn) := (hbel.cell (p := ⟨b, o + k * 2, none⟩) hF).trans (hcc 0 _ rfl)
      have x1 : wo.cell? ⟨b, o + k * 2 + 1, none⟩ = some (.slice A2 fs.length c2) := (hbel.cell (p := ⟨b, o + k * 2 + 1, none⟩) hF).trans (hcc 1 _ rfl)
      rw [List.append_assoc] at hqk'
      have HFL := Lib.hid hfl
      have HQK := Lib.hid hqk'
      have hsz := hbel.size
      clear hfl hcc hqk'
      go_wp2
      have hbel0 := hbel.alloc (B := w.heap.size) hsz (.cells #[.int .i64 xn, .slice A2 fs.length c2] 55)
      have hblk := Blk.new wo 55 #[.int .i64 xn, .slice A2 fs.length c2]
      have hsz0 : wo.heap.size < (wo.alloc (.cells #[.int .i64 xn, .slice A2 fs.length c2] 55)).heap.size := by simp
      have HB1 := Lib.hid hbel0
      have HB2 := Lib.hid hblk
      have HB3 := Lib.hid hsz0
      clear hbel0 hblk hsz0 x0 x1
      go_loopw [3, 17] (fun o j wr => ∃ (m : Nat) (cu : List UInt8), m ≤ fs.length ∧ j = .int .i64 m ∧ o = .string (S cu) ∧ Below w.heap.size w wr ∧ wo.heap.size < wr.heap.size ∧ Hid (Blk wr wo.heap.size 55 #[.int .i64 xn, .slice A2 fs.length c2]) ∧ Hid (cu ++ (lineW (fs.drop m) (decide (m = 0)) ++ (endW fs ++ writeS (ls.drop (k + 1)))) = q))
        (fun _ j _ => fs.length - (intOf j).toNat)
      case atStart => exact ⟨0, cur, Nat.zero_le _, rfl, rfl, HB1.out, HB3.out, HB2.out, HQK.out⟩
      case round =>
        obtain ⟨m, cu, hm, rfl, rfl, hbex, hsx, hblx, hqx⟩ := hrel
        by_cases hmt : m < fs.length
        · obtain ⟨b2, o2, cs2, rfl, hF2, hcl2, hcc2, hel2⟩ := HFL.out.at hmt
          have hstep := write_step hmt hqx.out
          obtain ⟨hln1, hln2, hln3⟩ := write_len hmt hqx.out
          obtain ⟨⟨ft, fc, fq⟩, hf⟩ : ∃ f, f = fs[m] := ⟨_, rfl⟩
          rw [← hf] at hel2 hstep hln3
          clear hf hqx
          have hel2' : cs2 = [.string (S ft), .int .i64 fc, .bool fq] := hel2
          subst hel2'
          dsimp only at hln3
          have y0 : wr.cell? ⟨b2, o2 + m * 3, none⟩ = some (.string (S ft)) := (hbex.cell (p := ⟨b2, o2 + m * 3, none⟩) hF2).trans (hcc2 0 _ rfl)
          have y1 : wr.cell? ⟨b2, o2 + m * 3 + 1, none⟩ = some (.int .i64 fc) := (hbex.cell (p := ⟨b2, o2 + m * 3 + 1, none⟩) hF2).trans (hcc2 1 _ rfl)
          have y2 : wr.cell? ⟨b2, o2 + m * 3 + 2, none⟩ = some (.bool fq) := (hbex.cell (p := ⟨b2, o2 + m * 3 + 2, none⟩) hF2).trans (hcc2 2 _ rfl)
          have hb4 : Below w.heap.size w (wr.alloc (.cells #[.string (S ft), .int .i64 fc, .bool fq] 83)) := hbex.alloc hbex.size _
          have HB4 := Lib.hid hb4
          have HK4 := Lib.hid (hblx.out.alloc (.cells #[.string (S ft), .int .i64 fc, .bool fq] 83))
          have hlen := congrArg List.length hstep
          simp only [List.length_append] at hlen
          have s1 : (⟨#[32]⟩ : ByteArray).size = 1 := rfl
          clear hcc2 hel2 hcl2 hb4
          by_cases hm0 : m = 0
          · have tm : ¬ (0 : Int) < (m : Int) := by omega
            rw [if_pos hm0] at hlen hstep
            simp only [List.length_nil, List.length_cons] at hlen
            clear hm0
            cases fq
            · cases hw : wordS ft
              · have hfw : fieldW ⟨ft, fc, false⟩ = quoteS ft := by unfold fieldW; simp [hw]
                rw [hfw] at hlen hstep
                rw [List.append_nil] at hstep
                have HN := Lib.hid hstep
                have hlen2 : cu.length + (quoteS ft).length ≤ q.length := by omega
                have Hw := Lib.hid hw
                clear hstep hlen hfw hw
                have a2 := fun W => run_string_add_sum (P := Tryz.prog) W (S cu) (S (quoteS ft)) (by rw [S_size, S_size]; omega)
                clear s1
                go_wp2_with (first | (go_at_call 67; refine (ref_word (S ft) _ (by simp only [S_size]; unfold maxLen; omega)).mono ?_; rintro e w4 ⟨rfl, rfl⟩; rw [S_data, Hw.out]) | (go_at_call 68; refine (ref_Quote (S ft) _ (by simp only [S_size]; omega)).mono ?_; rintro e w5 ⟨rfl, rfl⟩; rw [S_data]))
                go_roundw
                case rel => exact ⟨m + 1, cu ++ (quoteS ft), by omega, by go_num, by rw [S_app], HB4.out, by simp; omega, HK4.out, HN.out⟩
                case measure => simp [intOf]; omega
              · have hfw : fieldW ⟨ft, fc, false⟩ = ft := by unfold fieldW; simp [hw]
                rw [hfw] at hlen hstep
                rw [List.append_nil] at hstep
                have HN := Lib.hid hstep
                have hlen2 : cu.length + ft.length ≤ q.length := by omega
                have Hw := Lib.hid hw
                clear hstep hlen hfw hw
                have a2 := fun W => run_string_add_sum (P := Tryz.prog) W (S cu) (S ft) (by rw [S_size, S_size]; omega)
                clear s1
                go_wp2_with (first | (go_at_call 67; refine (ref_word (S ft) _ (by simp only [S_size]; unfold maxLen; omega)).mono ?_; rintro e w4 ⟨rfl, rfl⟩; rw [S_data, Hw.out]))
                go_roundw
                case rel => exact ⟨m + 1, cu ++ ft, by omega, by go_num, by rw [S_app], HB4.out, by simp; omega, HK4.out, HN.out⟩
                case measure => simp [intOf]; omega
            · have hfw : fieldW ⟨ft, fc, true⟩ = quoteS ft := by unfold fieldW; simp
              rw [hfw] at hlen hstep
              rw [List.append_nil] at hstep
              have HN := Lib.hid hstep
              have hlen2 : cu.length + (quoteS ft).length ≤ q.length := by omega
              clear hstep hlen hfw
              have a2 := fun W => run_string_add_sum (P := Tryz.prog) W (S cu) (S (quoteS ft)) (by rw [S_size, S_size]; omega)
              clear s1
              go_wp2_with (first | (go_at_call 68; refine (ref_Quote (S ft) _ (by simp only [S_size]; omega)).mono ?_; rintro e w5 ⟨rfl, rfl⟩; rw [S_data]))
              go_roundw
              case rel => exact ⟨m + 1, cu ++ (quoteS ft), by omega, by go_num, by rw [S_app], HB4.out, by simp; omega, HK4.out, HN.out⟩
              case measure => simp [intOf]; omega
          · have tm : (0 : Int) < (m : Int) := by omega
            rw [if_neg hm0] at hlen hstep
            simp only [List.length_nil, List.length_cons] at hlen
            clear hm0
            cases fq
            · cases hw : wordS ft
              · have hfw : fieldW ⟨ft, fc, false⟩ = quoteS ft := by unfold fieldW; simp [hw]
                rw [hfw] at hlen hstep
                have HN := Lib.hid hstep
                have hlen2 : cu.length + 1 + (quoteS ft).length ≤ q.length := by omega
                have Hw := Lib.hid hw
                clear hstep hlen hfw hw
                have a1 := fun W => run_string_add_sum (P := Tryz.prog) W (S cu) ⟨#[32]⟩ (by rw [S_size, s1]; omega)
                have a2 := fun W => run_string_add_sum (P := Tryz.prog) W (S cu ++ ⟨#[32]⟩) (S (quoteS ft)) (by rw [ByteArray.size_append, S_size, s1, S_size]; omega)
                clear s1
                go_wp2_with (first | (go_at_call 67; refine (ref_word (S ft) _ (by simp only [S_size]; unfold maxLen; omega)).mono ?_; rintro e w4 ⟨rfl, rfl⟩; rw [S_data, Hw.out]) | (go_at_call 68; refine (ref_Quote (S ft) _ (by simp only [S_size]; omega)).mono ?_; rintro e w5 ⟨rfl, rfl⟩; rw [S_data]))
                go_roundw
                case rel => exact ⟨m + 1, cu ++ [32] ++ (quoteS ft), by omega, by go_num, by rw [show (⟨#[32]⟩ : ByteArray) = S [32] from rfl, S_app, S_app], HB4.out, by simp; omega, HK4.out, HN.out⟩
                case measure => simp [intOf]; omega
              · have hfw : fieldW ⟨ft, fc, false⟩ = ft := by unfold fieldW; simp [hw]
                rw [hfw] at hlen hstep
                have HN := Lib.hid hstep
                have hlen2 : cu.length + 1 + ft.length ≤ q.length := by omega
                have Hw := Lib.hid hw
                clear hstep hlen hfw hw
                have a1 := fun W => run_string_add_sum (P := Tryz.prog) W (S cu) ⟨#[32]⟩ (by rw [S_size, s1]; omega)
                have a2 := fun W => run_string_add_sum (P := Tryz.prog) W (S cu ++ ⟨#[32]⟩) (S ft) (by rw [ByteArray.size_append, S_size, s1, S_size]; omega)
                clear s1
                go_wp2_with (first | (go_at_call 67; refine (ref_word (S ft) _ (by simp only [S_size]; unfold maxLen; omega)).mono ?_; rintro e w4 ⟨rfl, rfl⟩; rw [S_data, Hw.out]))
                go_roundw
                case rel => exact ⟨m + 1, cu ++ [32] ++ ft, by omega, by go_num, by rw [show (⟨#[32]⟩ : ByteArray) = S [32] from rfl, S_app, S_app], HB4.out, by simp; omega, HK4.out, HN.out⟩
                case measure => simp [intOf]; omega
            · have hfw : fieldW ⟨ft, fc, true⟩ = quoteS ft := by unfold fieldW; simp
              rw [hfw] at hlen hstep
              have HN := Lib.hid hstep
              have hlen2 : cu.length + 1 + (quoteS ft).length ≤ q.length := by omega
              clear hstep hlen hfw
              have a1 := fun W => run_string_add_sum (P := Tryz.prog) W (S cu) ⟨#[32]⟩ (by rw [S_size, s1]; omega)
              have a2 := fun W => run_string_add_sum (P := Tryz.prog) W (S cu ++ ⟨#[32]⟩) (S (quoteS ft)) (by rw [ByteArray.size_append, S_size, s1, S_size]; omega)
              clear s1
              go_wp2_with (first | (go_at_call 68; refine (ref_Quote (S ft) _ (by simp only [S_size]; omega)).mono ?_; rintro e w5 ⟨rfl, rfl⟩; rw [S_data]))
              go_roundw
              case rel => exact ⟨m + 1, cu ++ [32] ++ (quoteS ft), by omega, by go_num, by rw [show (⟨#[32]⟩ : ByteArray) = S [32] from rfl, S_app, S_app], HB4.out, by simp; omega, HK4.out, HN.out⟩
              case measure => simp [intOf]; omega
        · have hme : m = fs.length := by omega
          have hq2 := hqx.out
          rw [List.drop_of_length_le (by omega)] at hq2
          simp only [lineW, List.nil_append] at hq2
          have hb1 := hblx.out.cell 1
          simp only [List.getElem?_toArray, List.getElem?_cons_zero, List.getElem?_cons_succ] at hb1
          have hlen := congrArg List.length hq2
          simp only [List.length_append] at hlen
          by_cases hfs : fs = []
          · have hz : ¬ (0 : Int) < (fs.length : Int) := by rw [hfs]; simp
            have he : endW fs = [] := by rw [hfs]; rfl
            rw [he, List.nil_append] at hq2
            have HN := Lib.hid hq2
            clear hq2 hqx hlen he hfs
            go_wp2
            go_roundw
            case rel => exact ⟨k + 1, cu, by omega, by go_num, rfl, hbex, HN.out⟩
            case measure => simp [intOf]; omega
          · have hz : (0 : Int) < (fs.length : Int) := by have := List.length_pos_iff.2 hfs; omega
            have he : endW fs = [10] := by unfold endW; rw [List.isEmpty_eq_false_iff.2 hfs]; rfl
            rw [he] at hq2 hlen
            simp only [List.length_cons, List.length_nil] at hlen
            have s1 : (⟨#[10]⟩ : ByteArray).size = 1 := rfl
            have a1 := fun W => run_string_add_sum (P := Tryz.prog) W (S cu) ⟨#[10]⟩ (by rw [S_size, s1]; omega)
            rw [← List.append_assoc] at hq2
            have HN := Lib.hid hq2
            clear hq2 hqx hlen he hfs s1
            go_wp2
            go_roundw
            case rel => exact ⟨k + 1, cu ++ [10], by omega, by go_num, by rw [show (⟨#[10]⟩ : ByteArray) = S [10] from rfl, S_app], hbex, HN.out⟩
            case measure => simp [intOf]; omega
    · have hqe := hqk.out
      rw [List.drop_of_length_le (by omega), writeS, List.append_nil] at hqe
      have HN := Lib.hid hqe
      clear hqk hqe
      go_wp2
      go_ret
      exact ⟨by rw [HN.out]; rfl, hbel⟩
end Go.Proofs.YtnacklbaphobbaaGreatDoor
