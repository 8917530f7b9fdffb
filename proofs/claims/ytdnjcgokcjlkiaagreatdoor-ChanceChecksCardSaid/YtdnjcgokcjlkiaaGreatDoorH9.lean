/- The contracts of the law's same and equal at equal arguments, of Percent, and of Dominates of both packages. -/
import Derived.Test.YtdnjcgokcjlkiaaGreatDoorH8
import Derived.Test.YtdnjcgokcjlkiaaGreatDoorP53
import Derived.Test.YtdnjcgokcjlkiaaGreatDoorN3
set_option linter.unusedSimpArgs false
set_option linter.unusedVariables false
namespace Go.Proofs.YtdnjcgokcjlkiaaGreatDoor
open Go.RowKit

theorem itoa_le {n : Int} (h0 : 0 ≤ n) (h : n ≤ 9223372036854775807) : (Lib.itoa n).length ≤ 20 := by
  have := decDigits_le (u := n.toNat) (by omega)
  unfold Lib.itoa
  rw [if_neg (by omega)]
  omega
theorem S_dot (a b : List UInt8) : S a ++ (⟨#[46]⟩ : ByteArray) ++ S b = S (a ++ [46] ++ b) := by
  apply ByteArray.ext; apply Array.ext'
  simp [S, ByteArray.data_append]
set_option maxRecDepth 100000 in
set_option maxHeartbeats 1000000 in
theorem law_same (s : Spr) (v v' : Value) (F F' : Nat → Prop) (w : World) (h : Sl 1 elInt w F v s.ws) (h' : Sl 1 elInt w F' v' s.ws) (hF : ∀ x, F x → x < w.heap.size) (hF' : ∀ x, F' x → x < w.heap.size) :
    Calls Tryz.prog 66 #[sprV s v, sprV s v'] w fun e w' => e = .returned (.bool true) ∧ Below w.heap.size w w' := by
  obtain ⟨A, c, rfl, hc, hc2⟩ := h.shape
  obtain ⟨A', c', rfl, hc', hc2'⟩ := h'.shape
  have hz1 : (w.alloc (.cells #[.int .i64 s.balls, .slice A s.ws.length c] 90)).heap.size = w.heap.size + 1 := by simp
  obtain ⟨W, hW⟩ : ∃ W, W = (w.alloc (.cells #[.int .i64 s.balls, .slice A s.ws.length c] 90)).alloc (.cells #[.int .i64 s.balls, .slice A' s.ws.length c'] 90) := ⟨_, rfl⟩
  have hb : Below w.heap.size w W := by rw [hW]; exact Below.alloc (Below.alloc (Below.refl _ _) (Nat.le_refl _) _) (by omega) _
  have k1 : Blk W w.heap.size 90 #[.int .i64 s.balls, .slice A s.ws.length c] := by rw [hW]; exact (Blk.new w _ _).alloc _
  have k2 : Blk W (w.heap.size + 1) 90 #[.int .i64 s.balls, .slice A' s.ws.length c'] := by rw [hW, ← hz1]; exact Blk.new _ _ _
  have HF := Lib.hid hF
  have HF' := Lib.hid hF'
  have H := Lib.hid h
  have H' := Lib.hid h'
  have HB := Lib.hid hb
  obtain ⟨u0, u1, _⟩ := k1.two
  obtain ⟨v0, v1, _⟩ := k2.two
  have HW := Lib.hid hW
  clear h h' hF hF' hb k1 k2 hz1
  rw [hW] at u0 u1 v0 v1
  clear hW
  unfold sprV
  go_enter Tryz.func66, Tryz.ntmps66
  go_wp2
  rw [← HW.out] at u0 u1 v0 v1 ⊢
  go_loopw [23] (fun i wr => ∃ k : Nat, k ≤ s.ws.length ∧ i = .int .i64 k ∧ ∃ n, wr = W.drewN n) (fun i _ => s.ws.length - (intOf i).toNat)
  case atStart => exact ⟨0, Nat.zero_le _, rfl, 0, rfl⟩
  case round =>
    obtain ⟨k, hk, rfl, n, rfl⟩ := hrel
    by_cases hlt : k < s.ws.length
    · obtain ⟨b, o, rfl, hbl, y0'⟩ := int_at H.out hlt
      obtain ⟨b', o', rfl, hbl', z0'⟩ := int_at H'.out hlt
      have y0 := (HB.out.cell (p := ⟨b, o + k, none⟩) (HF.out b hbl)).trans y0'
      have z0 := (HB.out.cell (p := ⟨b', o' + k, none⟩) (HF'.out b' hbl')).trans z0'
      obtain ⟨x, hx⟩ : ∃ x, x = s.ws[k] := ⟨_, rfl⟩
      rw [← hx] at y0 z0
      clear hx y0' z0'
      go_wp2
      go_quiet (fail)
      go_wp2
      go_roundw
      case rel => exact ⟨k + 1, by omega, by go_num, _, rfl⟩
      case measure => simp [intOf]; omega
    · obtain rfl : k = s.ws.length := by omega
      go_wp2
      go_ret
      exact ⟨rfl, Below.drewN_ HB.out _⟩
set_option maxRecDepth 100000 in
set_option maxHeartbeats 1000000 in
theorem law_equal (l : List Otc) (v v' : Value) (F F' : Nat → Prop) (w : World) (h : Sl 3 elOtc w F v l) (h' : Sl 3 elOtc w F' v' l) :
    Calls Tryz.prog 39 #[v, v'] w fun e w' => e = .returned (.bool true) ∧ Below w.heap.size w w' := by
  obtain ⟨A, c, rfl, hc, hc2⟩ := h.shape
  obtain ⟨A', c', rfl, hc', hc2'⟩ := h'.shape
  have H := Lib.hid h
  have H' := Lib.hid h'
  clear h h'
  go_enter Tryz.func39, Tryz.ntmps39
  go_wp2
  go_loopw [13] (fun i wr => ∃ k : Nat, k ≤ l.length ∧ i = .int .i64 k ∧ ∃ n, wr = w.drewN n) (fun i _ => l.length - (intOf i).toNat)
  case atStart => exact ⟨0, Nat.zero_le _, rfl, 0, rfl⟩
  case round =>
    obtain ⟨k, hk, rfl, n, rfl⟩ := hrel
    by_cases hlt : k < l.length
    · obtain ⟨b, o, rfl, hbl, y0, y1, y2⟩ := otc_at H.out hlt
      obtain ⟨b', o', rfl, hbl', z0, z1, z2⟩ := otc_at H'.out hlt
      obtain ⟨⟨pr, pw, pt⟩, hp⟩ : ∃ p, p = l[k] := ⟨_, rfl⟩
      rw [← hp] at y0 y1 y2 z0 z1 z2
      dsimp only at y0 y1 y2 z0 z1 z2
      clear hp
      go_wp2
      go_quiet (fail)
      go_wp2
      go_roundw
      case rel => exact ⟨k + 1, by omega, by go_num, _, rfl⟩
      case measure => simp [intOf]; omega
    · obtain rfl : k = l.length := by omega
      go_wp2
      go_ret
      exact ⟨rfl, Below.drewN_ (Below.refl _ _) _⟩
set_option maxRecDepth 100000 in
set_option maxHeartbeats 1000000 in
theorem ch_Percent (wt n : Int) (w : World) (hg : GlobN w) : Calls Tryz.prog 65 #[.int .i64 wt, .int .i64 n] w fun e w' => e = .returned (.tuple #[.string (S (pctS wt n).1), .int .i64 (pctS wt n).2]) ∧ Below w.heap.size w w' := by
  obtain ⟨z, hz⟩ : ∃ z, z = pctS wt n := ⟨_, rfl⟩
  rw [← hz]
  unfold pctS at hz
  have hu := fun W => ch_Unit n W
  by_cases h1 : n < 0 ∨ 12 < n
  · rw [if_pos h1] at hz
    rw [unitS_bad h1] at hu
    have HU := Lib.hid hu
    have HZ := Lib.hid hz
    clear hz hu h1 hg
    go_enter Tryz.func65, Tryz.ntmps65
    go_wp2_with (go_at_call 36; refine (HU.out _).mono ?_; rintro e w3 ⟨rfl, rfl⟩)
    go_ret2
    exact ⟨by rw [HZ.out] <;> rfl, Below.refl _ _⟩
  · rw [if_neg h1] at hz
    obtain ⟨m, rfl⟩ : ∃ m : Nat, n = (m : Int) := ⟨n.toNat, by omega⟩
    have hm : m ≤ 12 := by omega
    rw [unitS_ok hm] at hu
    rw [Int.toNat_natCast] at hz
    by_cases h2 : wt < 0 ∨ unitV m < wt
    · rw [if_pos h2] at hz
      obtain ⟨u, huu⟩ : ∃ u, u = unitV m := ⟨_, rfl⟩
      rw [← huu] at hu h2
      have HU := Lib.hid hu
      have HZ := Lib.hid hz
      clear hz hu h1 hg huu
      rcases h2 with h2 | h2
      all_goals
        go_enter Tryz.func65, Tryz.ntmps65
        go_wp2_with (go_at_call 36; refine (HU.out _).mono ?_; rintro e w3 ⟨rfl, rfl⟩)
        all_goals go_ret2
        all_goals exact ⟨by rw [HZ.out] <;> rfl, Below.refl _ _⟩
    · rw [if_neg h2] at hz
      have hw0 : 0 ≤ wt := by omega
      have hw1 : wt ≤ unitV m := by omega
      obtain ⟨b1, b2, b3, b4, b5, b6⟩ := pctH_bd hm hw0 hw1
      have hhd : pctH wt m = (20000 * wt + unitV m) / (2 * unitV m) := rfl
      obtain ⟨u1, u2⟩ := unitV_le hm
      obtain ⟨u, huu⟩ : ∃ u, u = unitV m := ⟨_, rfl⟩
      obtain ⟨q, hq⟩ : ∃ q, q = pctH wt m := ⟨_, rfl⟩
      rw [← huu] at hu hw1 b3 b4 b5 b6 u1 u2 hhd
      rw [← hq] at hz b1 b2 hhd
      have hqq : (20000 * wt + u) / (2 * u) = q := hhd.symm
      have hg0 : (2 * u == 0) = false := by rw [beq_eq_false_iff_ne]; omega
      have kd := fun W (hW : Below w.heap.size w W) => text_Decimal (q / 100) W (hg.below hW) (by omega) (by omega)
      have kp := fun W (hW : Below w.heap.size w W) => text_Padded (q % 100) 2 W (hg.below hW) (by omega) (by omega) (by omega) (by omega)
      have hl1 : (Lib.itoa (q / 100)).length ≤ 20 := itoa_le (by omega) (by omega)
      have hl2 : (padS (q % 100) 2).length ≤ 100 := by
        unfold padS
        have := decDigits_le (u := (q % 100).natAbs) (by omega)
        simp only [List.length_append, List.length_replicate]
        split <;> (simp; omega)
      obtain ⟨t1, ht1⟩ : ∃ t1, t1 = Lib.itoa (q / 100) := ⟨_, rfl⟩
      obtain ⟨t2, ht2⟩ : ∃ t2, t2 = padS (q % 100) 2 := ⟨_, rfl⟩
      rw [← ht1] at kd hz hl1
      rw [← ht2] at kp hz hl2
      have a1 := fun W => run_string_add_sum (P := Tryz.prog) W (S t1) ⟨#[46]⟩ (by rw [S_size, show (⟨#[46]⟩ : ByteArray).size = 1 from rfl]; omega)
      have a2 := fun W => run_string_add_sum (P := Tryz.prog) W (S t1 ++ ⟨#[46]⟩) (S t2) (by rw [ByteArray.size_append, S_size, S_size, show (⟨#[46]⟩ : ByteArray).size = 1 from rfl]; omega)
      have HU := Lib.hid hu
      have HZ := Lib.hid hz
      have KD := Lib.hid kd
      have KP := Lib.hid kp
      clear hz hu h1 hg huu hq h2 hhd ht1 ht2 kd kp hl1 hl2
      go_enter Tryz.func65, Tryz.ntmps65
      go_wp2_with (first
        | (go_at_call 36; refine (HU.out _).mono ?_; rintro e w3 ⟨rfl, rfl⟩)
        | (go_at_call 58; refine (KD.out _ (Below.refl _ _)).mono ?_; rintro e w4 ⟨rfl, hb4⟩; have HB4 := Lib.hid hb4; clear hb4)
        | (go_at_call 104; refine (KP.out _ HB4.out).mono ?_; rintro e w5 ⟨rfl, hb5⟩; have HB5 := Lib.hid (HB4.out.trans (hb5.mono HB4.out.size)); clear hb5))
      go_ret2
      exact ⟨by rw [HZ.out, ← S_dot] <;> rfl, HB5.out⟩

end Go.Proofs.YtdnjcgokcjlkiaaGreatDoor
