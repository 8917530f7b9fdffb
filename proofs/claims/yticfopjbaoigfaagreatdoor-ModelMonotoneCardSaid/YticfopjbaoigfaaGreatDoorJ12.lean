/- The walk of ModelMonotone: a further unit never raises the mean and never lowers the risk; units moved the other way never lower the mean and never raise the risk. -/
import Derived.Test.YticfopjbaoigfaaGreatDoorJ10
set_option linter.unusedSimpArgs false
set_option linter.unusedVariables false
namespace Go.Proofs.YticfopjbaoigfaaGreatDoor
open Go.RowKit

theorem mean_at (l : List Otc) (x : Int) (hc : checkD l = 0) (hx : meanL l = x) (W : World) (v : Value) (h : Sl 3 elOtc W (· < W.heap.size) v l) : Calls Tryz.prog 14 #[v] W fun e W' => e = .returned (.tuple #[.int .i64 x, .int .i64 0]) ∧ Below W.heap.size W W' := by
  have hm : meanS l = (x, 0) := by unfold meanS; rw [if_neg (fun k => k hc), hx]
  have h := ch_Mean l v W h
  rw [hm] at h
  exact h
theorem risk_at (l : List Otc) (x : Int) (hc : checkD l = 0) (hx : riskL l = x) (W : World) (v : Value) (h : Sl 3 elOtc W (· < W.heap.size) v l) : Calls Tryz.prog 15 #[v] W fun e W' => e = .returned (.tuple #[.int .i64 x, .int .i64 0]) ∧ Below W.heap.size W W' := by
  have hm : riskS l = (x, 0) := by unfold riskS; rw [if_neg (fun k => k hc), hx]
  have h := ch_Risk l v W h
  rw [hm] at h
  exact h
theorem shift_at (d l : List Otc) (n : Int) (hs : shiftS d n = (l, 0)) (W : World) (v : Value) (h : Sl 3 elOtc W (· < W.heap.size) v d) : Calls Tryz.prog 10 #[v, .int .i64 n] W fun e w' => ∃ A n c, e = .returned (.tuple #[.slice A n c, .int .i64 0]) ∧ Below W.heap.size W w' ∧ Sl 3 elOtc w' (· < w'.heap.size) (.slice A n c) l :=
  (m_Shift d v n W h).mono fun e w' h => by rw [hs] at h; exact otc_ex3 h
set_option maxRecDepth 100000 in
set_option maxHeartbeats 4000000 in
theorem law_ModelMonotone (d : List Otc) (v : Value) (n : Nat) (hn : n < 256) (w : World) (hg : GlobN w) (h : Sl 3 elOtc w (· < w.heap.size) v d) :
    Calls Tryz.prog 4 #[v, .int .u8 (n : Int)] w fun e w' => e = .returned (.bool true) ∧ Below w.heap.size w w' := by
  obtain ⟨A, c, rfl, hc, hc2⟩ := h.shape
  have KAW := Lib.hid (law43_awake w hg)
  have tok0 : True := trivial
  by_cases h2 : 100 < d.length
  · have e2 : (100 : Int) < (d.length : Int) := by omega
    clear h hg h2
    go_enter Tryz.func4, Tryz.ntmps4
    go_wp2_with (go_at_call 9; refine KAW.out.mono ?_; rintro e w1 ⟨rfl, hb1⟩; have HB1 := Lib.hid hb1; clear hb1)
    go_ret
    exact ⟨rfl, HB1.out⟩
  · have e2 : (d.length : Int) ≤ 100 := by omega
    have Hd_0 := Lib.hid h
    have k2 := fun W v1 (h1 : Sl 3 elOtc W (· < W.heap.size) v1 d) => ch_Check d v1 W h1
    by_cases h0 : checkD d = 0
    · obtain ⟨m, hm⟩ : ∃ m, m = n % 12 := ⟨_, rfl⟩
      have hm12 : m < 12 := by omega
      have en : Int.tmod (n : Int) 12 = (m : Int) := by rw [hm, Int.tmod_eq_emod_of_nonneg (by omega)]; omega
      have hmono := shift_monotone h0 m hm12
      have s1 := shift_ok (d := d) (n := (m : Int)) h0 (by omega) (by omega)
      have s2 := shift_ok (d := d) (n := (m : Int) + 1) h0 (by omega) (by omega)
      have s3 := shift_ok (d := d) (n := -(m : Int)) h0 (by omega) (by omega)
      have hf := fit_of h0
      have t1 := canon_ok (hf.move (m : Int)).pos (hf.move (m : Int)).sum
      have t2 := canon_ok (hf.move ((m : Int) + 1)).pos (hf.move ((m : Int) + 1)).sum
      have t3 := canon_ok (hf.move (-(m : Int))).pos (hf.move (-(m : Int))).sum
      rw [s1, s2, s3] at hmono
      dsimp only at hmono
      generalize canon (moveW (wAt d) (m : Int)) = a at s1 t1 hmono
      generalize canon (moveW (wAt d) ((m : Int) + 1)) = b at s2 t2 hmono
      generalize canon (moveW (wAt d) (-(m : Int))) = c' at s3 t3 hmono
      obtain ⟨md, emd⟩ : ∃ x, meanL d = x := ⟨_, rfl⟩
      obtain ⟨ma, ema⟩ : ∃ x, meanL a = x := ⟨_, rfl⟩
      obtain ⟨mb, emb⟩ : ∃ x, meanL b = x := ⟨_, rfl⟩
      obtain ⟨mc, emc⟩ : ∃ x, meanL c' = x := ⟨_, rfl⟩
      obtain ⟨rd, erd⟩ : ∃ x, riskL d = x := ⟨_, rfl⟩
      obtain ⟨ra, era⟩ : ∃ x, riskL a = x := ⟨_, rfl⟩
      obtain ⟨rb, erb⟩ : ∃ x, riskL b = x := ⟨_, rfl⟩
      obtain ⟨rc, erc⟩ : ∃ x, riskL c' = x := ⟨_, rfl⟩
      rw [emd, ema, emb, emc, erd, era, erb, erc] at hmono
      obtain ⟨g1, g2, g3, g4, g5, g6⟩ := hmono
      have K3 := Lib.hid (shift_at d a _ s1)
      have K4 := Lib.hid (shift_at d b _ s2)
      have K5 := Lib.hid (shift_at d c' _ s3)
      have K6 := Lib.hid (mean_at d md h0 emd)
      have K7 := Lib.hid (mean_at a ma t1 ema)
      have K8 := Lib.hid (mean_at b mb t2 emb)
      have K9 := Lib.hid (mean_at c' mc t3 emc)
      have K10 := Lib.hid (risk_at d rd h0 erd)
      have K11 := Lib.hid (risk_at a ra t1 era)
      have K12 := Lib.hid (risk_at b rb t2 erb)
      have K13 := Lib.hid (risk_at c' rc t3 erc)
      rw [h0] at k2
      have K2 := Lib.hid k2
      clear k2 s1 s2 s3 t1 t2 t3 hf emd ema emb emc erd era erb erc h0 hm h hg h2
      go_enter Tryz.func4, Tryz.ntmps4
      go_wp2_with (first
        | (clear tok0; go_at_call 9; refine KAW.out.mono ?_; rintro e w1 ⟨rfl, hb⟩; have HB1 := Lib.hid hb; have Hd_1 := Lib.hid (sl_on3 Hd_0.out hb); clear hb; have tok1 : True := trivial)
        | (clear tok1; go_at_call 13; refine (K2.out _ _ Hd_1.out).mono ?_; rintro e w2 ⟨rfl, hb⟩; have HB2 := Lib.hid (HB1.out.trans (hb.mono HB1.out.size)); have Hd_2 := Lib.hid (sl_on3 Hd_1.out hb); clear hb; have tok2 : True := trivial)
        | (clear tok2; go_at_call 10; refine (K3.out _ _ Hd_2.out).mono ?_; rintro e w3 ⟨A3, n3, c3, rfl, hb, hs⟩; have Ha_3 := Lib.hid hs; have HB3 := Lib.hid (HB2.out.trans (hb.mono HB2.out.size)); have Hd_3 := Lib.hid (sl_on3 Hd_2.out hb); clear hb hs; have tok3 : True := trivial)
        | (clear tok3; go_at_call 10; refine (K4.out _ _ Hd_3.out).mono ?_; rintro e w4 ⟨A4, n4, c4, rfl, hb, hs⟩; have Hb_4 := Lib.hid hs; have HB4 := Lib.hid (HB3.out.trans (hb.mono HB3.out.size)); have Hd_4 := Lib.hid (sl_on3 Hd_3.out hb); have Ha_4 := Lib.hid (sl_on3 Ha_3.out hb); clear hb hs; have tok4 : True := trivial)
        | (clear tok4; go_at_call 10; refine (K5.out _ _ Hd_4.out).mono ?_; rintro e w5 ⟨A5, n5, c5, rfl, hb, hs⟩; have Hc_5 := Lib.hid hs; have HB5 := Lib.hid (HB4.out.trans (hb.mono HB4.out.size)); have Hd_5 := Lib.hid (sl_on3 Hd_4.out hb); have Ha_5 := Lib.hid (sl_on3 Ha_4.out hb); have Hb_5 := Lib.hid (sl_on3 Hb_4.out hb); clear hb hs; have tok5 : True := trivial)
        | (clear tok5; go_at_call 14; refine (K6.out _ _ Hd_5.out).mono ?_; rintro e w6 ⟨rfl, hb⟩; have HB6 := Lib.hid (HB5.out.trans (hb.mono HB5.out.size)); have Hd_6 := Lib.hid (sl_on3 Hd_5.out hb); have Ha_6 := Lib.hid (sl_on3 Ha_5.out hb); have Hb_6 := Lib.hid (sl_on3 Hb_5.out hb); have Hc_6 := Lib.hid (sl_on3 Hc_5.out hb); clear hb; have tok6 : True := trivial)
        | (clear tok6; go_at_call 14; refine (K7.out _ _ Ha_6.out).mono ?_; rintro e w7 ⟨rfl, hb⟩; have HB7 := Lib.hid (HB6.out.trans (hb.mono HB6.out.size)); have Hd_7 := Lib.hid (sl_on3 Hd_6.out hb); have Ha_7 := Lib.hid (sl_on3 Ha_6.out hb); have Hb_7 := Lib.hid (sl_on3 Hb_6.out hb); have Hc_7 := Lib.hid (sl_on3 Hc_6.out hb); clear hb; have tok7 : True := trivial)
        | (clear tok7; go_at_call 14; refine (K8.out _ _ Hb_7.out).mono ?_; rintro e w8 ⟨rfl, hb⟩; have HB8 := Lib.hid (HB7.out.trans (hb.mono HB7.out.size)); have Hd_8 := Lib.hid (sl_on3 Hd_7.out hb); have Ha_8 := Lib.hid (sl_on3 Ha_7.out hb); have Hb_8 := Lib.hid (sl_on3 Hb_7.out hb); have Hc_8 := Lib.hid (sl_on3 Hc_7.out hb); clear hb; have tok8 : True := trivial)
        | (clear tok8; go_at_call 14; refine (K9.out _ _ Hc_8.out).mono ?_; rintro e w9 ⟨rfl, hb⟩; have HB9 := Lib.hid (HB8.out.trans (hb.mono HB8.out.size)); have Hd_9 := Lib.hid (sl_on3 Hd_8.out hb); have Ha_9 := Lib.hid (sl_on3 Ha_8.out hb); have Hb_9 := Lib.hid (sl_on3 Hb_8.out hb); have Hc_9 := Lib.hid (sl_on3 Hc_8.out hb); clear hb; have tok9 : True := trivial)
        | (clear tok9; go_at_call 15; refine (K10.out _ _ Hd_9.out).mono ?_; rintro e w10 ⟨rfl, hb⟩; have HB10 := Lib.hid (HB9.out.trans (hb.mono HB9.out.size)); have Hd_10 := Lib.hid (sl_on3 Hd_9.out hb); have Ha_10 := Lib.hid (sl_on3 Ha_9.out hb); have Hb_10 := Lib.hid (sl_on3 Hb_9.out hb); have Hc_10 := Lib.hid (sl_on3 Hc_9.out hb); clear hb; have tok10 : True := trivial)
        | (clear tok10; go_at_call 15; refine (K11.out _ _ Ha_10.out).mono ?_; rintro e w11 ⟨rfl, hb⟩; have HB11 := Lib.hid (HB10.out.trans (hb.mono HB10.out.size)); have Hd_11 := Lib.hid (sl_on3 Hd_10.out hb); have Ha_11 := Lib.hid (sl_on3 Ha_10.out hb); have Hb_11 := Lib.hid (sl_on3 Hb_10.out hb); have Hc_11 := Lib.hid (sl_on3 Hc_10.out hb); clear hb; have tok11 : True := trivial)
        | (clear tok11; go_at_call 15; refine (K12.out _ _ Hb_11.out).mono ?_; rintro e w12 ⟨rfl, hb⟩; have HB12 := Lib.hid (HB11.out.trans (hb.mono HB11.out.size)); have Hd_12 := Lib.hid (sl_on3 Hd_11.out hb); have Ha_12 := Lib.hid (sl_on3 Ha_11.out hb); have Hb_12 := Lib.hid (sl_on3 Hb_11.out hb); have Hc_12 := Lib.hid (sl_on3 Hc_11.out hb); clear hb; have tok12 : True := trivial)
        | (clear tok12; go_at_call 15; refine (K13.out _ _ Hc_12.out).mono ?_; rintro e w13 ⟨rfl, hb⟩; have HB13 := Lib.hid (HB12.out.trans (hb.mono HB12.out.size)); have Hd_13 := Lib.hid (sl_on3 Hd_12.out hb); have Ha_13 := Lib.hid (sl_on3 Ha_12.out hb); have Hb_13 := Lib.hid (sl_on3 Hb_12.out hb); have Hc_13 := Lib.hid (sl_on3 Hc_12.out hb); clear hb; have tok13 : True := trivial))
      go_ret
      exact ⟨rfl, HB13.out⟩
    · have eu : (checkD d != 0) = true := by simp [h0]
      have K2 := Lib.hid k2
      clear k2 h0 h hg h2
      go_enter Tryz.func4, Tryz.ntmps4
      go_wp2_with (first
        | (clear tok0; go_at_call 9; refine KAW.out.mono ?_; rintro e w1 ⟨rfl, hb⟩; have HB1 := Lib.hid hb; have Hd_1 := Lib.hid (sl_on3 Hd_0.out hb); clear hb; have tok1 : True := trivial)
        | (clear tok1; go_at_call 13; refine (K2.out _ _ Hd_1.out).mono ?_; rintro e w2 ⟨rfl, hb⟩; have HB2 := Lib.hid (HB1.out.trans (hb.mono HB1.out.size)); have Hd_2 := Lib.hid (sl_on3 Hd_1.out hb); clear hb; have tok2 : True := trivial))
      go_ret
      exact ⟨rfl, HB2.out⟩
end Go.Proofs.YticfopjbaoigfaaGreatDoor
