/- The walk of ChaseChecks: errors, the first state, the status and the outcomes of both sides. -/
import Derived.Test.YtdomhdfeedecpaaGreatDoorYM2
set_option linter.unusedSimpArgs false
set_option linter.unusedVariables false
namespace Go.Proofs.YtdomhdfeedecpaaGreatDoor
open Go.RowKit

set_option maxRecDepth 100000 in
set_option maxHeartbeats 4000000 in
theorem law_ChaseChecks (c : Chs) (bv wv pv ov : Value) (s : Cst) (w : World) (hg : GlobN w) (h : ChAt w (· < w.heap.size) bv wv pv ov c) :
    Calls Tryz.prog 3 #[chV c bv wv pv ov, stV s] w fun e w' => e = .returned (.bool true) ∧ Below w.heap.size w w' := by
  unfold chV stV
  obtain ⟨ball, need, str, par, nxt⟩ := s
  obtain ⟨A, ca, rfl, hc1, hc2⟩ := h.mdl.bat.shape
  obtain ⟨A1, ca1, rfl, hc3, hc4⟩ := h.mdl.bow.shape
  obtain ⟨A2, ca2, rfl, hc5, hc6⟩ := h.bow.shape
  obtain ⟨A3, ca3, rfl, hc7, hc8⟩ := h.ord.shape
  have hx := CSB.new w c (.slice A c.mdl.bats.length ca) (.slice A1 c.mdl.bows.length ca1) (.slice A2 c.bows.length ca2) (.slice A3 c.ord.length ca3) ⟨ball, need, str, par, nxt⟩
  have HX0 := Lib.hid hx
  have HM := Lib.hid h
  have k1 := fun W (hW : Below w.heap.size w W) => law44_awake W (hg.below hW)
  have k2 := fun W (hW : Below w.heap.size w W) => law44_tiny c _ _ _ _ W (HM.out.below hW)
  have k3 := fun W (hW : Below w.heap.size w W) => ch44_Start c _ _ _ _ W (HM.out.below hW)
  have k4 := fun W (hW : Below w.heap.size w W) => r44_Start c _ _ _ _ W (HM.out.below hW)
  obtain ⟨⟨l, u⟩, hn⟩ : ∃ x, x = movesC c ⟨ball, need, str, par, nxt⟩ := ⟨_, rfl⟩
  have k5 := fun W (hW : Below w.heap.size w W) => (ch44_Moves c ⟨ball, need, str, par, nxt⟩ _ _ _ _ W (HM.out.below hW)).mono fun e w' h => by rw [← hn] at h; exact otc_exC h
  have k6 := fun W (hW : Below w.heap.size w W) => (r44_Moves c ⟨ball, need, str, par, nxt⟩ _ _ _ _ W (HM.out.below hW)).mono fun e w' h => by rw [← hn] at h; exact otc_exC h
  have k7 := fun W (hW : Below w.heap.size w W) => ch44_Check c _ _ _ _ W (HM.out.below hW)
  have k8 := fun W (hW : Below w.heap.size w W) => r44_Check c _ _ _ _ W (HM.out.below hW)
  have k9 := fun W (hW : Below w.heap.size w W) => ch44_CheckState c ⟨ball, need, str, par, nxt⟩ _ _ _ _ W (HM.out.below hW)
  have k10 := fun W (hW : Below w.heap.size w W) => r44_CheckState c ⟨ball, need, str, par, nxt⟩ _ _ _ _ W (HM.out.below hW)
  have k11 := fun W (hW : Below w.heap.size w W) => ch44_Status c ⟨ball, need, str, par, nxt⟩ _ _ _ _ W (HM.out.below hW)
  have k12 := fun W (hW : Below w.heap.size w W) => r44_Status c ⟨ball, need, str, par, nxt⟩ _ _ _ _ W (HM.out.below hW)
  obtain ⟨⟨a, v⟩, ha⟩ : ∃ x, x = startC c := ⟨_, rfl⟩
  rw [← ha] at k3 k4
  obtain ⟨m7, h7⟩ : ∃ x, x = checkC c := ⟨_, rfl⟩
  rw [← h7] at k7 k8
  obtain ⟨m9, h9⟩ : ∃ x, x = chstC c ⟨ball, need, str, par, nxt⟩ := ⟨_, rfl⟩
  rw [← h9] at k9 k10
  obtain ⟨m11, h11⟩ : ∃ x, x = statusC c ⟨ball, need, str, par, nxt⟩ := ⟨_, rfl⟩
  rw [← h11] at k11 k12
  unfold chV stV at k3 k4 k5 k6 k9 k10 k11 k12
  unfold chV at k2 k7 k8
  dsimp only at k3 k4 k5 k6 k9 k10 k11 k12
  have K1 := Lib.hid k1
  have K3 := Lib.hid k3
  have K4 := Lib.hid k4
  have K5 := Lib.hid k5
  have K6 := Lib.hid k6
  have K7 := Lib.hid k7
  have K8 := Lib.hid k8
  have K9 := Lib.hid k9
  have K10 := Lib.hid k10
  have K11 := Lib.hid k11
  have K12 := Lib.hid k12
  have tok0 : True := trivial
  clear k1 k3 k4 k5 k6 k7 k8 k9 k10 k11 k12 hn ha h7 h9 h11 hx h hg HM
  cases hs : smallC (tinyOf c)
  · rw [hs] at k2
    have K2 := Lib.hid k2
    clear k2 hs
    go_enter Tryz.func3, Tryz.ntmps3
    go_wp2_with (first
      | (clear tok0; go_at_call 8; refine (K1.out _ HX0.out.bel).mono ?_; rintro e w1 ⟨rfl, hb⟩; have HX1 := Lib.hid (HX0.out.below hb); obtain ⟨x0, x1, x2, x3, x4, x5, x6, y0, y1, y2, y3, y4⟩ := HX1.out.cells; dsimp only at y0 y1 y2 y3 y4; clear hb; have tok1 : True := trivial)
      | (clear tok1; go_at_call 9; refine (K2.out _ HX1.out.bel).mono ?_; rintro e w2 ⟨rfl, hb⟩; have HX2 := Lib.hid (HX1.out.below hb); obtain ⟨x0, x1, x2, x3, x4, x5, x6, y0, y1, y2, y3, y4⟩ := HX2.out.cells; dsimp only at y0 y1 y2 y3 y4; clear hb; have tok2 : True := trivial))
    go_ret
    exact ⟨rfl, HX2.out.bel⟩
  · rw [hs] at k2
    have K2 := Lib.hid k2
    clear k2 hs
    by_cases g1 : (100 : Int) < (c.ord.length : Int)
    · go_enter Tryz.func3, Tryz.ntmps3
      go_wp2_with (first
        | (clear tok0; go_at_call 8; refine (K1.out _ HX0.out.bel).mono ?_; rintro e w1 ⟨rfl, hb⟩; have HX1 := Lib.hid (HX0.out.below hb); obtain ⟨x0, x1, x2, x3, x4, x5, x6, y0, y1, y2, y3, y4⟩ := HX1.out.cells; dsimp only at y0 y1 y2 y3 y4; clear hb; have tok1 : True := trivial)
        | (clear tok1; go_at_call 9; refine (K2.out _ HX1.out.bel).mono ?_; rintro e w2 ⟨rfl, hb⟩; have HX2 := Lib.hid (HX1.out.below hb); obtain ⟨x0, x1, x2, x3, x4, x5, x6, y0, y1, y2, y3, y4⟩ := HX2.out.cells; dsimp only at y0 y1 y2 y3 y4; clear hb; have tok2 : True := trivial))
      go_ret
      exact ⟨rfl, HX2.out.bel⟩
    by_cases g2 : (100 : Int) < (c.bows.length : Int)
    · go_enter Tryz.func3, Tryz.ntmps3
      go_wp2_with (first
        | (clear tok0; go_at_call 8; refine (K1.out _ HX0.out.bel).mono ?_; rintro e w1 ⟨rfl, hb⟩; have HX1 := Lib.hid (HX0.out.below hb); obtain ⟨x0, x1, x2, x3, x4, x5, x6, y0, y1, y2, y3, y4⟩ := HX1.out.cells; dsimp only at y0 y1 y2 y3 y4; clear hb; have tok1 : True := trivial)
        | (clear tok1; go_at_call 9; refine (K2.out _ HX1.out.bel).mono ?_; rintro e w2 ⟨rfl, hb⟩; have HX2 := Lib.hid (HX1.out.below hb); obtain ⟨x0, x1, x2, x3, x4, x5, x6, y0, y1, y2, y3, y4⟩ := HX2.out.cells; dsimp only at y0 y1 y2 y3 y4; clear hb; have tok2 : True := trivial))
      go_ret
      exact ⟨rfl, HX2.out.bel⟩
    go_enter Tryz.func3, Tryz.ntmps3
    go_wp2_with (first
      | (clear tok0; go_at_call 8; refine (K1.out _ HX0.out.bel).mono ?_; rintro e w1 ⟨rfl, hb⟩; have HX1 := Lib.hid (HX0.out.below hb); obtain ⟨x0, x1, x2, x3, x4, x5, x6, y0, y1, y2, y3, y4⟩ := HX1.out.cells; dsimp only at y0 y1 y2 y3 y4; clear hb; have tok1 : True := trivial)
      | (clear tok1; go_at_call 9; refine (K2.out _ HX1.out.bel).mono ?_; rintro e w2 ⟨rfl, hb⟩; have HX2 := Lib.hid (HX1.out.below hb); obtain ⟨x0, x1, x2, x3, x4, x5, x6, y0, y1, y2, y3, y4⟩ := HX2.out.cells; dsimp only at y0 y1 y2 y3 y4; clear hb; have tok2 : True := trivial)
      | (clear tok2; go_at_call 10; refine (K3.out _ HX2.out.bel).mono ?_; rintro e w3 ⟨rfl, hb⟩; have HX3' := HX2.out.below hb; clear x0 x1 x2 x3 x4 x5 x6 y0 y1 y2 y3 y4; obtain ⟨x0, x1, x2, x3, x4, x5, x6, y0, y1, y2, y3, y4⟩ := HX3'.cells; dsimp only at y0 y1 y2 y3 y4; have hl1 := HX3'.box.lt; have hl2 := HX3'.st.lt; have HX3 := Lib.hid (HX3'.below (Below.alloc (Below.refl _ _) (Nat.le_refl _) (.cells #[.int .i64 a.ball, .int .i64 a.need, .int .i64 a.str, .int .i64 a.par, .int .i64 a.nxt] 30))); have HA3 := Lib.hid (Blk.new w3 30 #[.int .i64 a.ball, .int .i64 a.need, .int .i64 a.str, .int .i64 a.par, .int .i64 a.nxt]); clear HX3' hb; have tok3 : True := trivial)
      | (clear tok3; go_at_call 11; refine (K4.out _ HX3.out.bel).mono ?_; rintro e w4 ⟨rfl, hb⟩; have HX4' := HX3.out.below hb; clear x0 x1 x2 x3 x4 x5 x6 y0 y1 y2 y3 y4; clear hl1 hl2; obtain ⟨x0, x1, x2, x3, x4, x5, x6, y0, y1, y2, y3, y4⟩ := HX4'.cells; dsimp only at y0 y1 y2 y3 y4; have hl1 := HX4'.box.lt; have hl2 := HX4'.st.lt; have HF4 := Lib.hid (⟨HX4'.below (Below.alloc (Below.refl _ _) (Nat.le_refl _) (.cells #[.int .i64 a.ball, .int .i64 a.need, .int .i64 a.str, .int .i64 a.par, .int .i64 a.nxt] 30)), (HA3.out.below hb HA3.out.lt).alloc _, Blk.new w4 30 #[.int .i64 a.ball, .int .i64 a.need, .int .i64 a.str, .int .i64 a.par, .int .i64 a.nxt]⟩ : Four4 w (w4.alloc (.cells #[.int .i64 a.ball, .int .i64 a.need, .int .i64 a.str, .int .i64 a.par, .int .i64 a.nxt] 30)) w.heap.size w3.heap.size w4.heap.size c (.slice A c.mdl.bats.length ca) (.slice A1 c.mdl.bows.length ca1) (.slice A2 c.bows.length ca2) (.slice A3 c.ord.length ca3) ⟨ball, need, str, par, nxt⟩ a); clear HX4' hb; have tok4 : True := trivial)
      | (clear tok4; go_at_call 12; refine (K5.out _ HF4.out.base.bel).mono ?_; rintro e w5 ⟨A5, c5, rfl, hb, hs5⟩; have HF5 := Lib.hid (HF4.out.below hb); have HL5 := Lib.hid hs5; clear x0 x1 x2 x3 x4 x5 x6 y0 y1 y2 y3 y4; clear hl1 hl2; obtain ⟨x0, x1, x2, x3, x4, x5, x6, y0, y1, y2, y3, y4⟩ := HF5.out.base.cells; dsimp only at y0 y1 y2 y3 y4; clear hb hs5; have tok5 : True := trivial)
      | (clear tok5; go_at_call 13; refine (K6.out _ HF5.out.base.bel).mono ?_; rintro e w6 ⟨A6, c6, rfl, hb, hs6⟩; have HF6 := Lib.hid (HF5.out.below hb); have HL6 := Lib.hid (sl_on3 HL5.out hb); have HM6 := Lib.hid hs6; clear x0 x1 x2 x3 x4 x5 x6 y0 y1 y2 y3 y4; clear hb hs6; have tok6 : True := trivial))
    have hl9 : l.length ≤ 9223372036854775807 := by obtain ⟨_, _, _, h1, h2⟩ := HL6.out.shape; omega
    go_loopw [60] (fun i wr => ∃ k : Nat, k ≤ l.length ∧ i = .int .i64 k ∧ ∃ n, wr = w6.drewN n) (fun i _ => l.length - (intOf i).toNat)
    case atStart => exact ⟨0, Nat.zero_le _, rfl, 0, rfl⟩
    case round =>
      obtain ⟨k, hk, rfl, n, rfl⟩ := hrel
      by_cases hlt : k < l.length
      · obtain ⟨b, o, rfl, hbl, y0, y1, y2⟩ := otc_at HL6.out hlt
        obtain ⟨b', o', rfl, hbl', z0, z1, z2⟩ := otc_at HM6.out hlt
        obtain ⟨⟨pr, pw, pt⟩, hp⟩ : ∃ p, p = l[k] := ⟨_, rfl⟩
        rw [← hp] at y0 y1 y2 z0 z1 z2
        dsimp only at y0 y1 y2 z0 z1 z2
        clear hp
        go_wp2
        go_quiet (fail)
        go_wp2
        go_roundw
        case rel => exact ⟨k + 1, by omega, by go_num, _, rfl⟩
        case measure => simp [intOf]; omega
      · obtain rfl : k = l.length := by omega
        go_wp2
        have HF7 := Lib.hid (HF6.out.below (Below.drew (Below.drewN_ (Below.refl w6.heap.size w6) n)))
        obtain ⟨x0, x1, x2, x3, x4, x5, x6, y0, y1, y2, y3, y4⟩ := HF7.out.base.cells; obtain ⟨p0, p1, p2, p3, p4⟩ := blk_five HF7.out.fa; obtain ⟨q0, q1, q2, q3, q4⟩ := blk_five HF7.out.fb; dsimp only at y0 y1 y2 y3 y4
        have tok7 : True := trivial
        go_region_held3 (fun w' => w'.cell? ⟨w.heap.size, 0, none⟩ = some (.slice A c.mdl.bats.length ca) ∧ w'.cell? ⟨w.heap.size, 1, none⟩ = some (.slice A1 c.mdl.bows.length ca1) ∧ w'.cell? ⟨w.heap.size, 2, none⟩ = some (.slice A2 c.bows.length ca2) ∧ w'.cell? ⟨w.heap.size, 3, none⟩ = some (.int .i64 c.over) ∧ w'.cell? ⟨w.heap.size, 4, none⟩ = some (.int .i64 c.done) ∧ w'.cell? ⟨w.heap.size, 5, none⟩ = some (.int .i64 c.need) ∧ w'.cell? ⟨w.heap.size, 6, none⟩ = some (.slice A3 c.ord.length ca3) ∧ w'.cell? ⟨w.heap.size + 1, 0, none⟩ = some (.int .i64 ball) ∧ w'.cell? ⟨w.heap.size + 1, 1, none⟩ = some (.int .i64 need) ∧ w'.cell? ⟨w.heap.size + 1, 2, none⟩ = some (.int .i64 str) ∧ w'.cell? ⟨w.heap.size + 1, 3, none⟩ = some (.int .i64 par) ∧ w'.cell? ⟨w.heap.size + 1, 4, none⟩ = some (.int .i64 nxt) ∧ w'.cell? ⟨w3.heap.size, 0, none⟩ = some (.int .i64 a.ball) ∧ w'.cell? ⟨w3.heap.size, 1, none⟩ = some (.int .i64 a.need) ∧ w'.cell? ⟨w3.heap.size, 2, none⟩ = some (.int .i64 a.str) ∧ w'.cell? ⟨w3.heap.size, 3, none⟩ = some (.int .i64 a.par) ∧ w'.cell? ⟨w3.heap.size, 4, none⟩ = some (.int .i64 a.nxt) ∧ w'.cell? ⟨w4.heap.size, 0, none⟩ = some (.int .i64 a.ball) ∧ w'.cell? ⟨w4.heap.size, 1, none⟩ = some (.int .i64 a.need) ∧ w'.cell? ⟨w4.heap.size, 2, none⟩ = some (.int .i64 a.str) ∧ w'.cell? ⟨w4.heap.size, 3, none⟩ = some (.int .i64 a.par) ∧ w'.cell? ⟨w4.heap.size, 4, none⟩ = some (.int .i64 a.nxt)) (first | exact ⟨x0, x1, x2, x3, x4, x5, x6, y0, y1, y2, y3, y4, p0, p1, p2, p3, p4, q0, q1, q2, q3, q4⟩ | go_keep) (first
          | (clear tok7; go_at_call 14; refine (K7.out _ HF7.out.base.bel).mono ?_; rintro e w8 ⟨rfl, hb⟩; have HF8 := Lib.hid (HF7.out.below hb); obtain ⟨x0, x1, x2, x3, x4, x5, x6, y0, y1, y2, y3, y4⟩ := HF8.out.base.cells; obtain ⟨p0, p1, p2, p3, p4⟩ := blk_five HF8.out.fa; obtain ⟨q0, q1, q2, q3, q4⟩ := blk_five HF8.out.fb; dsimp only at y0 y1 y2 y3 y4; clear hb; have tok8 : True := trivial)
          | (clear tok8; go_at_call 15; refine (K8.out _ HF8.out.base.bel).mono ?_; rintro e w9 ⟨rfl, hb⟩; have HF9 := Lib.hid (HF8.out.below hb); obtain ⟨x0, x1, x2, x3, x4, x5, x6, y0, y1, y2, y3, y4⟩ := HF9.out.base.cells; obtain ⟨p0, p1, p2, p3, p4⟩ := blk_five HF9.out.fa; obtain ⟨q0, q1, q2, q3, q4⟩ := blk_five HF9.out.fb; dsimp only at y0 y1 y2 y3 y4; clear hb; have tok9 : True := trivial)
          | (clear tok9; go_at_call 16; refine (K9.out _ HF9.out.base.bel).mono ?_; rintro e w10 ⟨rfl, hb⟩; have HF10 := Lib.hid (HF9.out.below hb); obtain ⟨x0, x1, x2, x3, x4, x5, x6, y0, y1, y2, y3, y4⟩ := HF10.out.base.cells; obtain ⟨p0, p1, p2, p3, p4⟩ := blk_five HF10.out.fa; obtain ⟨q0, q1, q2, q3, q4⟩ := blk_five HF10.out.fb; dsimp only at y0 y1 y2 y3 y4; clear hb; have tok10 : True := trivial)
          | (clear tok10; go_at_call 17; refine (K10.out _ HF10.out.base.bel).mono ?_; rintro e w11 ⟨rfl, hb⟩; have HF11 := Lib.hid (HF10.out.below hb); obtain ⟨x0, x1, x2, x3, x4, x5, x6, y0, y1, y2, y3, y4⟩ := HF11.out.base.cells; obtain ⟨p0, p1, p2, p3, p4⟩ := blk_five HF11.out.fa; obtain ⟨q0, q1, q2, q3, q4⟩ := blk_five HF11.out.fb; dsimp only at y0 y1 y2 y3 y4; clear hb; have tok11 : True := trivial)
          | (clear tok11; go_at_call 18; refine (K11.out _ HF11.out.base.bel).mono ?_; rintro e w12 ⟨rfl, hb⟩; have HF12 := Lib.hid (HF11.out.below hb); obtain ⟨x0, x1, x2, x3, x4, x5, x6, y0, y1, y2, y3, y4⟩ := HF12.out.base.cells; obtain ⟨p0, p1, p2, p3, p4⟩ := blk_five HF12.out.fa; obtain ⟨q0, q1, q2, q3, q4⟩ := blk_five HF12.out.fb; dsimp only at y0 y1 y2 y3 y4; clear hb; have tok12 : True := trivial)
          | (clear tok12; go_at_call 19; refine (K12.out _ HF12.out.base.bel).mono ?_; rintro e w13 ⟨rfl, hb⟩; have HF13 := Lib.hid (HF12.out.below hb); obtain ⟨x0, x1, x2, x3, x4, x5, x6, y0, y1, y2, y3, y4⟩ := HF13.out.base.cells; obtain ⟨p0, p1, p2, p3, p4⟩ := blk_five HF13.out.fa; obtain ⟨q0, q1, q2, q3, q4⟩ := blk_five HF13.out.fb; dsimp only at y0 y1 y2 y3 y4; clear hb; have tok13 : True := trivial))
        all_goals go_wp2
        all_goals go_ret
        all_goals exact ⟨ret_b (by simp), HF13.out.base.bel⟩
end Go.Proofs.YtdomhdfeedecpaaGreatDoor
