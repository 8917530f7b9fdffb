/- The walk of ChanceDominates: what dominates has the greater mean, and dominates after the same third spread is added to both; each dominates itself. -/
import Derived.Test.YtoeeodemimndlaaGreatDoorH15
import Derived.Test.YtoeeodemimndlaaGreatDoorH16
set_option linter.unusedSimpArgs false
set_option linter.unusedVariables false
namespace Go.Proofs.YtoeeodemimndlaaGreatDoor
open Go.RowKit

theorem ofS_zero {d : List Otc} (h : (ofS d).2 = 0) : checkD d = 0 := by
  unfold ofS at h
  by_cases h0 : checkD d = 0
  · exact h0
  · rw [if_pos h0] at h; exact absurd h h0
theorem ofS_ok {d : List Otc} (h : checkD d = 0) : ofS d = (⟨1, ofL d⟩, 0) := by unfold ofS; rw [if_neg (fun k => k h)]
theorem domS_ok {n : Nat} {a b : List Int} (ha : OkP n a) (hb : OkP n b) : domS ⟨(n : Int), a⟩ ⟨(n : Int), b⟩ = (domF a b 0 b.length, 0) := by
  unfold domS
  rw [if_neg (fun k => k ha.check), if_neg (fun k => k hb.check), if_neg (by simp)]

set_option maxRecDepth 100000 in
set_option maxHeartbeats 4000000 in
theorem law_Dominates (d0 : List Otc) (v0 : Value) (d1 : List Otc) (v1 : Value) (d2 : List Otc) (v2 : Value) (w : World) (hg : GlobN w) (h0 : Sl 3 elOtc w (· < w.heap.size) v0 d0) (h1 : Sl 3 elOtc w (· < w.heap.size) v1 d1) (h2 : Sl 3 elOtc w (· < w.heap.size) v2 d2) :
    Calls Tryz.prog 9 #[v0, v1, v2] w fun e w' => e = .returned (.bool true) ∧ Below w.heap.size w w' := by
  obtain ⟨A0, c0, rfl, hc0, hc02⟩ := h0.shape
  obtain ⟨A1, c1, rfl, hc1, hc12⟩ := h1.shape
  obtain ⟨A2, c2, rfl, hc2, hc22⟩ := h2.shape
  have HAW := Lib.hid (law42_awake w hg)
  have k0 := fun W (hW : Below w.heap.size w W) => (ch_Of d0 _ W (otc_below h0 hW)).mono fun e W' h => h.out
  have k1 := fun W (hW : Below w.heap.size w W) => (ch_Of d1 _ W (otc_below h1 hW)).mono fun e W' h => h.out
  have k2 := fun W (hW : Below w.heap.size w W) => (ch_Of d2 _ W (otc_below h2 hW)).mono fun e W' h => h.out
  clear hg h0 h1 h2
  by_cases h200 : 200 < d0.length
  · have hl0 : (200 : Int) < (d0.length : Int) := by omega
    clear k0 k1 k2
    go_enter Tryz.func9, Tryz.ntmps9
    go_wp2_with (go_at_call 11; refine HAW.out.mono ?_; rintro e w1 ⟨rfl, hb1⟩)
    go_ret
    exact ⟨rfl, hb1⟩
  have hl0 : ¬ (200 : Int) < (d0.length : Int) := by omega
  clear h200
  by_cases h201 : 200 < d1.length
  · have hl1 : (200 : Int) < (d1.length : Int) := by omega
    clear k0 k1 k2
    go_enter Tryz.func9, Tryz.ntmps9
    go_wp2_with (go_at_call 11; refine HAW.out.mono ?_; rintro e w1 ⟨rfl, hb1⟩)
    go_ret
    exact ⟨rfl, hb1⟩
  have hl1 : ¬ (200 : Int) < (d1.length : Int) := by omega
  clear h201
  by_cases h202 : 200 < d2.length
  · have hl2 : (200 : Int) < (d2.length : Int) := by omega
    clear k0 k1 k2
    go_enter Tryz.func9, Tryz.ntmps9
    go_wp2_with (go_at_call 11; refine HAW.out.mono ?_; rintro e w1 ⟨rfl, hb1⟩)
    go_ret
    exact ⟨rfl, hb1⟩
  have hl2 : ¬ (200 : Int) < (d2.length : Int) := by omega
  clear h202
  by_cases hz0 : (ofS d0).2 = 0
  case neg =>
    obtain ⟨r0, hr0⟩ : ∃ r, r = ofS d0 := ⟨_, rfl⟩
    obtain ⟨r1, hr1⟩ : ∃ r, r = ofS d1 := ⟨_, rfl⟩
    obtain ⟨r2, hr2⟩ : ∃ r, r = ofS d2 := ⟨_, rfl⟩
    rw [← hr0] at k0 hz0
    rw [← hr1] at k1
    rw [← hr2] at k2
    have K0 := Lib.hid k0
    have K1 := Lib.hid k1
    have K2 := Lib.hid k2
    clear k0 k1 k2 hr0 hr1 hr2
    obtain ⟨⟨b0, l0⟩, e0⟩ := r0
    obtain ⟨⟨b1, l1⟩, e1⟩ := r1
    obtain ⟨⟨b2, l2⟩, e2⟩ := r2
    dsimp only at K0 K1 K2 hz0
    have g0 : (e0 != 0) = true := by rw [bne_iff_ne]; exact hz0
    clear hz0
    go_enter Tryz.func9, Tryz.ntmps9
    go_wp2_with (first
      | (go_at_call 11; refine (HAW.out).mono ?_; rintro e w1 ⟨rfl, hb1⟩; have HB1 := Lib.hid hb1; clear hb1; have tok1 : True := trivial)
      | (clear tok1; go_at_call 12; refine (K0.out _ HB1.out).mono ?_; rintro e w2 ⟨D2, k2, rfl, hs2, hb2⟩; have HXa_2 := Lib.hid (Bx.new (s := (⟨b0, l0⟩ : Spr)) hs2); have HB2 := Lib.hid ((HB1.out.trans (hb2.mono HB1.out.size)).alloc (HB1.out.trans (hb2.mono HB1.out.size)).size (.cells #[.int .i64 (⟨b0, l0⟩ : Spr).balls, .slice D2 (⟨b0, l0⟩ : Spr).ws.length k2] 26)); obtain ⟨ca0_2, ca1_2, _⟩ := HXa_2.out.blk.two; clear hs2 hb2; have tok2 : True := trivial)
      | (clear tok2; go_at_call 12; refine (K1.out _ HB2.out).mono ?_; rintro e w3 ⟨D3, k3, rfl, hs3, hb3⟩; have HXa_3 := Lib.hid ((HXa_2.out.below hb3).alloc (.cells #[.int .i64 (⟨b1, l1⟩ : Spr).balls, .slice D3 (⟨b1, l1⟩ : Spr).ws.length k3] 26)); have HXb_3 := Lib.hid (Bx.new (s := (⟨b1, l1⟩ : Spr)) hs3); have HB3 := Lib.hid ((HB2.out.trans (hb3.mono HB2.out.size)).alloc (HB2.out.trans (hb3.mono HB2.out.size)).size (.cells #[.int .i64 (⟨b1, l1⟩ : Spr).balls, .slice D3 (⟨b1, l1⟩ : Spr).ws.length k3] 26)); obtain ⟨ca0_3, ca1_3, _⟩ := HXa_3.out.blk.two; obtain ⟨cb0_3, cb1_3, _⟩ := HXb_3.out.blk.two; clear hs3 hb3; have tok3 : True := trivial)
      | (clear tok3; go_at_call 12; refine (K2.out _ HB3.out).mono ?_; rintro e w4 ⟨D4, k4, rfl, hs4, hb4⟩; have HXa_4 := Lib.hid ((HXa_3.out.below hb4).alloc (.cells #[.int .i64 (⟨b2, l2⟩ : Spr).balls, .slice D4 (⟨b2, l2⟩ : Spr).ws.length k4] 26)); have HXb_4 := Lib.hid ((HXb_3.out.below hb4).alloc (.cells #[.int .i64 (⟨b2, l2⟩ : Spr).balls, .slice D4 (⟨b2, l2⟩ : Spr).ws.length k4] 26)); have HXz_4 := Lib.hid (Bx.new (s := (⟨b2, l2⟩ : Spr)) hs4); have HB4 := Lib.hid ((HB3.out.trans (hb4.mono HB3.out.size)).alloc (HB3.out.trans (hb4.mono HB3.out.size)).size (.cells #[.int .i64 (⟨b2, l2⟩ : Spr).balls, .slice D4 (⟨b2, l2⟩ : Spr).ws.length k4] 26)); obtain ⟨ca0_4, ca1_4, _⟩ := HXa_4.out.blk.two; obtain ⟨cb0_4, cb1_4, _⟩ := HXb_4.out.blk.two; obtain ⟨cz0_4, cz1_4, _⟩ := HXz_4.out.blk.two; clear hs4 hb4; have tok4 : True := trivial))
    go_ret
    exact ⟨rfl, HB4.out⟩
  by_cases hz1 : (ofS d1).2 = 0
  case neg =>
    obtain ⟨r0, hr0⟩ : ∃ r, r = ofS d0 := ⟨_, rfl⟩
    obtain ⟨r1, hr1⟩ : ∃ r, r = ofS d1 := ⟨_, rfl⟩
    obtain ⟨r2, hr2⟩ : ∃ r, r = ofS d2 := ⟨_, rfl⟩
    rw [← hr0] at k0 hz0
    rw [← hr1] at k1 hz1
    rw [← hr2] at k2
    have K0 := Lib.hid k0
    have K1 := Lib.hid k1
    have K2 := Lib.hid k2
    clear k0 k1 k2 hr0 hr1 hr2
    obtain ⟨⟨b0, l0⟩, e0⟩ := r0
    obtain ⟨⟨b1, l1⟩, e1⟩ := r1
    obtain ⟨⟨b2, l2⟩, e2⟩ := r2
    dsimp only at K0 K1 K2 hz0 hz1
    subst hz0
    have g1 : (e1 != 0) = true := by rw [bne_iff_ne]; exact hz1
    clear hz1
    go_enter Tryz.func9, Tryz.ntmps9
    go_wp2_with (first
      | (go_at_call 11; refine (HAW.out).mono ?_; rintro e w1 ⟨rfl, hb1⟩; have HB1 := Lib.hid hb1; clear hb1; have tok1 : True := trivial)
      | (clear tok1; go_at_call 12; refine (K0.out _ HB1.out).mono ?_; rintro e w2 ⟨D2, k2, rfl, hs2, hb2⟩; have HXa_2 := Lib.hid (Bx.new (s := (⟨b0, l0⟩ : Spr)) hs2); have HB2 := Lib.hid ((HB1.out.trans (hb2.mono HB1.out.size)).alloc (HB1.out.trans (hb2.mono HB1.out.size)).size (.cells #[.int .i64 (⟨b0, l0⟩ : Spr).balls, .slice D2 (⟨b0, l0⟩ : Spr).ws.length k2] 26)); obtain ⟨ca0_2, ca1_2, _⟩ := HXa_2.out.blk.two; clear hs2 hb2; have tok2 : True := trivial)
      | (clear tok2; go_at_call 12; refine (K1.out _ HB2.out).mono ?_; rintro e w3 ⟨D3, k3, rfl, hs3, hb3⟩; have HXa_3 := Lib.hid ((HXa_2.out.below hb3).alloc (.cells #[.int .i64 (⟨b1, l1⟩ : Spr).balls, .slice D3 (⟨b1, l1⟩ : Spr).ws.length k3] 26)); have HXb_3 := Lib.hid (Bx.new (s := (⟨b1, l1⟩ : Spr)) hs3); have HB3 := Lib.hid ((HB2.out.trans (hb3.mono HB2.out.size)).alloc (HB2.out.trans (hb3.mono HB2.out.size)).size (.cells #[.int .i64 (⟨b1, l1⟩ : Spr).balls, .slice D3 (⟨b1, l1⟩ : Spr).ws.length k3] 26)); obtain ⟨ca0_3, ca1_3, _⟩ := HXa_3.out.blk.two; obtain ⟨cb0_3, cb1_3, _⟩ := HXb_3.out.blk.two; clear hs3 hb3; have tok3 : True := trivial)
      | (clear tok3; go_at_call 12; refine (K2.out _ HB3.out).mono ?_; rintro e w4 ⟨D4, k4, rfl, hs4, hb4⟩; have HXa_4 := Lib.hid ((HXa_3.out.below hb4).alloc (.cells #[.int .i64 (⟨b2, l2⟩ : Spr).balls, .slice D4 (⟨b2, l2⟩ : Spr).ws.length k4] 26)); have HXb_4 := Lib.hid ((HXb_3.out.below hb4).alloc (.cells #[.int .i64 (⟨b2, l2⟩ : Spr).balls, .slice D4 (⟨b2, l2⟩ : Spr).ws.length k4] 26)); have HXz_4 := Lib.hid (Bx.new (s := (⟨b2, l2⟩ : Spr)) hs4); have HB4 := Lib.hid ((HB3.out.trans (hb4.mono HB3.out.size)).alloc (HB3.out.trans (hb4.mono HB3.out.size)).size (.cells #[.int .i64 (⟨b2, l2⟩ : Spr).balls, .slice D4 (⟨b2, l2⟩ : Spr).ws.length k4] 26)); obtain ⟨ca0_4, ca1_4, _⟩ := HXa_4.out.blk.two; obtain ⟨cb0_4, cb1_4, _⟩ := HXb_4.out.blk.two; obtain ⟨cz0_4, cz1_4, _⟩ := HXz_4.out.blk.two; clear hs4 hb4; have tok4 : True := trivial))
    go_ret
    exact ⟨rfl, HB4.out⟩
  by_cases hz2 : (ofS d2).2 = 0
  case neg =>
    obtain ⟨r0, hr0⟩ : ∃ r, r = ofS d0 := ⟨_, rfl⟩
    obtain ⟨r1, hr1⟩ : ∃ r, r = ofS d1 := ⟨_, rfl⟩
    obtain ⟨r2, hr2⟩ : ∃ r, r = ofS d2 := ⟨_, rfl⟩
    rw [← hr0] at k0 hz0
    rw [← hr1] at k1 hz1
    rw [← hr2] at k2 hz2
    have K0 := Lib.hid k0
    have K1 := Lib.hid k1
    have K2 := Lib.hid k2
    clear k0 k1 k2 hr0 hr1 hr2
    obtain ⟨⟨b0, l0⟩, e0⟩ := r0
    obtain ⟨⟨b1, l1⟩, e1⟩ := r1
    obtain ⟨⟨b2, l2⟩, e2⟩ := r2
    dsimp only at K0 K1 K2 hz0 hz1 hz2
    subst hz0
    subst hz1
    have g2 : (e2 != 0) = true := by rw [bne_iff_ne]; exact hz2
    clear hz2
    go_enter Tryz.func9, Tryz.ntmps9
    go_wp2_with (first
      | (go_at_call 11; refine (HAW.out).mono ?_; rintro e w1 ⟨rfl, hb1⟩; have HB1 := Lib.hid hb1; clear hb1; have tok1 : True := trivial)
      | (clear tok1; go_at_call 12; refine (K0.out _ HB1.out).mono ?_; rintro e w2 ⟨D2, k2, rfl, hs2, hb2⟩; have HXa_2 := Lib.hid (Bx.new (s := (⟨b0, l0⟩ : Spr)) hs2); have HB2 := Lib.hid ((HB1.out.trans (hb2.mono HB1.out.size)).alloc (HB1.out.trans (hb2.mono HB1.out.size)).size (.cells #[.int .i64 (⟨b0, l0⟩ : Spr).balls, .slice D2 (⟨b0, l0⟩ : Spr).ws.length k2] 26)); obtain ⟨ca0_2, ca1_2, _⟩ := HXa_2.out.blk.two; clear hs2 hb2; have tok2 : True := trivial)
      | (clear tok2; go_at_call 12; refine (K1.out _ HB2.out).mono ?_; rintro e w3 ⟨D3, k3, rfl, hs3, hb3⟩; have HXa_3 := Lib.hid ((HXa_2.out.below hb3).alloc (.cells #[.int .i64 (⟨b1, l1⟩ : Spr).balls, .slice D3 (⟨b1, l1⟩ : Spr).ws.length k3] 26)); have HXb_3 := Lib.hid (Bx.new (s := (⟨b1, l1⟩ : Spr)) hs3); have HB3 := Lib.hid ((HB2.out.trans (hb3.mono HB2.out.size)).alloc (HB2.out.trans (hb3.mono HB2.out.size)).size (.cells #[.int .i64 (⟨b1, l1⟩ : Spr).balls, .slice D3 (⟨b1, l1⟩ : Spr).ws.length k3] 26)); obtain ⟨ca0_3, ca1_3, _⟩ := HXa_3.out.blk.two; obtain ⟨cb0_3, cb1_3, _⟩ := HXb_3.out.blk.two; clear hs3 hb3; have tok3 : True := trivial)
      | (clear tok3; go_at_call 12; refine (K2.out _ HB3.out).mono ?_; rintro e w4 ⟨D4, k4, rfl, hs4, hb4⟩; have HXa_4 := Lib.hid ((HXa_3.out.below hb4).alloc (.cells #[.int .i64 (⟨b2, l2⟩ : Spr).balls, .slice D4 (⟨b2, l2⟩ : Spr).ws.length k4] 26)); have HXb_4 := Lib.hid ((HXb_3.out.below hb4).alloc (.cells #[.int .i64 (⟨b2, l2⟩ : Spr).balls, .slice D4 (⟨b2, l2⟩ : Spr).ws.length k4] 26)); have HXz_4 := Lib.hid (Bx.new (s := (⟨b2, l2⟩ : Spr)) hs4); have HB4 := Lib.hid ((HB3.out.trans (hb4.mono HB3.out.size)).alloc (HB3.out.trans (hb4.mono HB3.out.size)).size (.cells #[.int .i64 (⟨b2, l2⟩ : Spr).balls, .slice D4 (⟨b2, l2⟩ : Spr).ws.length k4] 26)); obtain ⟨ca0_4, ca1_4, _⟩ := HXa_4.out.blk.two; obtain ⟨cb0_4, cb1_4, _⟩ := HXb_4.out.blk.two; obtain ⟨cz0_4, cz1_4, _⟩ := HXz_4.out.blk.two; clear hs4 hb4; have tok4 : True := trivial))
    go_ret
    exact ⟨rfl, HB4.out⟩
  have hD0 := ofS_zero hz0
  have hD1 := ofS_zero hz1
  have hD2 := ofS_zero hz2
  have oa := ofL_ok (checkD_ok hD0)
  have ob := ofL_ok (checkD_ok hD1)
  have oz := ofL_ok (checkD_ok hD2)
  rw [ofS_ok hD0] at k0
  rw [ofS_ok hD1] at k1
  rw [ofS_ok hD2] at k2
  clear hz0 hz1 hz2 hD0 hD1 hD2
  generalize ofL d0 = la at *
  generalize ofL d1 = lb at *
  generalize ofL d2 = lz at *
  have ox := conv_ok oa oz (by omega)
  have oy := conv_ok ob oz (by omega)
  have ka := fun W (hW : Below w.heap.size w W) D k D' k' (h1 : Sl 1 elInt W (· < W.heap.size) (.slice D la.length k) la) (h2 : Sl 1 elInt W (· < W.heap.size) (.slice D' lb.length k') lb) => ch_Dominates ⟨1, la⟩ ⟨1, lb⟩ _ _ W h1 h2
  have eab : domS ⟨1, la⟩ ⟨1, lb⟩ = (domF la lb 0 lb.length, 0) := domS_ok oa ob
  rw [eab] at ka
  have kb := fun W (hW : Below w.heap.size w W) D k (h1 : Sl 1 elInt W (· < W.heap.size) (.slice D la.length k) la) => ch_Sum ⟨1, la⟩ _ W h1
  have esa : sumS ⟨1, la⟩ = (sxF 0 la, 0) := sumS_ok oa
  rw [esa] at kb
  have kc := fun W (hW : Below w.heap.size w W) D k (h1 : Sl 1 elInt W (· < W.heap.size) (.slice D lb.length k) lb) => ch_Sum ⟨1, lb⟩ _ W h1
  have esb : sumS ⟨1, lb⟩ = (sxF 0 lb, 0) := sumS_ok ob
  rw [esb] at kc
  have kd := fun W (hW : Below w.heap.size w W) D k D' k' (h1 : Sl 1 elInt W (· < W.heap.size) (.slice D la.length k) la) (h2 : Sl 1 elInt W (· < W.heap.size) (.slice D' lz.length k') lz) => (ch_Convolve ⟨1, la⟩ ⟨1, lz⟩ _ _ W h1 h2).mono fun e W' h => h.out
  have ex : convolveS ⟨1, la⟩ ⟨1, lz⟩ = (⟨2, convL la lz⟩, 0) := convolveS_ok (n := 1) (m := 1) oa oz (by omega)
  rw [ex] at kd
  have ke := fun W (hW : Below w.heap.size w W) D k D' k' (h1 : Sl 1 elInt W (· < W.heap.size) (.slice D lb.length k) lb) (h2 : Sl 1 elInt W (· < W.heap.size) (.slice D' lz.length k') lz) => (ch_Convolve ⟨1, lb⟩ ⟨1, lz⟩ _ _ W h1 h2).mono fun e W' h => h.out
  have ey : convolveS ⟨1, lb⟩ ⟨1, lz⟩ = (⟨2, convL lb lz⟩, 0) := convolveS_ok (n := 1) (m := 1) ob oz (by omega)
  rw [ey] at ke
  have kf := fun W (hW : Below w.heap.size w W) D k D' k' (h1 : Sl 1 elInt W (· < W.heap.size) (.slice D (convL la lz).length k) (convL la lz)) (h2 : Sl 1 elInt W (· < W.heap.size) (.slice D' (convL lb lz).length k') (convL lb lz)) => ch_Dominates ⟨2, convL la lz⟩ ⟨2, convL lb lz⟩ _ _ W h1 h2
  have exy : domS ⟨2, convL la lz⟩ ⟨2, convL lb lz⟩ = (domF (convL la lz) (convL lb lz) 0 (convL lb lz).length, 0) := domS_ok (n := 2) ox oy
  rw [exy] at kf
  have kh := fun W (hW : Below w.heap.size w W) D k D' k' (h1 : Sl 1 elInt W (· < W.heap.size) (.slice D la.length k) la) (h2 : Sl 1 elInt W (· < W.heap.size) (.slice D' la.length k') la) => ch_Dominates ⟨1, la⟩ ⟨1, la⟩ _ _ W h1 h2
  have eaa : domS ⟨1, la⟩ ⟨1, la⟩ = (true, 0) := by rw [← dom_self la]; exact domS_ok oa oa
  rw [eaa] at kh
  have dc := dom_conv oa.fine ob.fine oz.fine oa.ne ob.ne
  have dme := dom_mean oa.fine ob.fine
  unfold sprV at ka kb kc kd ke kf kh
  clear oa ob oz ox oy eab esa esb ex ey exy eaa
  generalize domF la lb 0 lb.length = dm at *
  generalize domF (convL la lz) (convL lb lz) 0 (convL lb lz).length = xy at *
  generalize convL la lz = lx at *
  generalize convL lb lz = ly at *
  generalize sxF 0 la = sa at *
  generalize sxF 0 lb = sb at *
  have K0 := Lib.hid k0
  have K1 := Lib.hid k1
  have K2 := Lib.hid k2
  have Ka := Lib.hid ka
  have Kb := Lib.hid kb
  have Kc := Lib.hid kc
  have Kd := Lib.hid kd
  have Ke := Lib.hid ke
  have Kf := Lib.hid kf
  have Kh := Lib.hid kh
  clear k0 k1 k2 ka kb kc kd ke kf kh
  try dsimp only at K0 K1 K2 Ka Kb Kc Kd Ke Kf Kh
  cases dm
  case false =>
    clear dc dme
    go_enter Tryz.func9, Tryz.ntmps9
    go_wp2_with (first
      | (go_at_call 11; refine (HAW.out).mono ?_; rintro e w1 ⟨rfl, hb1⟩; have HB1 := Lib.hid hb1; clear hb1; have tok1 : True := trivial)
      | (clear tok1; go_at_call 12; refine (K0.out _ HB1.out).mono ?_; rintro e w2 ⟨D2, k2, rfl, hs2, hb2⟩; have HXa_2 := Lib.hid (Bx.new (s := (⟨1, la⟩ : Spr)) hs2); have HB2 := Lib.hid ((HB1.out.trans (hb2.mono HB1.out.size)).alloc (HB1.out.trans (hb2.mono HB1.out.size)).size (.cells #[.int .i64 (⟨1, la⟩ : Spr).balls, .slice D2 (⟨1, la⟩ : Spr).ws.length k2] 26)); obtain ⟨ca0_2, ca1_2, _⟩ := HXa_2.out.blk.two; clear hs2 hb2; have tok2 : True := trivial)
      | (clear tok2; go_at_call 12; refine (K1.out _ HB2.out).mono ?_; rintro e w3 ⟨D3, k3, rfl, hs3, hb3⟩; have HXa_3 := Lib.hid ((HXa_2.out.below hb3).alloc (.cells #[.int .i64 (⟨1, lb⟩ : Spr).balls, .slice D3 (⟨1, lb⟩ : Spr).ws.length k3] 26)); have HXb_3 := Lib.hid (Bx.new (s := (⟨1, lb⟩ : Spr)) hs3); have HB3 := Lib.hid ((HB2.out.trans (hb3.mono HB2.out.size)).alloc (HB2.out.trans (hb3.mono HB2.out.size)).size (.cells #[.int .i64 (⟨1, lb⟩ : Spr).balls, .slice D3 (⟨1, lb⟩ : Spr).ws.length k3] 26)); obtain ⟨ca0_3, ca1_3, _⟩ := HXa_3.out.blk.two; obtain ⟨cb0_3, cb1_3, _⟩ := HXb_3.out.blk.two; clear hs3 hb3; clear ca0_2 ca1_2; have tok3 : True := trivial)
      | (clear tok3; go_at_call 12; refine (K2.out _ HB3.out).mono ?_; rintro e w4 ⟨D4, k4, rfl, hs4, hb4⟩; have HXa_4 := Lib.hid ((HXa_3.out.below hb4).alloc (.cells #[.int .i64 (⟨1, lz⟩ : Spr).balls, .slice D4 (⟨1, lz⟩ : Spr).ws.length k4] 26)); have HXb_4 := Lib.hid ((HXb_3.out.below hb4).alloc (.cells #[.int .i64 (⟨1, lz⟩ : Spr).balls, .slice D4 (⟨1, lz⟩ : Spr).ws.length k4] 26)); have HXz_4 := Lib.hid (Bx.new (s := (⟨1, lz⟩ : Spr)) hs4); have HB4 := Lib.hid ((HB3.out.trans (hb4.mono HB3.out.size)).alloc (HB3.out.trans (hb4.mono HB3.out.size)).size (.cells #[.int .i64 (⟨1, lz⟩ : Spr).balls, .slice D4 (⟨1, lz⟩ : Spr).ws.length k4] 26)); obtain ⟨ca0_4, ca1_4, _⟩ := HXa_4.out.blk.two; obtain ⟨cb0_4, cb1_4, _⟩ := HXb_4.out.blk.two; obtain ⟨cz0_4, cz1_4, _⟩ := HXz_4.out.blk.two; clear hs4 hb4; clear ca0_3 ca1_3 cb0_3 cb1_3; have tok4 : True := trivial)
      | (clear tok4; go_at_call 33; refine (Ka.out _ HB4.out _ _ _ _ HXa_4.out.sl HXb_4.out.sl).mono ?_; rintro e w5 ⟨rfl, hb5⟩; have HXa_5 := Lib.hid (HXa_4.out.below hb5); obtain ⟨ca0_5, ca1_5, _⟩ := HXa_5.out.blk.two; have HXb_5 := Lib.hid (HXb_4.out.below hb5); obtain ⟨cb0_5, cb1_5, _⟩ := HXb_5.out.blk.two; have HXz_5 := Lib.hid (HXz_4.out.below hb5); obtain ⟨cz0_5, cz1_5, _⟩ := HXz_5.out.blk.two; have HB5 := Lib.hid (HB4.out.trans (hb5.mono HB4.out.size)); clear hb5; clear ca0_4 ca1_4 cb0_4 cb1_4 cz0_4 cz1_4; have tok5 : True := trivial)
      | (clear tok5; go_at_call 26; refine (Kb.out _ HB5.out _ _ HXa_5.out.sl).mono ?_; rintro e w6 ⟨rfl, hb6⟩; have HXa_6 := Lib.hid (HXa_5.out.below hb6); obtain ⟨ca0_6, ca1_6, _⟩ := HXa_6.out.blk.two; have HXb_6 := Lib.hid (HXb_5.out.below hb6); obtain ⟨cb0_6, cb1_6, _⟩ := HXb_6.out.blk.two; have HXz_6 := Lib.hid (HXz_5.out.below hb6); obtain ⟨cz0_6, cz1_6, _⟩ := HXz_6.out.blk.two; have HB6 := Lib.hid (HB5.out.trans (hb6.mono HB5.out.size)); clear hb6; clear ca0_5 ca1_5 cb0_5 cb1_5 cz0_5 cz1_5; have tok6 : True := trivial)
      | (clear tok6; go_at_call 26; refine (Kc.out _ HB6.out _ _ HXb_6.out.sl).mono ?_; rintro e w7 ⟨rfl, hb7⟩; have HXa_7 := Lib.hid (HXa_6.out.below hb7); obtain ⟨ca0_7, ca1_7, _⟩ := HXa_7.out.blk.two; have HXb_7 := Lib.hid (HXb_6.out.below hb7); obtain ⟨cb0_7, cb1_7, _⟩ := HXb_7.out.blk.two; have HXz_7 := Lib.hid (HXz_6.out.below hb7); obtain ⟨cz0_7, cz1_7, _⟩ := HXz_7.out.blk.two; have HB7 := Lib.hid (HB6.out.trans (hb7.mono HB6.out.size)); clear hb7; clear ca0_6 ca1_6 cb0_6 cb1_6 cz0_6 cz1_6; have tok7 : True := trivial)
      | (clear tok7; go_at_call 24; refine (Kd.out _ HB7.out _ _ _ _ HXa_7.out.sl HXz_7.out.sl).mono ?_; rintro e w8 ⟨D8, k8, rfl, hs8, hb8⟩; have HXa_8 := Lib.hid ((HXa_7.out.below hb8).alloc (.cells #[.int .i64 (⟨2, lx⟩ : Spr).balls, .slice D8 (⟨2, lx⟩ : Spr).ws.length k8] 26)); have HXb_8 := Lib.hid ((HXb_7.out.below hb8).alloc (.cells #[.int .i64 (⟨2, lx⟩ : Spr).balls, .slice D8 (⟨2, lx⟩ : Spr).ws.length k8] 26)); have HXz_8 := Lib.hid ((HXz_7.out.below hb8).alloc (.cells #[.int .i64 (⟨2, lx⟩ : Spr).balls, .slice D8 (⟨2, lx⟩ : Spr).ws.length k8] 26)); have HXx_8 := Lib.hid (Bx.new (s := (⟨2, lx⟩ : Spr)) hs8); have HB8 := Lib.hid ((HB7.out.trans (hb8.mono HB7.out.size)).alloc (HB7.out.trans (hb8.mono HB7.out.size)).size (.cells #[.int .i64 (⟨2, lx⟩ : Spr).balls, .slice D8 (⟨2, lx⟩ : Spr).ws.length k8] 26)); obtain ⟨ca0_8, ca1_8, _⟩ := HXa_8.out.blk.two; obtain ⟨cb0_8, cb1_8, _⟩ := HXb_8.out.blk.two; obtain ⟨cz0_8, cz1_8, _⟩ := HXz_8.out.blk.two; obtain ⟨cx0_8, cx1_8, _⟩ := HXx_8.out.blk.two; clear hs8 hb8; clear ca0_7 ca1_7 cb0_7 cb1_7 cz0_7 cz1_7; have tok8 : True := trivial)
      | (clear tok8; go_at_call 24; refine (Ke.out _ HB8.out _ _ _ _ HXb_8.out.sl HXz_8.out.sl).mono ?_; rintro e w9 ⟨D9, k9, rfl, hs9, hb9⟩; have HXa_9 := Lib.hid ((HXa_8.out.below hb9).alloc (.cells #[.int .i64 (⟨2, ly⟩ : Spr).balls, .slice D9 (⟨2, ly⟩ : Spr).ws.length k9] 26)); have HXb_9 := Lib.hid ((HXb_8.out.below hb9).alloc (.cells #[.int .i64 (⟨2, ly⟩ : Spr).balls, .slice D9 (⟨2, ly⟩ : Spr).ws.length k9] 26)); have HXz_9 := Lib.hid ((HXz_8.out.below hb9).alloc (.cells #[.int .i64 (⟨2, ly⟩ : Spr).balls, .slice D9 (⟨2, ly⟩ : Spr).ws.length k9] 26)); have HXx_9 := Lib.hid ((HXx_8.out.below hb9).alloc (.cells #[.int .i64 (⟨2, ly⟩ : Spr).balls, .slice D9 (⟨2, ly⟩ : Spr).ws.length k9] 26)); have HXy_9 := Lib.hid (Bx.new (s := (⟨2, ly⟩ : Spr)) hs9); have HB9 := Lib.hid ((HB8.out.trans (hb9.mono HB8.out.size)).alloc (HB8.out.trans (hb9.mono HB8.out.size)).size (.cells #[.int .i64 (⟨2, ly⟩ : Spr).balls, .slice D9 (⟨2, ly⟩ : Spr).ws.length k9] 26)); obtain ⟨ca0_9, ca1_9, _⟩ := HXa_9.out.blk.two; obtain ⟨cb0_9, cb1_9, _⟩ := HXb_9.out.blk.two; obtain ⟨cz0_9, cz1_9, _⟩ := HXz_9.out.blk.two; obtain ⟨cx0_9, cx1_9, _⟩ := HXx_9.out.blk.two; obtain ⟨cy0_9, cy1_9, _⟩ := HXy_9.out.blk.two; clear hs9 hb9; clear ca0_8 ca1_8 cb0_8 cb1_8 cz0_8 cz1_8 cx0_8 cx1_8; have tok9 : True := trivial)
      | (clear tok9; go_at_call 33; refine (Kf.out _ HB9.out _ _ _ _ HXx_9.out.sl HXy_9.out.sl).mono ?_; rintro e w10 ⟨rfl, hb10⟩; have HXa_10 := Lib.hid (HXa_9.out.below hb10); obtain ⟨ca0_10, ca1_10, _⟩ := HXa_10.out.blk.two; have HXb_10 := Lib.hid (HXb_9.out.below hb10); obtain ⟨cb0_10, cb1_10, _⟩ := HXb_10.out.blk.two; have HXz_10 := Lib.hid (HXz_9.out.below hb10); obtain ⟨cz0_10, cz1_10, _⟩ := HXz_10.out.blk.two; have HXx_10 := Lib.hid (HXx_9.out.below hb10); obtain ⟨cx0_10, cx1_10, _⟩ := HXx_10.out.blk.two; have HXy_10 := Lib.hid (HXy_9.out.below hb10); obtain ⟨cy0_10, cy1_10, _⟩ := HXy_10.out.blk.two; have HB10 := Lib.hid (HB9.out.trans (hb10.mono HB9.out.size)); clear hb10; clear ca0_9 ca1_9 cb0_9 cb1_9 cz0_9 cz1_9 cx0_9 cx1_9 cy0_9 cy1_9; have tok10 : True := trivial)
      | (clear tok10; go_at_call 33; refine (Kh.out _ HB10.out _ _ _ _ HXa_10.out.sl HXa_10.out.sl).mono ?_; rintro e w11 ⟨rfl, hb11⟩; have HXa_11 := Lib.hid (HXa_10.out.below hb11); obtain ⟨ca0_11, ca1_11, _⟩ := HXa_11.out.blk.two; have HXb_11 := Lib.hid (HXb_10.out.below hb11); obtain ⟨cb0_11, cb1_11, _⟩ := HXb_11.out.blk.two; have HXz_11 := Lib.hid (HXz_10.out.below hb11); obtain ⟨cz0_11, cz1_11, _⟩ := HXz_11.out.blk.two; have HXx_11 := Lib.hid (HXx_10.out.below hb11); obtain ⟨cx0_11, cx1_11, _⟩ := HXx_11.out.blk.two; have HXy_11 := Lib.hid (HXy_10.out.below hb11); obtain ⟨cy0_11, cy1_11, _⟩ := HXy_11.out.blk.two; have HB11 := Lib.hid (HB10.out.trans (hb11.mono HB10.out.size)); clear hb11; clear ca0_10 ca1_10 cb0_10 cb1_10 cz0_10 cz1_10 cx0_10 cx1_10 cy0_10 cy1_10; have tok11 : True := trivial))
    go_ret
    exact ⟨rfl, HB11.out⟩
  case true =>
    obtain rfl := dc rfl
    have hge : sb ≤ sa := dme rfl
    clear dc dme
    go_enter Tryz.func9, Tryz.ntmps9
    go_wp2_with (first
      | (go_at_call 11; refine (HAW.out).mono ?_; rintro e w1 ⟨rfl, hb1⟩; have HB1 := Lib.hid hb1; clear hb1; have tok1 : True := trivial)
      | (clear tok1; go_at_call 12; refine (K0.out _ HB1.out).mono ?_; rintro e w2 ⟨D2, k2, rfl, hs2, hb2⟩; have HXa_2 := Lib.hid (Bx.new (s := (⟨1, la⟩ : Spr)) hs2); have HB2 := Lib.hid ((HB1.out.trans (hb2.mono HB1.out.size)).alloc (HB1.out.trans (hb2.mono HB1.out.size)).size (.cells #[.int .i64 (⟨1, la⟩ : Spr).balls, .slice D2 (⟨1, la⟩ : Spr).ws.length k2] 26)); obtain ⟨ca0_2, ca1_2, _⟩ := HXa_2.out.blk.two; clear hs2 hb2; have tok2 : True := trivial)
      | (clear tok2; go_at_call 12; refine (K1.out _ HB2.out).mono ?_; rintro e w3 ⟨D3, k3, rfl, hs3, hb3⟩; have HXa_3 := Lib.hid ((HXa_2.out.below hb3).alloc (.cells #[.int .i64 (⟨1, lb⟩ : Spr).balls, .slice D3 (⟨1, lb⟩ : Spr).ws.length k3] 26)); have HXb_3 := Lib.hid (Bx.new (s := (⟨1, lb⟩ : Spr)) hs3); have HB3 := Lib.hid ((HB2.out.trans (hb3.mono HB2.out.size)).alloc (HB2.out.trans (hb3.mono HB2.out.size)).size (.cells #[.int .i64 (⟨1, lb⟩ : Spr).balls, .slice D3 (⟨1, lb⟩ : Spr).ws.length k3] 26)); obtain ⟨ca0_3, ca1_3, _⟩ := HXa_3.out.blk.two; obtain ⟨cb0_3, cb1_3, _⟩ := HXb_3.out.blk.two; clear hs3 hb3; clear ca0_2 ca1_2; have tok3 : True := trivial)
      | (clear tok3; go_at_call 12; refine (K2.out _ HB3.out).mono ?_; rintro e w4 ⟨D4, k4, rfl, hs4, hb4⟩; have HXa_4 := Lib.hid ((HXa_3.out.below hb4).alloc (.cells #[.int .i64 (⟨1, lz⟩ : Spr).balls, .slice D4 (⟨1, lz⟩ : Spr).ws.length k4] 26)); have HXb_4 := Lib.hid ((HXb_3.out.below hb4).alloc (.cells #[.int .i64 (⟨1, lz⟩ : Spr).balls, .slice D4 (⟨1, lz⟩ : Spr).ws.length k4] 26)); have HXz_4 := Lib.hid (Bx.new (s := (⟨1, lz⟩ : Spr)) hs4); have HB4 := Lib.hid ((HB3.out.trans (hb4.mono HB3.out.size)).alloc (HB3.out.trans (hb4.mono HB3.out.size)).size (.cells #[.int .i64 (⟨1, lz⟩ : Spr).balls, .slice D4 (⟨1, lz⟩ : Spr).ws.length k4] 26)); obtain ⟨ca0_4, ca1_4, _⟩ := HXa_4.out.blk.two; obtain ⟨cb0_4, cb1_4, _⟩ := HXb_4.out.blk.two; obtain ⟨cz0_4, cz1_4, _⟩ := HXz_4.out.blk.two; clear hs4 hb4; clear ca0_3 ca1_3 cb0_3 cb1_3; have tok4 : True := trivial)
      | (clear tok4; go_at_call 33; refine (Ka.out _ HB4.out _ _ _ _ HXa_4.out.sl HXb_4.out.sl).mono ?_; rintro e w5 ⟨rfl, hb5⟩; have HXa_5 := Lib.hid (HXa_4.out.below hb5); obtain ⟨ca0_5, ca1_5, _⟩ := HXa_5.out.blk.two; have HXb_5 := Lib.hid (HXb_4.out.below hb5); obtain ⟨cb0_5, cb1_5, _⟩ := HXb_5.out.blk.two; have HXz_5 := Lib.hid (HXz_4.out.below hb5); obtain ⟨cz0_5, cz1_5, _⟩ := HXz_5.out.blk.two; have HB5 := Lib.hid (HB4.out.trans (hb5.mono HB4.out.size)); clear hb5; clear ca0_4 ca1_4 cb0_4 cb1_4 cz0_4 cz1_4; have tok5 : True := trivial)
      | (clear tok5; go_at_call 26; refine (Kb.out _ HB5.out _ _ HXa_5.out.sl).mono ?_; rintro e w6 ⟨rfl, hb6⟩; have HXa_6 := Lib.hid (HXa_5.out.below hb6); obtain ⟨ca0_6, ca1_6, _⟩ := HXa_6.out.blk.two; have HXb_6 := Lib.hid (HXb_5.out.below hb6); obtain ⟨cb0_6, cb1_6, _⟩ := HXb_6.out.blk.two; have HXz_6 := Lib.hid (HXz_5.out.below hb6); obtain ⟨cz0_6, cz1_6, _⟩ := HXz_6.out.blk.two; have HB6 := Lib.hid (HB5.out.trans (hb6.mono HB5.out.size)); clear hb6; clear ca0_5 ca1_5 cb0_5 cb1_5 cz0_5 cz1_5; have tok6 : True := trivial)
      | (clear tok6; go_at_call 26; refine (Kc.out _ HB6.out _ _ HXb_6.out.sl).mono ?_; rintro e w7 ⟨rfl, hb7⟩; have HXa_7 := Lib.hid (HXa_6.out.below hb7); obtain ⟨ca0_7, ca1_7, _⟩ := HXa_7.out.blk.two; have HXb_7 := Lib.hid (HXb_6.out.below hb7); obtain ⟨cb0_7, cb1_7, _⟩ := HXb_7.out.blk.two; have HXz_7 := Lib.hid (HXz_6.out.below hb7); obtain ⟨cz0_7, cz1_7, _⟩ := HXz_7.out.blk.two; have HB7 := Lib.hid (HB6.out.trans (hb7.mono HB6.out.size)); clear hb7; clear ca0_6 ca1_6 cb0_6 cb1_6 cz0_6 cz1_6; have tok7 : True := trivial)
      | (clear tok7; go_at_call 24; refine (Kd.out _ HB7.out _ _ _ _ HXa_7.out.sl HXz_7.out.sl).mono ?_; rintro e w8 ⟨D8, k8, rfl, hs8, hb8⟩; have HXa_8 := Lib.hid ((HXa_7.out.below hb8).alloc (.cells #[.int .i64 (⟨2, lx⟩ : Spr).balls, .slice D8 (⟨2, lx⟩ : Spr).ws.length k8] 26)); have HXb_8 := Lib.hid ((HXb_7.out.below hb8).alloc (.cells #[.int .i64 (⟨2, lx⟩ : Spr).balls, .slice D8 (⟨2, lx⟩ : Spr).ws.length k8] 26)); have HXz_8 := Lib.hid ((HXz_7.out.below hb8).alloc (.cells #[.int .i64 (⟨2, lx⟩ : Spr).balls, .slice D8 (⟨2, lx⟩ : Spr).ws.length k8] 26)); have HXx_8 := Lib.hid (Bx.new (s := (⟨2, lx⟩ : Spr)) hs8); have HB8 := Lib.hid ((HB7.out.trans (hb8.mono HB7.out.size)).alloc (HB7.out.trans (hb8.mono HB7.out.size)).size (.cells #[.int .i64 (⟨2, lx⟩ : Spr).balls, .slice D8 (⟨2, lx⟩ : Spr).ws.length k8] 26)); obtain ⟨ca0_8, ca1_8, _⟩ := HXa_8.out.blk.two; obtain ⟨cb0_8, cb1_8, _⟩ := HXb_8.out.blk.two; obtain ⟨cz0_8, cz1_8, _⟩ := HXz_8.out.blk.two; obtain ⟨cx0_8, cx1_8, _⟩ := HXx_8.out.blk.two; clear hs8 hb8; clear ca0_7 ca1_7 cb0_7 cb1_7 cz0_7 cz1_7; have tok8 : True := trivial)
      | (clear tok8; go_at_call 24; refine (Ke.out _ HB8.out _ _ _ _ HXb_8.out.sl HXz_8.out.sl).mono ?_; rintro e w9 ⟨D9, k9, rfl, hs9, hb9⟩; have HXa_9 := Lib.hid ((HXa_8.out.below hb9).alloc (.cells #[.int .i64 (⟨2, ly⟩ : Spr).balls, .slice D9 (⟨2, ly⟩ : Spr).ws.length k9] 26)); have HXb_9 := Lib.hid ((HXb_8.out.below hb9).alloc (.cells #[.int .i64 (⟨2, ly⟩ : Spr).balls, .slice D9 (⟨2, ly⟩ : Spr).ws.length k9] 26)); have HXz_9 := Lib.hid ((HXz_8.out.below hb9).alloc (.cells #[.int .i64 (⟨2, ly⟩ : Spr).balls, .slice D9 (⟨2, ly⟩ : Spr).ws.length k9] 26)); have HXx_9 := Lib.hid ((HXx_8.out.below hb9).alloc (.cells #[.int .i64 (⟨2, ly⟩ : Spr).balls, .slice D9 (⟨2, ly⟩ : Spr).ws.length k9] 26)); have HXy_9 := Lib.hid (Bx.new (s := (⟨2, ly⟩ : Spr)) hs9); have HB9 := Lib.hid ((HB8.out.trans (hb9.mono HB8.out.size)).alloc (HB8.out.trans (hb9.mono HB8.out.size)).size (.cells #[.int .i64 (⟨2, ly⟩ : Spr).balls, .slice D9 (⟨2, ly⟩ : Spr).ws.length k9] 26)); obtain ⟨ca0_9, ca1_9, _⟩ := HXa_9.out.blk.two; obtain ⟨cb0_9, cb1_9, _⟩ := HXb_9.out.blk.two; obtain ⟨cz0_9, cz1_9, _⟩ := HXz_9.out.blk.two; obtain ⟨cx0_9, cx1_9, _⟩ := HXx_9.out.blk.two; obtain ⟨cy0_9, cy1_9, _⟩ := HXy_9.out.blk.two; clear hs9 hb9; clear ca0_8 ca1_8 cb0_8 cb1_8 cz0_8 cz1_8 cx0_8 cx1_8; have tok9 : True := trivial)
      | (clear tok9; go_at_call 33; refine (Kf.out _ HB9.out _ _ _ _ HXx_9.out.sl HXy_9.out.sl).mono ?_; rintro e w10 ⟨rfl, hb10⟩; have HXa_10 := Lib.hid (HXa_9.out.below hb10); obtain ⟨ca0_10, ca1_10, _⟩ := HXa_10.out.blk.two; have HXb_10 := Lib.hid (HXb_9.out.below hb10); obtain ⟨cb0_10, cb1_10, _⟩ := HXb_10.out.blk.two; have HXz_10 := Lib.hid (HXz_9.out.below hb10); obtain ⟨cz0_10, cz1_10, _⟩ := HXz_10.out.blk.two; have HXx_10 := Lib.hid (HXx_9.out.below hb10); obtain ⟨cx0_10, cx1_10, _⟩ := HXx_10.out.blk.two; have HXy_10 := Lib.hid (HXy_9.out.below hb10); obtain ⟨cy0_10, cy1_10, _⟩ := HXy_10.out.blk.two; have HB10 := Lib.hid (HB9.out.trans (hb10.mono HB9.out.size)); clear hb10; clear ca0_9 ca1_9 cb0_9 cb1_9 cz0_9 cz1_9 cx0_9 cx1_9 cy0_9 cy1_9; have tok10 : True := trivial)
      | (clear tok10; go_at_call 33; refine (Kh.out _ HB10.out _ _ _ _ HXa_10.out.sl HXa_10.out.sl).mono ?_; rintro e w11 ⟨rfl, hb11⟩; have HXa_11 := Lib.hid (HXa_10.out.below hb11); obtain ⟨ca0_11, ca1_11, _⟩ := HXa_11.out.blk.two; have HXb_11 := Lib.hid (HXb_10.out.below hb11); obtain ⟨cb0_11, cb1_11, _⟩ := HXb_11.out.blk.two; have HXz_11 := Lib.hid (HXz_10.out.below hb11); obtain ⟨cz0_11, cz1_11, _⟩ := HXz_11.out.blk.two; have HXx_11 := Lib.hid (HXx_10.out.below hb11); obtain ⟨cx0_11, cx1_11, _⟩ := HXx_11.out.blk.two; have HXy_11 := Lib.hid (HXy_10.out.below hb11); obtain ⟨cy0_11, cy1_11, _⟩ := HXy_11.out.blk.two; have HB11 := Lib.hid (HB10.out.trans (hb11.mono HB10.out.size)); clear hb11; clear ca0_10 ca1_10 cb0_10 cb1_10 cz0_10 cz1_10 cx0_10 cx1_10 cy0_10 cy1_10; have tok11 : True := trivial))
    go_ret
    exact ⟨rfl, HB11.out⟩
end Go.Proofs.YtoeeodemimndlaaGreatDoor
