/- The walk of ChancePowers: the spreads of one ball and of several are the reference's. -/
import Derived.Test.YtoeeodemimndlaaGreatDoorH13
set_option linter.unusedSimpArgs false
set_option linter.unusedVariables false
namespace Go.Proofs.YtoeeodemimndlaaGreatDoor
open Go.RowKit

set_option maxRecDepth 100000 in
set_option maxHeartbeats 2000000 in
theorem law_Powers (d : List Otc) (v : Value) (n : Int) (w : World) (hg : GlobN w) (h : Sl 3 elOtc w (· < w.heap.size) v d) :
    Calls Tryz.prog 3 #[v, .int .i64 n] w fun e w' => e = .returned (.bool true) ∧ Below w.heap.size w w' := by
  obtain ⟨A, c, rfl, hc, hc2⟩ := h.shape
  have HAW := Lib.hid (law42_awake w hg)
  obtain ⟨r1, hr1⟩ : ∃ r, r = ofS d := ⟨_, rfl⟩
  obtain ⟨r2, hr2⟩ : ∃ r, r = powS d n := ⟨_, rfl⟩
  have hin : ∀ W, Below w.heap.size w W → Sl 3 elOtc W (· < W.heap.size) (.slice A d.length c) d := fun W hW => otc_below h hW
  have K1 := Lib.hid fun W (hW : Below w.heap.size w W) => (ch_Of d _ W (hin W hW)).mono fun e W' h => h.out
  have K2 := Lib.hid fun W (hW : Below w.heap.size w W) => (ref_Of d _ W (hin W hW)).mono fun e W' h => h.out
  have K3 := Lib.hid fun W (hW : Below w.heap.size w W) => (ch_Power d _ n W (hin W hW)).mono fun e W' h => h.out
  have K4 := Lib.hid fun W (hW : Below w.heap.size w W) => (ref_Power d _ n W (hin W hW)).mono fun e W' h => h.out
  rw [← hr1] at K1 K2
  rw [← hr2] at K3 K4
  have KS1 := Lib.hid fun W (hW : Below w.heap.size w W) D k D' k' h h' => box_same r1.1 W D k D' k' h h'
  have KS2 := Lib.hid fun W (hW : Below w.heap.size w W) D k D' k' h h' => box_same r2.1 W D k D' k' h h'
  clear hg h hin hr1 hr2
  by_cases h200 : 200 < d.length
  · have hl : (200 : Int) < (d.length : Int) := by omega
    go_enter Tryz.func3, Tryz.ntmps3
    go_wp2_with (go_at_call 11; refine HAW.out.mono ?_; rintro e w1 ⟨rfl, hb1⟩)
    go_ret
    exact ⟨rfl, hb1⟩
  · have hl : ¬ (200 : Int) < (d.length : Int) := by omega
    obtain ⟨⟨b1, l1⟩, e1⟩ := r1
    obtain ⟨⟨b2, l2⟩, e2⟩ := r2
    dsimp only at K1 K2 K3 K4 KS1 KS2
    go_enter Tryz.func3, Tryz.ntmps3
    go_wp2_with (first
      | (go_at_call 11; refine (HAW.out).mono ?_; rintro e w1 ⟨rfl, hb1⟩; have HB1 := Lib.hid hb1; clear hb1; have tok1 : True := trivial)
      | (clear tok1; go_at_call 12; refine (K1.out _ HB1.out).mono ?_; rintro e w2 ⟨D2, k2, rfl, hs2, hb2⟩; have HXa_2 := Lib.hid (Bx.new (s := (⟨b1, l1⟩ : Spr)) hs2); have HB2 := Lib.hid ((HB1.out.trans (hb2.mono HB1.out.size)).alloc (HB1.out.trans (hb2.mono HB1.out.size)).size (.cells #[.int .i64 (⟨b1, l1⟩ : Spr).balls, .slice D2 (⟨b1, l1⟩ : Spr).ws.length k2] 26)); obtain ⟨ca0_2, ca1_2, _⟩ := HXa_2.out.blk.two; clear hs2 hb2; have tok2 : True := trivial)
      | (clear tok2; go_at_call 13; refine (K2.out _ HB2.out).mono ?_; rintro e w3 ⟨D3, k3, rfl, hs3, hb3⟩; have HXa_3 := Lib.hid ((HXa_2.out.below hb3).alloc (.cells #[.int .i64 (⟨b1, l1⟩ : Spr).balls, .slice D3 (⟨b1, l1⟩ : Spr).ws.length k3] 26)); have HXb_3 := Lib.hid (Bx.new (s := (⟨b1, l1⟩ : Spr)) hs3); have HB3 := Lib.hid ((HB2.out.trans (hb3.mono HB2.out.size)).alloc (HB2.out.trans (hb3.mono HB2.out.size)).size (.cells #[.int .i64 (⟨b1, l1⟩ : Spr).balls, .slice D3 (⟨b1, l1⟩ : Spr).ws.length k3] 26)); obtain ⟨ca0_3, ca1_3, _⟩ := HXa_3.out.blk.two; obtain ⟨cb0_3, cb1_3, _⟩ := HXb_3.out.blk.two; clear hs3 hb3; have tok3 : True := trivial)
      | (clear tok3; go_at_call 14; refine (K3.out _ HB3.out).mono ?_; rintro e w4 ⟨D4, k4, rfl, hs4, hb4⟩; have HXa_4 := Lib.hid ((HXa_3.out.below hb4).alloc (.cells #[.int .i64 (⟨b2, l2⟩ : Spr).balls, .slice D4 (⟨b2, l2⟩ : Spr).ws.length k4] 26)); have HXb_4 := Lib.hid ((HXb_3.out.below hb4).alloc (.cells #[.int .i64 (⟨b2, l2⟩ : Spr).balls, .slice D4 (⟨b2, l2⟩ : Spr).ws.length k4] 26)); have HXx_4 := Lib.hid (Bx.new (s := (⟨b2, l2⟩ : Spr)) hs4); have HB4 := Lib.hid ((HB3.out.trans (hb4.mono HB3.out.size)).alloc (HB3.out.trans (hb4.mono HB3.out.size)).size (.cells #[.int .i64 (⟨b2, l2⟩ : Spr).balls, .slice D4 (⟨b2, l2⟩ : Spr).ws.length k4] 26)); obtain ⟨ca0_4, ca1_4, _⟩ := HXa_4.out.blk.two; obtain ⟨cb0_4, cb1_4, _⟩ := HXb_4.out.blk.two; obtain ⟨cx0_4, cx1_4, _⟩ := HXx_4.out.blk.two; clear hs4 hb4; have tok4 : True := trivial)
      | (clear tok4; go_at_call 15; refine (K4.out _ HB4.out).mono ?_; rintro e w5 ⟨D5, k5, rfl, hs5, hb5⟩; have HXa_5 := Lib.hid ((HXa_4.out.below hb5).alloc (.cells #[.int .i64 (⟨b2, l2⟩ : Spr).balls, .slice D5 (⟨b2, l2⟩ : Spr).ws.length k5] 26)); have HXb_5 := Lib.hid ((HXb_4.out.below hb5).alloc (.cells #[.int .i64 (⟨b2, l2⟩ : Spr).balls, .slice D5 (⟨b2, l2⟩ : Spr).ws.length k5] 26)); have HXx_5 := Lib.hid ((HXx_4.out.below hb5).alloc (.cells #[.int .i64 (⟨b2, l2⟩ : Spr).balls, .slice D5 (⟨b2, l2⟩ : Spr).ws.length k5] 26)); have HXy_5 := Lib.hid (Bx.new (s := (⟨b2, l2⟩ : Spr)) hs5); have HB5 := Lib.hid ((HB4.out.trans (hb5.mono HB4.out.size)).alloc (HB4.out.trans (hb5.mono HB4.out.size)).size (.cells #[.int .i64 (⟨b2, l2⟩ : Spr).balls, .slice D5 (⟨b2, l2⟩ : Spr).ws.length k5] 26)); obtain ⟨ca0_5, ca1_5, _⟩ := HXa_5.out.blk.two; obtain ⟨cb0_5, cb1_5, _⟩ := HXb_5.out.blk.two; obtain ⟨cx0_5, cx1_5, _⟩ := HXx_5.out.blk.two; obtain ⟨cy0_5, cy1_5, _⟩ := HXy_5.out.blk.two; clear hs5 hb5; have tok5 : True := trivial)
      | (clear tok5; go_at_call 16; refine (KS1.out _ HB5.out _ _ _ _ HXa_5.out.sl HXb_5.out.sl).mono ?_; rintro e w6 ⟨rfl, hb6⟩; have HXa_6 := Lib.hid (HXa_5.out.below hb6); obtain ⟨ca0_6, ca1_6, _⟩ := HXa_6.out.blk.two; have HXb_6 := Lib.hid (HXb_5.out.below hb6); obtain ⟨cb0_6, cb1_6, _⟩ := HXb_6.out.blk.two; have HXx_6 := Lib.hid (HXx_5.out.below hb6); obtain ⟨cx0_6, cx1_6, _⟩ := HXx_6.out.blk.two; have HXy_6 := Lib.hid (HXy_5.out.below hb6); obtain ⟨cy0_6, cy1_6, _⟩ := HXy_6.out.blk.two; have HB6 := Lib.hid (HB5.out.trans (hb6.mono HB5.out.size)); clear hb6; have tok6 : True := trivial)
      | (clear tok6; go_at_call 16; refine (KS2.out _ HB6.out _ _ _ _ HXx_6.out.sl HXy_6.out.sl).mono ?_; rintro e w7 ⟨rfl, hb7⟩; have HXa_7 := Lib.hid (HXa_6.out.below hb7); obtain ⟨ca0_7, ca1_7, _⟩ := HXa_7.out.blk.two; have HXb_7 := Lib.hid (HXb_6.out.below hb7); obtain ⟨cb0_7, cb1_7, _⟩ := HXb_7.out.blk.two; have HXx_7 := Lib.hid (HXx_6.out.below hb7); obtain ⟨cx0_7, cx1_7, _⟩ := HXx_7.out.blk.two; have HXy_7 := Lib.hid (HXy_6.out.below hb7); obtain ⟨cy0_7, cy1_7, _⟩ := HXy_7.out.blk.two; have HB7 := Lib.hid (HB6.out.trans (hb7.mono HB6.out.size)); clear hb7; have tok7 : True := trivial))
    go_ret
    exact ⟨rfl, HB7.out⟩
end Go.Proofs.YtoeeodemimndlaaGreatDoor
