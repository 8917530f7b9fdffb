/- The walk of ChanceSpreads: the sums, convolutions and comparisons of the program and of the reference agree at every two spreads. -/
import Derived.Test.YtoeeodemimndlaaGreatDoorH18
set_option linter.unusedSimpArgs false
set_option linter.unusedVariables false
namespace Go.Proofs.YtoeeodemimndlaaGreatDoor
open Go.RowKit

theorem Bx.drew {W : World} {g : Nat} {s : Spr} {D : Option Addr} {k : Nat} (h : Bx W g s D k) : Bx W.drew g s D k := h.below (Below.drew (Below.refl _ _))
set_option maxRecDepth 100000 in
set_option maxHeartbeats 4000000 in
theorem law_Spreads (a : Spr) (va : Value) (b : Spr) (vb : Value) (n : Int) (w : World) (hg : GlobN w) (h1 : Sl 1 elInt w (· < w.heap.size) va a.ws) (h2 : Sl 1 elInt w (· < w.heap.size) vb b.ws) :
    Calls Tryz.prog 8 #[.agg #[.int .i64 a.balls, va], .agg #[.int .i64 b.balls, vb], .int .i64 n] w fun e w' => e = .returned (.bool true) ∧ Below w.heap.size w w' := by
  obtain ⟨ba, la⟩ := a
  obtain ⟨bb, lb⟩ := b
  obtain ⟨A, qa, rfl, hca, hca2⟩ := h1.shape
  obtain ⟨B, qb, rfl, hcb, hcb2⟩ := h2.shape
  have t0 := Th.new2 w ⟨ba, la⟩ ⟨bb, lb⟩ (.slice A la.length qa) (.slice B lb.length qb)
  have HB0 := Lib.hid t0.bel
  have HXa_0 := Lib.hid (show Bx ((w.alloc (.cells #[.int .i64 ba, .slice A la.length qa] 26)).alloc (.cells #[.int .i64 bb, .slice B lb.length qb] 26)) w.heap.size ⟨ba, la⟩ A qa from ⟨t0.ba, int_below h1 t0.bel⟩)
  have HXb_0 := Lib.hid (show Bx ((w.alloc (.cells #[.int .i64 ba, .slice A la.length qa] 26)).alloc (.cells #[.int .i64 bb, .slice B lb.length qb] 26)) (w.heap.size + 1) ⟨bb, lb⟩ B qb from ⟨t0.bb, int_below h2 t0.bel⟩)
  have tok0 : True := trivial
  dsimp only at *
  have KAW := Lib.hid fun W (hW : Below w.heap.size w W) => law42_awake W (hg.below hW)
  obtain ⟨ca0_0, ca1_0, _⟩ := HXa_0.out.blk.two
  obtain ⟨cb0_0, cb1_0, _⟩ := HXb_0.out.blk.two
  clear t0 h1 h2 hg
  dsimp only at ca0_0 ca1_0 cb0_0 cb1_0
  by_cases hsa : 200 < la.length
  · have hla : (200 : Int) < (la.length : Int) := by omega
    go_enter Tryz.func8, Tryz.ntmps8
    go_wp2_with (first
      | (clear tok0; go_at_call 11; refine (KAW.out _ HB0.out).mono ?_; rintro e w1 ⟨rfl, hb1⟩; have HXa_1 := Lib.hid (HXa_0.out.below hb1); obtain ⟨ca0_1, ca1_1, _⟩ := HXa_1.out.blk.two; have HXb_1 := Lib.hid (HXb_0.out.below hb1); obtain ⟨cb0_1, cb1_1, _⟩ := HXb_1.out.blk.two; have HB1 := Lib.hid (HB0.out.trans (hb1.mono HB0.out.size)); clear hb1; have tok1 : True := trivial))
    go_ret
    exact ⟨rfl, HB1.out⟩
  have hla : ¬ (200 : Int) < (la.length : Int) := by omega
  clear hsa
  by_cases hsb : 200 < lb.length
  · have hlb : (200 : Int) < (lb.length : Int) := by omega
    go_enter Tryz.func8, Tryz.ntmps8
    go_wp2_with (first
      | (clear tok0; go_at_call 11; refine (KAW.out _ HB0.out).mono ?_; rintro e w1 ⟨rfl, hb1⟩; have HXa_1 := Lib.hid (HXa_0.out.below hb1); obtain ⟨ca0_1, ca1_1, _⟩ := HXa_1.out.blk.two; have HXb_1 := Lib.hid (HXb_0.out.below hb1); obtain ⟨cb0_1, cb1_1, _⟩ := HXb_1.out.blk.two; have HB1 := Lib.hid (HB0.out.trans (hb1.mono HB0.out.size)); clear hb1; have tok1 : True := trivial))
    go_ret
    exact ⟨rfl, HB1.out⟩
  have hlb : ¬ (200 : Int) < (lb.length : Int) := by omega
  clear hsb
  have k2 := fun W (hW : Below w.heap.size w W) D k D' k' (h1 : Sl 1 elInt W (· < W.heap.size) (.slice D la.length k) la) (h2 : Sl 1 elInt W (· < W.heap.size) (.slice D' lb.length k') lb) => (ch_Convolve ⟨ba, la⟩ ⟨bb, lb⟩ _ _ W h1 h2).mono fun e W' h => h.out
  have k3 := fun W (hW : Below w.heap.size w W) D k D' k' (h1 : Sl 1 elInt W (· < W.heap.size) (.slice D la.length k) la) (h2 : Sl 1 elInt W (· < W.heap.size) (.slice D' lb.length k') lb) => (ref_Convolve ⟨ba, la⟩ ⟨bb, lb⟩ _ _ W h1 h2).mono fun e W' h => h.out
  have k4 := fun W (hW : Below w.heap.size w W) D k (h1 : Sl 1 elInt W (· < W.heap.size) (.slice D la.length k) la) => ch_AtLeast ⟨ba, la⟩ _ n W h1
  have k5 := fun W (hW : Below w.heap.size w W) D k (h1 : Sl 1 elInt W (· < W.heap.size) (.slice D la.length k) la) => ref_AtLeast ⟨ba, la⟩ _ n W h1
  have k6 := fun W (hW : Below w.heap.size w W) D k (h1 : Sl 1 elInt W (· < W.heap.size) (.slice D lb.length k) lb) => ch_Sum ⟨bb, lb⟩ _ W h1
  have k7 := fun W (hW : Below w.heap.size w W) D k (h1 : Sl 1 elInt W (· < W.heap.size) (.slice D lb.length k) lb) => ref_Sum ⟨bb, lb⟩ _ W h1
  have k8 := fun W (hW : Below w.heap.size w W) D k D' k' (h1 : Sl 1 elInt W (· < W.heap.size) (.slice D la.length k) la) (h2 : Sl 1 elInt W (· < W.heap.size) (.slice D' lb.length k') lb) => ch_Dominates ⟨ba, la⟩ ⟨bb, lb⟩ _ _ W h1 h2
  have k9 := fun W (hW : Below w.heap.size w W) D k D' k' (h1 : Sl 1 elInt W (· < W.heap.size) (.slice D la.length k) la) (h2 : Sl 1 elInt W (· < W.heap.size) (.slice D' lb.length k') lb) => ref_Dominates ⟨ba, la⟩ ⟨bb, lb⟩ _ _ W h1 h2
  have k10 := fun W (hW : Below w.heap.size w W) D k (h1 : Sl 1 elInt W (· < W.heap.size) (.slice D la.length k) la) => ch_CheckP ⟨ba, la⟩ _ W h1
  have k11 := fun W (hW : Below w.heap.size w W) D k (h1 : Sl 1 elInt W (· < W.heap.size) (.slice D la.length k) la) => ref_CheckP ⟨ba, la⟩ _ W h1
  generalize convolveS ⟨ba, la⟩ ⟨bb, lb⟩ = r at *
  obtain ⟨⟨bx, lx⟩, ex⟩ := r
  generalize atLeastS ⟨ba, la⟩ n = ral at *
  obtain ⟨xal, eal⟩ := ral
  generalize sumS ⟨bb, lb⟩ = rsu at *
  obtain ⟨xsu, esu⟩ := rsu
  generalize domS ⟨ba, la⟩ ⟨bb, lb⟩ = rdo at *
  obtain ⟨xdo, edo⟩ := rdo
  generalize checkP ⟨ba, la⟩ = eck at *
  have K12 := Lib.hid fun W (hW : Below w.heap.size w W) D k D' k' h h' => box_same ⟨bx, lx⟩ W D k D' k' h h'
  unfold sprV at k2 k3 k4 k5 k6 k7 k8 k9 k10 k11
  have K2 := Lib.hid k2
  have K3 := Lib.hid k3
  have K4 := Lib.hid k4
  have K5 := Lib.hid k5
  have K6 := Lib.hid k6
  have K7 := Lib.hid k7
  have K8 := Lib.hid k8
  have K9 := Lib.hid k9
  have K10 := Lib.hid k10
  have K11 := Lib.hid k11
  clear k2 k3 k4 k5 k6 k7 k8 k9 k10 k11
  try dsimp only at K2 K3 K4 K5 K6 K7 K8 K9 K10 K11 K12
  go_enter Tryz.func8, Tryz.ntmps8
  go_wp2_with (first
    | (clear tok0; go_at_call 11; refine (KAW.out _ HB0.out).mono ?_; rintro e w1 ⟨rfl, hb1⟩; have HXa_1 := Lib.hid (HXa_0.out.below hb1); obtain ⟨ca0_1, ca1_1, _⟩ := HXa_1.out.blk.two; have HXb_1 := Lib.hid (HXb_0.out.below hb1); obtain ⟨cb0_1, cb1_1, _⟩ := HXb_1.out.blk.two; have HB1 := Lib.hid (HB0.out.trans (hb1.mono HB0.out.size)); clear hb1; clear ca0_0 ca1_0 cb0_0 cb1_0; have tok1 : True := trivial)
    | (clear tok1; go_at_call 24; refine (K2.out _ HB1.out _ _ _ _ HXa_1.out.sl HXb_1.out.sl).mono ?_; rintro e w2 ⟨D2, k2, rfl, hs2, hb2⟩; have HXa_2 := Lib.hid ((HXa_1.out.below hb2).alloc (.cells #[.int .i64 (⟨bx, lx⟩ : Spr).balls, .slice D2 (⟨bx, lx⟩ : Spr).ws.length k2] 26)); have HXb_2 := Lib.hid ((HXb_1.out.below hb2).alloc (.cells #[.int .i64 (⟨bx, lx⟩ : Spr).balls, .slice D2 (⟨bx, lx⟩ : Spr).ws.length k2] 26)); have HXx_2 := Lib.hid (Bx.new (s := (⟨bx, lx⟩ : Spr)) hs2); have HB2 := Lib.hid ((HB1.out.trans (hb2.mono HB1.out.size)).alloc (HB1.out.trans (hb2.mono HB1.out.size)).size (.cells #[.int .i64 (⟨bx, lx⟩ : Spr).balls, .slice D2 (⟨bx, lx⟩ : Spr).ws.length k2] 26)); obtain ⟨ca0_2, ca1_2, _⟩ := HXa_2.out.blk.two; obtain ⟨cb0_2, cb1_2, _⟩ := HXb_2.out.blk.two; obtain ⟨cx0_2, cx1_2, _⟩ := HXx_2.out.blk.two; clear hs2 hb2; clear ca0_1 ca1_1 cb0_1 cb1_1; have tok2 : True := trivial)
    | (clear tok2; go_at_call 29; refine (K3.out _ HB2.out _ _ _ _ HXa_2.out.sl HXb_2.out.sl).mono ?_; rintro e w3 ⟨D3, k3, rfl, hs3, hb3⟩; have HXa_3 := Lib.hid ((HXa_2.out.below hb3).alloc (.cells #[.int .i64 (⟨bx, lx⟩ : Spr).balls, .slice D3 (⟨bx, lx⟩ : Spr).ws.length k3] 26)); have HXb_3 := Lib.hid ((HXb_2.out.below hb3).alloc (.cells #[.int .i64 (⟨bx, lx⟩ : Spr).balls, .slice D3 (⟨bx, lx⟩ : Spr).ws.length k3] 26)); have HXx_3 := Lib.hid ((HXx_2.out.below hb3).alloc (.cells #[.int .i64 (⟨bx, lx⟩ : Spr).balls, .slice D3 (⟨bx, lx⟩ : Spr).ws.length k3] 26)); have HXy_3 := Lib.hid (Bx.new (s := (⟨bx, lx⟩ : Spr)) hs3); have HB3 := Lib.hid ((HB2.out.trans (hb3.mono HB2.out.size)).alloc (HB2.out.trans (hb3.mono HB2.out.size)).size (.cells #[.int .i64 (⟨bx, lx⟩ : Spr).balls, .slice D3 (⟨bx, lx⟩ : Spr).ws.length k3] 26)); obtain ⟨ca0_3, ca1_3, _⟩ := HXa_3.out.blk.two; obtain ⟨cb0_3, cb1_3, _⟩ := HXb_3.out.blk.two; obtain ⟨cx0_3, cx1_3, _⟩ := HXx_3.out.blk.two; obtain ⟨cy0_3, cy1_3, _⟩ := HXy_3.out.blk.two; clear hs3 hb3; clear ca0_2 ca1_2 cb0_2 cb1_2 cx0_2 cx1_2; have tok3 : True := trivial)
    | (clear tok3; go_at_call 30; refine (K4.out _ HB3.out _ _ HXa_3.out.sl).mono ?_; rintro e w4 ⟨rfl, hb4⟩; have HXa_4 := Lib.hid (HXa_3.out.below hb4); obtain ⟨ca0_4, ca1_4, _⟩ := HXa_4.out.blk.two; have HXb_4 := Lib.hid (HXb_3.out.below hb4); obtain ⟨cb0_4, cb1_4, _⟩ := HXb_4.out.blk.two; have HXx_4 := Lib.hid (HXx_3.out.below hb4); obtain ⟨cx0_4, cx1_4, _⟩ := HXx_4.out.blk.two; have HXy_4 := Lib.hid (HXy_3.out.below hb4); obtain ⟨cy0_4, cy1_4, _⟩ := HXy_4.out.blk.two; have HB4 := Lib.hid (HB3.out.trans (hb4.mono HB3.out.size)); clear hb4; clear ca0_3 ca1_3 cb0_3 cb1_3 cx0_3 cx1_3 cy0_3 cy1_3; have tok4 : True := trivial)
    | (clear tok4; go_at_call 31; refine (K5.out _ HB4.out _ _ HXa_4.out.sl).mono ?_; rintro e w5 ⟨rfl, hb5⟩; have HXa_5 := Lib.hid (HXa_4.out.below hb5); obtain ⟨ca0_5, ca1_5, _⟩ := HXa_5.out.blk.two; have HXb_5 := Lib.hid (HXb_4.out.below hb5); obtain ⟨cb0_5, cb1_5, _⟩ := HXb_5.out.blk.two; have HXx_5 := Lib.hid (HXx_4.out.below hb5); obtain ⟨cx0_5, cx1_5, _⟩ := HXx_5.out.blk.two; have HXy_5 := Lib.hid (HXy_4.out.below hb5); obtain ⟨cy0_5, cy1_5, _⟩ := HXy_5.out.blk.two; have HB5 := Lib.hid (HB4.out.trans (hb5.mono HB4.out.size)); clear hb5; clear ca0_4 ca1_4 cb0_4 cb1_4 cx0_4 cx1_4 cy0_4 cy1_4; have tok5 : True := trivial)
    | (clear tok5; go_at_call 26; refine (K6.out _ HB5.out _ _ HXb_5.out.sl).mono ?_; rintro e w6 ⟨rfl, hb6⟩; have HXa_6 := Lib.hid (HXa_5.out.below hb6); obtain ⟨ca0_6, ca1_6, _⟩ := HXa_6.out.blk.two; have HXb_6 := Lib.hid (HXb_5.out.below hb6); obtain ⟨cb0_6, cb1_6, _⟩ := HXb_6.out.blk.two; have HXx_6 := Lib.hid (HXx_5.out.below hb6); obtain ⟨cx0_6, cx1_6, _⟩ := HXx_6.out.blk.two; have HXy_6 := Lib.hid (HXy_5.out.below hb6); obtain ⟨cy0_6, cy1_6, _⟩ := HXy_6.out.blk.two; have HB6 := Lib.hid (HB5.out.trans (hb6.mono HB5.out.size)); clear hb6; clear ca0_5 ca1_5 cb0_5 cb1_5 cx0_5 cx1_5 cy0_5 cy1_5; have tok6 : True := trivial)
    | (clear tok6; go_at_call 32; refine (K7.out _ HB6.out _ _ HXb_6.out.sl).mono ?_; rintro e w7 ⟨rfl, hb7⟩; have HXa_7 := Lib.hid (HXa_6.out.below hb7); obtain ⟨ca0_7, ca1_7, _⟩ := HXa_7.out.blk.two; have HXb_7 := Lib.hid (HXb_6.out.below hb7); obtain ⟨cb0_7, cb1_7, _⟩ := HXb_7.out.blk.two; have HXx_7 := Lib.hid (HXx_6.out.below hb7); obtain ⟨cx0_7, cx1_7, _⟩ := HXx_7.out.blk.two; have HXy_7 := Lib.hid (HXy_6.out.below hb7); obtain ⟨cy0_7, cy1_7, _⟩ := HXy_7.out.blk.two; have HB7 := Lib.hid (HB6.out.trans (hb7.mono HB6.out.size)); clear hb7; clear ca0_6 ca1_6 cb0_6 cb1_6 cx0_6 cx1_6 cy0_6 cy1_6; have tok7 : True := trivial)
    | (clear tok7; go_at_call 33; refine (K8.out _ HB7.out _ _ _ _ HXa_7.out.sl HXb_7.out.sl).mono ?_; rintro e w8 ⟨rfl, hb8⟩; have HXa_8 := Lib.hid (HXa_7.out.below hb8); obtain ⟨ca0_8, ca1_8, _⟩ := HXa_8.out.blk.two; have HXb_8 := Lib.hid (HXb_7.out.below hb8); obtain ⟨cb0_8, cb1_8, _⟩ := HXb_8.out.blk.two; have HXx_8 := Lib.hid (HXx_7.out.below hb8); obtain ⟨cx0_8, cx1_8, _⟩ := HXx_8.out.blk.two; have HXy_8 := Lib.hid (HXy_7.out.below hb8); obtain ⟨cy0_8, cy1_8, _⟩ := HXy_8.out.blk.two; have HB8 := Lib.hid (HB7.out.trans (hb8.mono HB7.out.size)); clear hb8; clear ca0_7 ca1_7 cb0_7 cb1_7 cx0_7 cx1_7 cy0_7 cy1_7; have tok8 : True := trivial)
    | (clear tok8; go_at_call 34; refine (K9.out _ HB8.out _ _ _ _ HXa_8.out.sl HXb_8.out.sl).mono ?_; rintro e w9 ⟨rfl, hb9⟩; have HXa_9 := Lib.hid (HXa_8.out.below hb9); obtain ⟨ca0_9, ca1_9, _⟩ := HXa_9.out.blk.two; have HXb_9 := Lib.hid (HXb_8.out.below hb9); obtain ⟨cb0_9, cb1_9, _⟩ := HXb_9.out.blk.two; have HXx_9 := Lib.hid (HXx_8.out.below hb9); obtain ⟨cx0_9, cx1_9, _⟩ := HXx_9.out.blk.two; have HXy_9 := Lib.hid (HXy_8.out.below hb9); obtain ⟨cy0_9, cy1_9, _⟩ := HXy_9.out.blk.two; have HB9 := Lib.hid (HB8.out.trans (hb9.mono HB8.out.size)); clear hb9; clear ca0_8 ca1_8 cb0_8 cb1_8 cx0_8 cx1_8 cy0_8 cy1_8; have tok9 : True := trivial))
  have ca0 := ca0_9; have ca1 := ca1_9; have HXa_10 := Lib.hid HXa_9.out.drew
  have cx0 := cx0_9; have cx1 := cx1_9; have HXx_10 := Lib.hid HXx_9.out.drew
  have cy0 := cy0_9; have cy1 := cy1_9; have HXy_10 := Lib.hid HXy_9.out.drew
  have HB10 := Lib.hid (Below.drew HB9.out)
  have tok10 : True := trivial
  clear ca0_9 ca1_9 cb0_9 cb1_9 cx0_9 cx1_9 cy0_9 cy1_9
  go_region_held3 (fun w' => w'.cell? ⟨w.heap.size, 0, none⟩ = some (.int .i64 ba) ∧ w'.cell? ⟨w.heap.size, 1, none⟩ = some (.slice A la.length qa) ∧ w'.cell? ⟨w2.heap.size, 0, none⟩ = some (.int .i64 bx) ∧ w'.cell? ⟨w2.heap.size, 1, none⟩ = some (.slice D2 lx.length k2) ∧ w'.cell? ⟨w3.heap.size, 0, none⟩ = some (.int .i64 bx) ∧ w'.cell? ⟨w3.heap.size, 1, none⟩ = some (.slice D3 lx.length k3)) (first | exact ⟨ca0, ca1, cx0, cx1, cy0, cy1⟩ | go_keep) (first
    | (clear tok10; go_at_call 25; refine (K10.out _ HB10.out _ _ HXa_10.out.sl).mono ?_; rintro e w11 ⟨rfl, hb11⟩; have HXa_11 := Lib.hid (HXa_10.out.below hb11); obtain ⟨ca0, ca1, _⟩ := HXa_11.out.blk.two; have HXx_11 := Lib.hid (HXx_10.out.below hb11); obtain ⟨cx0, cx1, _⟩ := HXx_11.out.blk.two; have HXy_11 := Lib.hid (HXy_10.out.below hb11); obtain ⟨cy0, cy1, _⟩ := HXy_11.out.blk.two; have HB11 := Lib.hid (HB10.out.trans (hb11.mono HB10.out.size)); clear hb11; have tok11 : True := trivial)
    | (clear tok11; go_at_call 35; refine (K11.out _ HB11.out _ _ HXa_11.out.sl).mono ?_; rintro e w12 ⟨rfl, hb12⟩; have HXa_12 := Lib.hid (HXa_11.out.below hb12); obtain ⟨ca0, ca1, _⟩ := HXa_12.out.blk.two; have HXx_12 := Lib.hid (HXx_11.out.below hb12); obtain ⟨cx0, cx1, _⟩ := HXx_12.out.blk.two; have HXy_12 := Lib.hid (HXy_11.out.below hb12); obtain ⟨cy0, cy1, _⟩ := HXy_12.out.blk.two; have HB12 := Lib.hid (HB11.out.trans (hb12.mono HB11.out.size)); clear hb12; have tok12 : True := trivial)
    | (clear tok12; go_at_call 16; refine (K12.out _ HB12.out _ _ _ _ HXx_12.out.sl HXy_12.out.sl).mono ?_; rintro e w13 ⟨rfl, hb13⟩; have HXa_13 := Lib.hid (HXa_12.out.below hb13); obtain ⟨ca0, ca1, _⟩ := HXa_13.out.blk.two; have HXx_13 := Lib.hid (HXx_12.out.below hb13); obtain ⟨cx0, cx1, _⟩ := HXx_13.out.blk.two; have HXy_13 := Lib.hid (HXy_12.out.below hb13); obtain ⟨cy0, cy1, _⟩ := HXy_13.out.blk.two; have HB13 := Lib.hid (HB12.out.trans (hb13.mono HB12.out.size)); clear hb13; have tok13 : True := trivial))
  all_goals go_wp2
  all_goals go_ret
  all_goals exact ⟨rfl, HB13.out⟩
end Go.Proofs.YtoeeodemimndlaaGreatDoor
