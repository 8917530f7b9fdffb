/- The walk of ChaseSteps: the state after any outcome, of both sides. -/
import Derived.Test.YtdomhdfeedecpaaGreatDoorYM2
set_option linter.unusedSimpArgs false
set_option linter.unusedVariables false
namespace Go.Proofs.YtdomhdfeedecpaaGreatDoor
open Go.RowKit

/-- Three boxes: a chase, a state, an outcome. -/
structure Csx (w W : World) (g : Nat) (c : Chs) (bv wv pv ov : Value) (s : Cst) (o : Otc) : Prop where
  base : CSB w W g c bv wv pv ov s
  ob : Blk W (g + 1 + 1) 40 #[.int .i64 o.runs, .bool o.wick, .int .i64 o.wt]
theorem Csx.below {w W W' : World} {g : Nat} {c : Chs} {bv wv pv ov : Value} {s : Cst} {o : Otc} (h : Csx w W g c bv wv pv ov s o) (hb : Below W.heap.size W W') : Csx w W' g c bv wv pv ov s o := ⟨h.base.below hb, h.ob.below hb h.ob.lt⟩
theorem Csx.new (w : World) (c : Chs) (bv wv pv ov : Value) (s : Cst) (o : Otc) : Csx w (((w.alloc (.cells #[bv, wv, pv, .int .i64 c.over, .int .i64 c.done, .int .i64 c.need, ov] 28)).alloc (.cells #[.int .i64 s.ball, .int .i64 s.need, .int .i64 s.str, .int .i64 s.par, .int .i64 s.nxt] 30)).alloc (.cells #[.int .i64 o.runs, .bool o.wick, .int .i64 o.wt] 40)) w.heap.size c bv wv pv ov s o := by
  have hx := CSB.new w c bv wv pv ov s
  obtain ⟨W2, hW⟩ : ∃ W2, W2 = (w.alloc (.cells #[bv, wv, pv, .int .i64 c.over, .int .i64 c.done, .int .i64 c.need, ov] 28)).alloc (.cells #[.int .i64 s.ball, .int .i64 s.need, .int .i64 s.str, .int .i64 s.par, .int .i64 s.nxt] 30) := ⟨_, rfl⟩
  have hs : W2.heap.size = w.heap.size + 1 + 1 := by rw [hW, World.size_alloc, World.size_alloc]
  rw [← hW] at hx ⊢
  have b1 := Blk.new W2 40 #[.int .i64 o.runs, .bool o.wick, .int .i64 o.wt]
  rw [hs] at b1
  exact ⟨hx.below (Below.alloc (Below.refl W2.heap.size W2) (Nat.le_refl _) _), b1⟩
structure Six6 (w W : World) (g ga gb : Nat) (c : Chs) (bv wv pv ov : Value) (s : Cst) (o : Otc) (a : Cst) : Prop where
  base : Csx w W g c bv wv pv ov s o
  fa : Blk W ga 30 #[.int .i64 a.ball, .int .i64 a.need, .int .i64 a.str, .int .i64 a.par, .int .i64 a.nxt]
  fb : Blk W gb 30 #[.int .i64 a.ball, .int .i64 a.need, .int .i64 a.str, .int .i64 a.par, .int .i64 a.nxt]
theorem Six6.below {w W W' : World} {g ga gb : Nat} {c : Chs} {bv wv pv ov : Value} {s a : Cst} {o : Otc} (h : Six6 w W g ga gb c bv wv pv ov s o a) (hb : Below W.heap.size W W') : Six6 w W' g ga gb c bv wv pv ov s o a := ⟨h.base.below hb, h.fa.below hb h.fa.lt, h.fb.below hb h.fb.lt⟩
set_option maxRecDepth 100000 in
set_option maxHeartbeats 4000000 in
theorem law_ChaseSteps (c : Chs) (bv wv pv ov : Value) (s : Cst) (o : Otc) (w : World) (hg : GlobN w) (h : ChAt w (· < w.heap.size) bv wv pv ov c) :
    Calls Tryz.prog 4 #[chV c bv wv pv ov, stV s, .agg #[.int .i64 o.runs, .bool o.wick, .int .i64 o.wt]] w fun e w' => e = .returned (.bool true) ∧ Below w.heap.size w w' := by
  unfold chV stV
  obtain ⟨ball, need, str, par, nxt⟩ := s
  obtain ⟨pr, pw, pt⟩ := o
  obtain ⟨A, ca, rfl, hc1, hc2⟩ := h.mdl.bat.shape
  obtain ⟨A1, ca1, rfl, hc3, hc4⟩ := h.mdl.bow.shape
  obtain ⟨A2, ca2, rfl, hc5, hc6⟩ := h.bow.shape
  obtain ⟨A3, ca3, rfl, hc7, hc8⟩ := h.ord.shape
  have HX0 := Lib.hid (Csx.new w c (.slice A c.mdl.bats.length ca) (.slice A1 c.mdl.bows.length ca1) (.slice A2 c.bows.length ca2) (.slice A3 c.ord.length ca3) ⟨ball, need, str, par, nxt⟩ ⟨pr, pw, pt⟩)
  have HM := Lib.hid h
  have k1 := fun W (hW : Below w.heap.size w W) => law44_awake W (hg.below hW)
  have k2 := fun W (hW : Below w.heap.size w W) => law44_tiny c _ _ _ _ W (HM.out.below hW)
  have k3 := fun W (hW : Below w.heap.size w W) => ch44_Step c ⟨ball, need, str, par, nxt⟩ ⟨pr, pw, pt⟩ _ _ _ _ W (HM.out.below hW)
  have k4 := fun W (hW : Below w.heap.size w W) => r44_Step c ⟨ball, need, str, par, nxt⟩ ⟨pr, pw, pt⟩ _ _ _ _ W (HM.out.below hW)
  have hok := stepSC_ok (c := c) (s := ⟨ball, need, str, par, nxt⟩) (o := ⟨pr, pw, pt⟩)
  obtain ⟨⟨a, v⟩, ha⟩ : ∃ x, x = stepSC c ⟨ball, need, str, par, nxt⟩ ⟨pr, pw, pt⟩ := ⟨_, rfl⟩
  rw [← ha] at k3 k4 hok
  have k5 := fun (hv : v = 0) W (hW : Below w.heap.size w W) => (show Calls Tryz.prog 16 #[chV c _ _ _ _, stV a] W fun e w' => e = .returned (.int .i64 0) ∧ Below W.heap.size W w' from by
    have := ch44_CheckState c a _ _ _ _ W (HM.out.below hW)
    rw [hok hv] at this
    exact this)
  unfold chV stV at k3 k4 k5
  unfold chV at k2
  dsimp only at k3 k4 k5
  have K1 := Lib.hid k1
  have K3 := Lib.hid k3
  have K4 := Lib.hid k4
  have K5 := Lib.hid k5
  have tok0 : True := trivial
  clear k1 k3 k4 k5 ha h hg HM hok
  cases hs : smallC (tinyOf c)
  · rw [hs] at k2
    have K2 := Lib.hid k2
    clear k2 hs
    go_enter Tryz.func4, Tryz.ntmps4
    go_wp2_with (first
      | (clear tok0; go_at_call 8; refine (K1.out _ HX0.out.base.bel).mono ?_; rintro e w1 ⟨rfl, hb⟩; have HX1 := Lib.hid (HX0.out.below hb); obtain ⟨x0, x1, x2, x3, x4, x5, x6, y0, y1, y2, y3, y4⟩ := HX1.out.base.cells; obtain ⟨u0, u1, u2⟩ := otc_three HX1.out.ob; dsimp only at y0 y1 y2 y3 y4 u0 u1 u2; clear hb; have tok1 : True := trivial)
      | (clear tok1; go_at_call 9; refine (K2.out _ HX1.out.base.bel).mono ?_; rintro e w2 ⟨rfl, hb⟩; have HX2 := Lib.hid (HX1.out.below hb); clear x0 x1 x2 x3 x4 x5 x6 y0 y1 y2 y3 y4 u0 u1 u2; obtain ⟨x0, x1, x2, x3, x4, x5, x6, y0, y1, y2, y3, y4⟩ := HX2.out.base.cells; obtain ⟨u0, u1, u2⟩ := otc_three HX2.out.ob; dsimp only at y0 y1 y2 y3 y4 u0 u1 u2; clear hb; have tok2 : True := trivial))
    go_ret
    exact ⟨rfl, HX2.out.base.bel⟩
  · rw [hs] at k2
    have K2 := Lib.hid k2
    clear k2 hs
    by_cases g1 : (100 : Int) < (c.ord.length : Int)
    · go_enter Tryz.func4, Tryz.ntmps4
      go_wp2_with (first
        | (clear tok0; go_at_call 8; refine (K1.out _ HX0.out.base.bel).mono ?_; rintro e w1 ⟨rfl, hb⟩; have HX1 := Lib.hid (HX0.out.below hb); obtain ⟨x0, x1, x2, x3, x4, x5, x6, y0, y1, y2, y3, y4⟩ := HX1.out.base.cells; obtain ⟨u0, u1, u2⟩ := otc_three HX1.out.ob; dsimp only at y0 y1 y2 y3 y4 u0 u1 u2; clear hb; have tok1 : True := trivial)
        | (clear tok1; go_at_call 9; refine (K2.out _ HX1.out.base.bel).mono ?_; rintro e w2 ⟨rfl, hb⟩; have HX2 := Lib.hid (HX1.out.below hb); clear x0 x1 x2 x3 x4 x5 x6 y0 y1 y2 y3 y4 u0 u1 u2; obtain ⟨x0, x1, x2, x3, x4, x5, x6, y0, y1, y2, y3, y4⟩ := HX2.out.base.cells; obtain ⟨u0, u1, u2⟩ := otc_three HX2.out.ob; dsimp only at y0 y1 y2 y3 y4 u0 u1 u2; clear hb; have tok2 : True := trivial))
      go_ret
      exact ⟨rfl, HX2.out.base.bel⟩
    by_cases g2 : (100 : Int) < (c.bows.length : Int)
    · go_enter Tryz.func4, Tryz.ntmps4
      go_wp2_with (first
        | (clear tok0; go_at_call 8; refine (K1.out _ HX0.out.base.bel).mono ?_; rintro e w1 ⟨rfl, hb⟩; have HX1 := Lib.hid (HX0.out.below hb); obtain ⟨x0, x1, x2, x3, x4, x5, x6, y0, y1, y2, y3, y4⟩ := HX1.out.base.cells; obtain ⟨u0, u1, u2⟩ := otc_three HX1.out.ob; dsimp only at y0 y1 y2 y3 y4 u0 u1 u2; clear hb; have tok1 : True := trivial)
        | (clear tok1; go_at_call 9; refine (K2.out _ HX1.out.base.bel).mono ?_; rintro e w2 ⟨rfl, hb⟩; have HX2 := Lib.hid (HX1.out.below hb); clear x0 x1 x2 x3 x4 x5 x6 y0 y1 y2 y3 y4 u0 u1 u2; obtain ⟨x0, x1, x2, x3, x4, x5, x6, y0, y1, y2, y3, y4⟩ := HX2.out.base.cells; obtain ⟨u0, u1, u2⟩ := otc_three HX2.out.ob; dsimp only at y0 y1 y2 y3 y4 u0 u1 u2; clear hb; have tok2 : True := trivial))
      go_ret
      exact ⟨rfl, HX2.out.base.bel⟩
    by_cases hv : v = 0
    case neg =>
      have ev : (v != 0) = true := by simp [hv]
      go_enter Tryz.func4, Tryz.ntmps4
      go_wp2_with (first
        | (clear tok0; go_at_call 8; refine (K1.out _ HX0.out.base.bel).mono ?_; rintro e w1 ⟨rfl, hb⟩; have HX1 := Lib.hid (HX0.out.below hb); obtain ⟨x0, x1, x2, x3, x4, x5, x6, y0, y1, y2, y3, y4⟩ := HX1.out.base.cells; obtain ⟨u0, u1, u2⟩ := otc_three HX1.out.ob; dsimp only at y0 y1 y2 y3 y4 u0 u1 u2; clear hb; have tok1 : True := trivial)
        | (clear tok1; go_at_call 9; refine (K2.out _ HX1.out.base.bel).mono ?_; rintro e w2 ⟨rfl, hb⟩; have HX2 := Lib.hid (HX1.out.below hb); clear x0 x1 x2 x3 x4 x5 x6 y0 y1 y2 y3 y4 u0 u1 u2; obtain ⟨x0, x1, x2, x3, x4, x5, x6, y0, y1, y2, y3, y4⟩ := HX2.out.base.cells; obtain ⟨u0, u1, u2⟩ := otc_three HX2.out.ob; dsimp only at y0 y1 y2 y3 y4 u0 u1 u2; clear hb; have tok2 : True := trivial)
        | (clear tok2; go_at_call 20; refine (K3.out _ HX2.out.base.bel).mono ?_; rintro e w3 ⟨rfl, hb⟩; have HX3' := HX2.out.below hb; clear x0 x1 x2 x3 x4 x5 x6 y0 y1 y2 y3 y4 u0 u1 u2; obtain ⟨x0, x1, x2, x3, x4, x5, x6, y0, y1, y2, y3, y4⟩ := HX3'.base.cells; obtain ⟨u0, u1, u2⟩ := otc_three HX3'.ob; dsimp only at y0 y1 y2 y3 y4 u0 u1 u2; have hl1 := HX3'.base.box.lt; have hl2 := HX3'.base.st.lt; have hl3 := HX3'.ob.lt; have HX3 := Lib.hid (HX3'.below (Below.alloc (Below.refl _ _) (Nat.le_refl _) (.cells #[.int .i64 a.ball, .int .i64 a.need, .int .i64 a.str, .int .i64 a.par, .int .i64 a.nxt] 30))); have HA3 := Lib.hid (Blk.new w3 30 #[.int .i64 a.ball, .int .i64 a.need, .int .i64 a.str, .int .i64 a.par, .int .i64 a.nxt]); clear HX3' hb; have tok3 : True := trivial)
        | (clear tok3; go_at_call 21; refine (K4.out _ HX3.out.base.bel).mono ?_; rintro e w4 ⟨rfl, hb⟩; have HX4' := HX3.out.below hb; clear x0 x1 x2 x3 x4 x5 x6 y0 y1 y2 y3 y4 u0 u1 u2; clear hl1 hl2 hl3; obtain ⟨x0, x1, x2, x3, x4, x5, x6, y0, y1, y2, y3, y4⟩ := HX4'.base.cells; obtain ⟨u0, u1, u2⟩ := otc_three HX4'.ob; dsimp only at y0 y1 y2 y3 y4 u0 u1 u2; have hl1 := HX4'.base.box.lt; have hl2 := HX4'.base.st.lt; have hl3 := HX4'.ob.lt; obtain ⟨p0, p1, p2, p3, p4⟩ := blk_five (HA3.out.below hb HA3.out.lt); have hl4 := (HA3.out.below hb HA3.out.lt).lt; have HF4 := Lib.hid (⟨⟨HX4'.base.below (Below.alloc (Below.refl _ _) (Nat.le_refl _) (.cells #[.int .i64 a.ball, .int .i64 a.need, .int .i64 a.str, .int .i64 a.par, .int .i64 a.nxt] 30)), HX4'.ob.alloc _⟩, (HA3.out.below hb HA3.out.lt).alloc _, Blk.new w4 30 #[.int .i64 a.ball, .int .i64 a.need, .int .i64 a.str, .int .i64 a.par, .int .i64 a.nxt]⟩ : Six6 w (w4.alloc (.cells #[.int .i64 a.ball, .int .i64 a.need, .int .i64 a.str, .int .i64 a.par, .int .i64 a.nxt] 30)) w.heap.size w3.heap.size w4.heap.size c (.slice A c.mdl.bats.length ca) (.slice A1 c.mdl.bows.length ca1) (.slice A2 c.bows.length ca2) (.slice A3 c.ord.length ca3) ⟨ball, need, str, par, nxt⟩ ⟨pr, pw, pt⟩ a); clear HX4' hb; have tok4 : True := trivial))
      go_ret
      exact ⟨ret_b (by simp), HF4.out.base.base.bel⟩
    case pos =>
      have ev : (v != 0) = false := by simp [hv]
      have K6 := Lib.hid (K5.out hv)
      go_enter Tryz.func4, Tryz.ntmps4
      go_wp2_with (first
        | (clear tok0; go_at_call 8; refine (K1.out _ HX0.out.base.bel).mono ?_; rintro e w1 ⟨rfl, hb⟩; have HX1 := Lib.hid (HX0.out.below hb); obtain ⟨x0, x1, x2, x3, x4, x5, x6, y0, y1, y2, y3, y4⟩ := HX1.out.base.cells; obtain ⟨u0, u1, u2⟩ := otc_three HX1.out.ob; dsimp only at y0 y1 y2 y3 y4 u0 u1 u2; clear hb; have tok1 : True := trivial)
        | (clear tok1; go_at_call 9; refine (K2.out _ HX1.out.base.bel).mono ?_; rintro e w2 ⟨rfl, hb⟩; have HX2 := Lib.hid (HX1.out.below hb); clear x0 x1 x2 x3 x4 x5 x6 y0 y1 y2 y3 y4 u0 u1 u2; obtain ⟨x0, x1, x2, x3, x4, x5, x6, y0, y1, y2, y3, y4⟩ := HX2.out.base.cells; obtain ⟨u0, u1, u2⟩ := otc_three HX2.out.ob; dsimp only at y0 y1 y2 y3 y4 u0 u1 u2; clear hb; have tok2 : True := trivial)
        | (clear tok2; go_at_call 20; refine (K3.out _ HX2.out.base.bel).mono ?_; rintro e w3 ⟨rfl, hb⟩; have HX3' := HX2.out.below hb; clear x0 x1 x2 x3 x4 x5 x6 y0 y1 y2 y3 y4 u0 u1 u2; obtain ⟨x0, x1, x2, x3, x4, x5, x6, y0, y1, y2, y3, y4⟩ := HX3'.base.cells; obtain ⟨u0, u1, u2⟩ := otc_three HX3'.ob; dsimp only at y0 y1 y2 y3 y4 u0 u1 u2; have hl1 := HX3'.base.box.lt; have hl2 := HX3'.base.st.lt; have hl3 := HX3'.ob.lt; have HX3 := Lib.hid (HX3'.below (Below.alloc (Below.refl _ _) (Nat.le_refl _) (.cells #[.int .i64 a.ball, .int .i64 a.need, .int .i64 a.str, .int .i64 a.par, .int .i64 a.nxt] 30))); have HA3 := Lib.hid (Blk.new w3 30 #[.int .i64 a.ball, .int .i64 a.need, .int .i64 a.str, .int .i64 a.par, .int .i64 a.nxt]); clear HX3' hb; have tok3 : True := trivial)
        | (clear tok3; go_at_call 21; refine (K4.out _ HX3.out.base.bel).mono ?_; rintro e w4 ⟨rfl, hb⟩; have HX4' := HX3.out.below hb; clear x0 x1 x2 x3 x4 x5 x6 y0 y1 y2 y3 y4 u0 u1 u2; clear hl1 hl2 hl3; obtain ⟨x0, x1, x2, x3, x4, x5, x6, y0, y1, y2, y3, y4⟩ := HX4'.base.cells; obtain ⟨u0, u1, u2⟩ := otc_three HX4'.ob; dsimp only at y0 y1 y2 y3 y4 u0 u1 u2; have hl1 := HX4'.base.box.lt; have hl2 := HX4'.base.st.lt; have hl3 := HX4'.ob.lt; obtain ⟨p0, p1, p2, p3, p4⟩ := blk_five (HA3.out.below hb HA3.out.lt); have hl4 := (HA3.out.below hb HA3.out.lt).lt; have HF4 := Lib.hid (⟨⟨HX4'.base.below (Below.alloc (Below.refl _ _) (Nat.le_refl _) (.cells #[.int .i64 a.ball, .int .i64 a.need, .int .i64 a.str, .int .i64 a.par, .int .i64 a.nxt] 30)), HX4'.ob.alloc _⟩, (HA3.out.below hb HA3.out.lt).alloc _, Blk.new w4 30 #[.int .i64 a.ball, .int .i64 a.need, .int .i64 a.str, .int .i64 a.par, .int .i64 a.nxt]⟩ : Six6 w (w4.alloc (.cells #[.int .i64 a.ball, .int .i64 a.need, .int .i64 a.str, .int .i64 a.par, .int .i64 a.nxt] 30)) w.heap.size w3.heap.size w4.heap.size c (.slice A c.mdl.bats.length ca) (.slice A1 c.mdl.bows.length ca1) (.slice A2 c.bows.length ca2) (.slice A3 c.ord.length ca3) ⟨ball, need, str, par, nxt⟩ ⟨pr, pw, pt⟩ a); clear HX4' hb; have tok4 : True := trivial)
        | (clear tok4; go_at_call 16; refine (K6.out _ HF4.out.base.base.bel).mono ?_; rintro e w8 ⟨rfl, hb⟩; have HF8 := Lib.hid (HF4.out.below hb); clear hb; have tok8 : True := trivial))
      go_ret
      exact ⟨ret_b (by simp), HF8.out.base.base.bel⟩
end Go.Proofs.YtdomhdfeedecpaaGreatDoor
