/- The walk of ChaseMartingale: the value of a state is the weighted sum of the values after the next ball. -/
import Derived.Test.YtdomhdfeedecpaaGreatDoorYM2
set_option linter.unusedSimpArgs false
set_option linter.unusedVariables false
namespace Go.Proofs.YtdomhdfeedecpaaGreatDoor
open Go.RowKit

/-- The plain facts of a running state. -/
theorem run44 {c : Chs} {s : Cst} (h0 : chstC c s = 0) (h1 : stC c s = 1) : ∃ l, movesC c s = (l, 0) ∧ l.length ≤ 16 ∧ 1 ≤ l.length ∧ valS c s = sumI (l.map fun o => o.wt * valS c (stepC c s o)) ∧
    ∀ (k : Nat) (hk : k < l.length), (0 ≤ l[k].runs ∧ l[k].runs ≤ 7) ∧ stepSC c s l[k] = (stepC c s l[k], 0) ∧ chstC c (stepC c s l[k]) = 0 ∧ valueC c (stepC c s l[k]) = (valS c (stepC c s l[k]), 0) ∧
      ((stepC c s l[k]).ball = s.ball + 1 ∧ (stepC c s l[k]).need = max (s.need - l[k].runs) 0) ∧ (0 ≤ l[k].wt * valS c (stepC c s l[k]) ∧ l[k].wt * valS c (stepC c s l[k]) ≤ 281474976710656) := by
  obtain ⟨hcc, hc, hs⟩ := chst_ok h0
  obtain ⟨_, _, _, _, _, _, _, _, _, _, _, _, _, _, _, hd⟩ := mvC_at hc hs h1
  have hok := checkD_ok hd
  have hm : movesC c s = (mvC c s, 0) := by unfold movesC; rw [if_neg (fun k => k h0), if_neg (fun k => k h1)]
  refine ⟨mvC c s, hm, hok.len.2, hok.len.1, valS_run hc hs h1, fun k hk => ?_⟩
  have ho := hok.each _ (List.getElem_mem hk)
  obtain ⟨k1, k2, k3⟩ := stepC_ok hc hs h1 (o := (mvC c s)[k]) ho.r0
  have h4 := chst_of hcc k1
  have h5 := left_step hc hs h1 (o := (mvC c s)[k]) ho.r0
  have h6 := left_le hc hs
  refine ⟨⟨ho.r0, ho.r7⟩, ?_, h4, ?_, ⟨k2, k3⟩, ?_⟩
  · unfold stepSC; rw [hm, if_neg (by simp), if_pos (hit_of (List.getElem_mem hk))]
  · unfold valueC; rw [if_neg (fun k => k h4)]
  · exact prod_bd (n := leftC c (stepC c s (mvC c s)[k])) (by omega) ⟨ho.w1, ho.w16⟩ (valS_bd hc k1)
structure CsO (w w7 W : World) (g g2 : Nat) (c : Chs) (bv wv pv ov : Value) (s : Cst) (pr : Int) (pw : Bool) (pt : Int) : Prop where
  base : CSB w W g c bv wv pv ov s
  ob : Blk W g2 40 #[.int .i64 pr, .bool pw, .int .i64 pt]
  seven : Below w7.heap.size w7 W
theorem CsO.below {w w7 W W' : World} {g g2 : Nat} {c : Chs} {bv wv pv ov : Value} {s : Cst} {pr : Int} {pw : Bool} {pt : Int} (h : CsO w w7 W g g2 c bv wv pv ov s pr pw pt) (hb : Below W.heap.size W W') : CsO w w7 W' g g2 c bv wv pv ov s pr pw pt := ⟨h.base.below hb, h.ob.below hb h.ob.lt, h.seven.trans (hb.mono h.seven.size)⟩
theorem CsO.three {w w7 W : World} {g g2 : Nat} {c : Chs} {bv wv pv ov : Value} {s : Cst} {pr : Int} {pw : Bool} {pt : Int} (h : CsO w w7 W g g2 c bv wv pv ov s pr pw pt) : W.cell? ⟨g2, 0, none⟩ = some (.int .i64 pr) ∧ W.cell? ⟨g2, 1, none⟩ = some (.bool pw) ∧ W.cell? ⟨g2, 2, none⟩ = some (.int .i64 pt) := ⟨h.ob.cell 0, h.ob.cell 1, h.ob.cell 2⟩
set_option maxRecDepth 100000 in
set_option maxHeartbeats 4000000 in
theorem law_ChaseMartingale (c : Chs) (bv wv pv ov : Value) (s : Cst) (w : World) (hg : GlobN w) (h : ChAt w (· < w.heap.size) bv wv pv ov c) :
    Calls Tryz.prog 5 #[chV c bv wv pv ov, stV s] w fun e w' => e = .returned (.bool true) ∧ Below w.heap.size w w' := by
  unfold chV stV
  obtain ⟨ball, need, str, par, nxt⟩ := s
  obtain ⟨A, ca, rfl, hc1, hc2⟩ := h.mdl.bat.shape
  obtain ⟨A1, ca1, rfl, hc3, hc4⟩ := h.mdl.bow.shape
  obtain ⟨A2, ca2, rfl, hc5, hc6⟩ := h.bow.shape
  obtain ⟨A3, ca3, rfl, hc7, hc8⟩ := h.ord.shape
  have hx := CSB.new w c (.slice A c.mdl.bats.length ca) (.slice A1 c.mdl.bows.length ca1) (.slice A2 c.bows.length ca2) (.slice A3 c.ord.length ca3) ⟨ball, need, str, par, nxt⟩
  have HX0 := Lib.hid hx
  have HM := Lib.hid h
  have k1 := fun W (hW : Below w.heap.size w W) => law44_awake W (hg.below hW)
  have k2 := fun W (hW : Below w.heap.size w W) => law44_Small c _ _ _ _ W (HM.out.below hW)
  have k3 := fun W (hW : Below w.heap.size w W) => ch44_CheckState c ⟨ball, need, str, par, nxt⟩ _ _ _ _ W (HM.out.below hW)
  have k4 := fun W (hW : Below w.heap.size w W) => ch44_Value c ⟨ball, need, str, par, nxt⟩ _ _ _ _ W (HM.out.below hW)
  have k6 := fun W (hW : Below w.heap.size w W) => ch44_Status c ⟨ball, need, str, par, nxt⟩ _ _ _ _ W (HM.out.below hW)
  have k7 := fun W (hW : Below w.heap.size w W) => ch44_Moves c ⟨ball, need, str, par, nxt⟩ _ _ _ _ W (HM.out.below hW)
  have k8 := fun o W (hW : Below w.heap.size w W) => ch44_Step c ⟨ball, need, str, par, nxt⟩ o _ _ _ _ W (HM.out.below hW)
  have k9 := fun t W (hW : Below w.heap.size w W) => ch44_Value c t _ _ _ _ W (HM.out.below hW)
  have hok := fun h => chst_ok (c := c) (s := ⟨ball, need, str, par, nxt⟩) h
  have hrun := fun h => run44 (c := c) (s := ⟨ball, need, str, par, nxt⟩) h
  obtain ⟨u, hu⟩ : ∃ x, x = chstC c ⟨ball, need, str, par, nxt⟩ := ⟨_, rfl⟩
  rw [← hu] at k3 hok hrun
  unfold chV stV at k3 k4 k6 k7 k8 k9
  unfold chV at k2
  dsimp only at k3 k4 k6 k7 k8
  have K1 := Lib.hid k1
  have K3 := Lib.hid k3
  have tok0 : True := trivial
  clear k1 k3 hx h hg
  cases hs : smallC c
  · rw [hs] at k2
    have K2 := Lib.hid k2
    clear k2 hs k4 k6 k7 k8 k9 hok hrun hu HM
    go_enter Tryz.func5, Tryz.ntmps5
    go_wp2_with (first
      | (clear tok0; go_at_call 8; refine (K1.out _ HX0.out.bel).mono ?_; rintro e w1 ⟨rfl, hb⟩; have HX1 := Lib.hid (HX0.out.below hb); obtain ⟨x0, x1, x2, x3, x4, x5, x6, y0, y1, y2, y3, y4⟩ := HX1.out.cells; dsimp only at y0 y1 y2 y3 y4; clear hb; have tok1 : True := trivial)
      | (clear tok1; go_at_call 22; refine (K2.out _ HX1.out.bel).mono ?_; rintro e w2 ⟨rfl, hb⟩; have HX2 := Lib.hid (HX1.out.below hb); clear x0 x1 x2 x3 x4 x5 x6 y0 y1 y2 y3 y4; obtain ⟨x0, x1, x2, x3, x4, x5, x6, y0, y1, y2, y3, y4⟩ := HX2.out.cells; dsimp only at y0 y1 y2 y3 y4; clear hb; have tok2 : True := trivial))
    go_ret
    exact ⟨rfl, HX2.out.bel⟩
  rw [hs] at k2
  have K2 := Lib.hid k2
  by_cases h0 : u = 0
  case neg =>
    have eu : (u != 0) = true := by simp [h0]
    clear k2 hs k4 k6 k7 k8 k9 hok hrun hu HM h0
    go_enter Tryz.func5, Tryz.ntmps5
    go_wp2_with (first
      | (clear tok0; go_at_call 8; refine (K1.out _ HX0.out.bel).mono ?_; rintro e w1 ⟨rfl, hb⟩; have HX1 := Lib.hid (HX0.out.below hb); obtain ⟨x0, x1, x2, x3, x4, x5, x6, y0, y1, y2, y3, y4⟩ := HX1.out.cells; dsimp only at y0 y1 y2 y3 y4; clear hb; have tok1 : True := trivial)
      | (clear tok1; go_at_call 22; refine (K2.out _ HX1.out.bel).mono ?_; rintro e w2 ⟨rfl, hb⟩; have HX2 := Lib.hid (HX1.out.below hb); clear x0 x1 x2 x3 x4 x5 x6 y0 y1 y2 y3 y4; obtain ⟨x0, x1, x2, x3, x4, x5, x6, y0, y1, y2, y3, y4⟩ := HX2.out.cells; dsimp only at y0 y1 y2 y3 y4; clear hb; have tok2 : True := trivial)
      | (clear tok2; go_at_call 16; refine (K3.out _ HX2.out.bel).mono ?_; rintro e w3 ⟨rfl, hb⟩; have HX3 := Lib.hid (HX2.out.below hb); clear x0 x1 x2 x3 x4 x5 x6 y0 y1 y2 y3 y4; obtain ⟨x0, x1, x2, x3, x4, x5, x6, y0, y1, y2, y3, y4⟩ := HX3.out.cells; dsimp only at y0 y1 y2 y3 y4; clear hb; have tok3 : True := trivial))
    go_ret
    exact ⟨rfl, HX3.out.bel⟩
  have eu : (u != 0) = false := by simp [h0]
  obtain ⟨hc0, hc, hso⟩ := hok h0
  have b1 := hso.ball
  have b2 := hso.need
  have b3 := hc.need
  have b4 := hc.nb
  dsimp only at b1 b2
  have hv1 : valueC c ⟨ball, need, str, par, nxt⟩ = (valS c ⟨ball, need, str, par, nxt⟩, 0) := by unfold valueC; rw [← hu, if_neg (by omega)]
  have hst0 : statusC c ⟨ball, need, str, par, nxt⟩ = stC c ⟨ball, need, str, par, nxt⟩ := by unfold statusC; rw [← hu, if_neg (by omega)]
  have hbd := valS_bd hc hso
  have hle : leftC c ⟨ball, need, str, par, nxt⟩ ≤ 12 := left_le hc hso
  have hlc : (c.bows.length : Int) - ball = (leftC c ⟨ball, need, str, par, nxt⟩ : Int) := by unfold leftC; dsimp only; omega
  have k5 := fun W => ch_Unit ((c.bows.length : Int) - ball) W
  have hun : unitS ((c.bows.length : Int) - ball) = (pow16 (leftC c ⟨ball, need, str, par, nxt⟩), 0) := by rw [hlc, unitS_ok hle, pow16_unit]
  have hp16 := pow16_le hle
  have hwon := valS_won (c := c) (s := ⟨ball, need, str, par, nxt⟩)
  have hlost := valS_lost (c := c) (s := ⟨ball, need, str, par, nxt⟩) hso
  have hbs := stC_bd c ⟨ball, need, str, par, nxt⟩
  rw [hst0] at k6
  rw [hun] at k5
  rw [hv1] at k4
  obtain ⟨a, ha⟩ : ∃ x, x = valS c ⟨ball, need, str, par, nxt⟩ := ⟨_, rfl⟩
  obtain ⟨p, hp⟩ : ∃ x, x = pow16 (leftC c ⟨ball, need, str, par, nxt⟩) := ⟨_, rfl⟩
  obtain ⟨st, hst⟩ : ∃ x, x = stC c ⟨ball, need, str, par, nxt⟩ := ⟨_, rfl⟩
  rw [← ha] at k4 hbd hwon hlost hrun
  rw [← hp] at k5 hbd hwon hp16
  rw [← hst] at k6 hwon hlost hbs hrun
  dsimp only at k4 k5 k6
  have hrun2 := hrun h0
  obtain ⟨q1, q2⟩ := hbd
  obtain ⟨q3, q4⟩ := hp16
  have K4 := Lib.hid k4
  have K5 := Lib.hid k5
  have K6 := Lib.hid k6
  clear k2 hs k4 k5 k6 hok hrun hu h0 hc0 hc hso hv1 hst0 hle hlc hun ha hp hst
  obtain ⟨b5, b6⟩ := b1
  obtain ⟨b7, b8⟩ := b2
  obtain ⟨b9, b10⟩ := b3
  obtain ⟨b11, b12⟩ := b4
  by_cases s2 : st = 2
  · obtain rfl := hwon s2
    subst s2
    clear hlost hrun2 hwon k7 k8 k9 hbs HM
    go_enter Tryz.func5, Tryz.ntmps5
    go_wp2_with (first
      | (clear tok0; go_at_call 8; refine (K1.out _ HX0.out.bel).mono ?_; rintro e w1 ⟨rfl, hb⟩; have HX1 := Lib.hid (HX0.out.below hb); obtain ⟨x0, x1, x2, x3, x4, x5, x6, y0, y1, y2, y3, y4⟩ := HX1.out.cells; dsimp only at y0 y1 y2 y3 y4; clear hb; have tok1 : True := trivial)
      | (clear tok1; go_at_call 22; refine (K2.out _ HX1.out.bel).mono ?_; rintro e w2 ⟨rfl, hb⟩; have HX2 := Lib.hid (HX1.out.below hb); clear x0 x1 x2 x3 x4 x5 x6 y0 y1 y2 y3 y4; obtain ⟨x0, x1, x2, x3, x4, x5, x6, y0, y1, y2, y3, y4⟩ := HX2.out.cells; dsimp only at y0 y1 y2 y3 y4; clear hb; have tok2 : True := trivial)
      | (clear tok2; go_at_call 16; refine (K3.out _ HX2.out.bel).mono ?_; rintro e w3 ⟨rfl, hb⟩; have HX3 := Lib.hid (HX2.out.below hb); clear x0 x1 x2 x3 x4 x5 x6 y0 y1 y2 y3 y4; obtain ⟨x0, x1, x2, x3, x4, x5, x6, y0, y1, y2, y3, y4⟩ := HX3.out.cells; dsimp only at y0 y1 y2 y3 y4; clear hb; have tok3 : True := trivial)
      | (clear tok3; go_at_call 23; refine (K4.out _ HX3.out.bel).mono ?_; rintro e w4 ⟨rfl, hb⟩; have HX4 := Lib.hid (HX3.out.below hb); clear x0 x1 x2 x3 x4 x5 x6 y0 y1 y2 y3 y4; obtain ⟨x0, x1, x2, x3, x4, x5, x6, y0, y1, y2, y3, y4⟩ := HX4.out.cells; dsimp only at y0 y1 y2 y3 y4; clear hb; have tok4 : True := trivial)
      | (clear tok4; go_at_call 24; refine (K5.out _).mono ?_; rintro e w5 ⟨rfl, rfl⟩; have HX5 := Lib.hid HX4.out; have tok5 : True := trivial)
      | (clear tok5; go_at_call 18; refine (K6.out _ HX5.out.bel).mono ?_; rintro e w6 ⟨rfl, hb⟩; have HX6 := Lib.hid (HX5.out.below hb); clear x0 x1 x2 x3 x4 x5 x6 y0 y1 y2 y3 y4; obtain ⟨x0, x1, x2, x3, x4, x5, x6, y0, y1, y2, y3, y4⟩ := HX6.out.cells; dsimp only at y0 y1 y2 y3 y4; clear hb; have tok6 : True := trivial))
    go_ret
    exact ⟨ret_b (by simp), HX6.out.bel⟩
  by_cases s3 : st = 3
  · obtain rfl := hlost s3
    subst s3
    clear hlost hrun2 hwon k7 k8 k9 hbs HM s2
    go_enter Tryz.func5, Tryz.ntmps5
    go_wp2_with (first
      | (clear tok0; go_at_call 8; refine (K1.out _ HX0.out.bel).mono ?_; rintro e w1 ⟨rfl, hb⟩; have HX1 := Lib.hid (HX0.out.below hb); obtain ⟨x0, x1, x2, x3, x4, x5, x6, y0, y1, y2, y3, y4⟩ := HX1.out.cells; dsimp only at y0 y1 y2 y3 y4; clear hb; have tok1 : True := trivial)
      | (clear tok1; go_at_call 22; refine (K2.out _ HX1.out.bel).mono ?_; rintro e w2 ⟨rfl, hb⟩; have HX2 := Lib.hid (HX1.out.below hb); clear x0 x1 x2 x3 x4 x5 x6 y0 y1 y2 y3 y4; obtain ⟨x0, x1, x2, x3, x4, x5, x6, y0, y1, y2, y3, y4⟩ := HX2.out.cells; dsimp only at y0 y1 y2 y3 y4; clear hb; have tok2 : True := trivial)
      | (clear tok2; go_at_call 16; refine (K3.out _ HX2.out.bel).mono ?_; rintro e w3 ⟨rfl, hb⟩; have HX3 := Lib.hid (HX2.out.below hb); clear x0 x1 x2 x3 x4 x5 x6 y0 y1 y2 y3 y4; obtain ⟨x0, x1, x2, x3, x4, x5, x6, y0, y1, y2, y3, y4⟩ := HX3.out.cells; dsimp only at y0 y1 y2 y3 y4; clear hb; have tok3 : True := trivial)
      | (clear tok3; go_at_call 23; refine (K4.out _ HX3.out.bel).mono ?_; rintro e w4 ⟨rfl, hb⟩; have HX4 := Lib.hid (HX3.out.below hb); clear x0 x1 x2 x3 x4 x5 x6 y0 y1 y2 y3 y4; obtain ⟨x0, x1, x2, x3, x4, x5, x6, y0, y1, y2, y3, y4⟩ := HX4.out.cells; dsimp only at y0 y1 y2 y3 y4; clear hb; have tok4 : True := trivial)
      | (clear tok4; go_at_call 24; refine (K5.out _).mono ?_; rintro e w5 ⟨rfl, rfl⟩; have HX5 := Lib.hid HX4.out; have tok5 : True := trivial)
      | (clear tok5; go_at_call 18; refine (K6.out _ HX5.out.bel).mono ?_; rintro e w6 ⟨rfl, hb⟩; have HX6 := Lib.hid (HX5.out.below hb); clear x0 x1 x2 x3 x4 x5 x6 y0 y1 y2 y3 y4; obtain ⟨x0, x1, x2, x3, x4, x5, x6, y0, y1, y2, y3, y4⟩ := HX6.out.cells; dsimp only at y0 y1 y2 y3 y4; clear hb; have tok6 : True := trivial))
    go_ret
    exact ⟨ret_b (by simp), HX6.out.bel⟩
  obtain rfl : st = 1 := by omega
  obtain ⟨l, hl, hlen, _, hsum, hel⟩ := hrun2 rfl
  have k7' := fun W (hW : Below w.heap.size w W) => (k7 W hW).mono fun e w' h => by rw [hl] at h; exact otc_exC h
  have k8' := fun (k : Nat) (hk : k < l.length) W (hW : Below w.heap.size w W) => k8 l[k] W hW
  have K7 := Lib.hid k7'
  have K8 := Lib.hid k8'
  have K9 := Lib.hid k9
  have HSUM := Lib.hid hsum
  have HEL := Lib.hid hel
  clear hl hsum hel hlost hrun2 hwon k7 k7' k8 k8' k9 hbs s2 s3 HM
  go_enter Tryz.func5, Tryz.ntmps5
  go_wp2_with (first
    | (clear tok0; go_at_call 8; refine (K1.out _ HX0.out.bel).mono ?_; rintro e w1 ⟨rfl, hb⟩; have HX1 := Lib.hid (HX0.out.below hb); obtain ⟨x0, x1, x2, x3, x4, x5, x6, y0, y1, y2, y3, y4⟩ := HX1.out.cells; dsimp only at y0 y1 y2 y3 y4; clear hb; have tok1 : True := trivial)
    | (clear tok1; go_at_call 22; refine (K2.out _ HX1.out.bel).mono ?_; rintro e w2 ⟨rfl, hb⟩; have HX2 := Lib.hid (HX1.out.below hb); clear x0 x1 x2 x3 x4 x5 x6 y0 y1 y2 y3 y4; obtain ⟨x0, x1, x2, x3, x4, x5, x6, y0, y1, y2, y3, y4⟩ := HX2.out.cells; dsimp only at y0 y1 y2 y3 y4; clear hb; have tok2 : True := trivial)
    | (clear tok2; go_at_call 16; refine (K3.out _ HX2.out.bel).mono ?_; rintro e w3 ⟨rfl, hb⟩; have HX3 := Lib.hid (HX2.out.below hb); clear x0 x1 x2 x3 x4 x5 x6 y0 y1 y2 y3 y4; obtain ⟨x0, x1, x2, x3, x4, x5, x6, y0, y1, y2, y3, y4⟩ := HX3.out.cells; dsimp only at y0 y1 y2 y3 y4; clear hb; have tok3 : True := trivial)
    | (clear tok3; go_at_call 23; refine (K4.out _ HX3.out.bel).mono ?_; rintro e w4 ⟨rfl, hb⟩; have HX4 := Lib.hid (HX3.out.below hb); clear x0 x1 x2 x3 x4 x5 x6 y0 y1 y2 y3 y4; obtain ⟨x0, x1, x2, x3, x4, x5, x6, y0, y1, y2, y3, y4⟩ := HX4.out.cells; dsimp only at y0 y1 y2 y3 y4; clear hb; have tok4 : True := trivial)
    | (clear tok4; go_at_call 24; refine (K5.out _).mono ?_; rintro e w5 ⟨rfl, rfl⟩; have HX5 := Lib.hid HX4.out; have tok5 : True := trivial)
    | (clear tok5; go_at_call 18; refine (K6.out _ HX5.out.bel).mono ?_; rintro e w6 ⟨rfl, hb⟩; have HX6 := Lib.hid (HX5.out.below hb); clear x0 x1 x2 x3 x4 x5 x6 y0 y1 y2 y3 y4; obtain ⟨x0, x1, x2, x3, x4, x5, x6, y0, y1, y2, y3, y4⟩ := HX6.out.cells; dsimp only at y0 y1 y2 y3 y4; clear hb; have tok6 : True := trivial)
    | (clear tok6; go_at_call 12; refine (K7.out _ HX6.out.bel).mono ?_; rintro e w7 ⟨A7, c7, rfl, hb, hs7⟩; have HL7 := Lib.hid hs7; have HX7 := Lib.hid (HX6.out.below hb); clear x0 x1 x2 x3 x4 x5 x6 y0 y1 y2 y3 y4; obtain ⟨x0, x1, x2, x3, x4, x5, x6, y0, y1, y2, y3, y4⟩ := HX7.out.cells; dsimp only at y0 y1 y2 y3 y4; clear hb hs7; have tok7 : True := trivial))
  go_loopw [10, 83] (fun v i wr => ∃ (k : Nat) (sm : Int), k ≤ l.length ∧ i = .int .i64 k ∧ v = .int .i64 sm ∧ 0 ≤ sm ∧ sm ≤ 281474976710656 * k ∧ Hid (Below w7.heap.size w7 wr) ∧ Hid (sm = sumI ((l.take k).map fun o => o.wt * valS c (stepC c ⟨ball, need, str, par, nxt⟩ o)))) (fun _ i _ => l.length - (intOf i).toNat)
  case atStart => exact ⟨0, 0, Nat.zero_le _, rfl, rfl, by omega, by omega, Lib.hid (Below.refl _ _), Lib.hid rfl⟩
  case round =>
    clear x0 x1 x2 x3 x4 x5 x6 y0 y1 y2 y3 y4
    obtain ⟨k, sm, hk, rfl, rfl, hs0, hs1, HB, hss⟩ := hrel
    have HXR := Lib.hid (HX7.out.below HB.out)
    by_cases hlt : k < l.length
    · obtain ⟨b0, o, rfl, hbl, j0, j1, j2⟩ := otc_at HL7.out hlt
      have g0 := (HB.out.cell (p := ⟨b0, o + k * 3, none⟩) hbl).trans j0
      have g1 := (HB.out.cell (p := ⟨b0, o + k * 3 + 1, none⟩) hbl).trans j1
      have g2 := (HB.out.cell (p := ⟨b0, o + k * 3 + 2, none⟩) hbl).trans j2
      obtain ⟨⟨r0, r7⟩, e1, e2, e3, ⟨e4, e5⟩, e6, e7⟩ := HEL.out k hlt
      have hst : sm + l[k].wt * valS c (stepC c ⟨ball, need, str, par, nxt⟩ l[k]) = sumI ((l.take (k + 1)).map fun o => o.wt * valS c (stepC c ⟨ball, need, str, par, nxt⟩ o)) := by rw [hss.out, sum_take (fun o : Otc => o.wt * valS c (stepC c ⟨ball, need, str, par, nxt⟩ o)) hlt]
      have kS := fun W hW => K8.out k hlt W hW
      rw [e1] at kS
      have kV := fun W hW => K9.out (stepC c ⟨ball, need, str, par, nxt⟩ l[k]) W hW
      rw [e3] at kV
      obtain ⟨⟨t0, t1, t2, t3, t4⟩, hs'⟩ : ∃ x, x = stepC c ⟨ball, need, str, par, nxt⟩ l[k] := ⟨_, rfl⟩
      rw [← hs'] at hst e4 e5 e6 e7 kS kV
      obtain ⟨vv, hvv⟩ : ∃ x, x = valS c ⟨t0, t1, t2, t3, t4⟩ := ⟨_, rfl⟩
      rw [← hvv] at hst e6 e7 kV
      obtain ⟨⟨pr, pw, pt⟩, hp'⟩ : ∃ p, p = l[k] := ⟨_, rfl⟩
      rw [← hp'] at g0 g1 g2 hst e5 e6 e7 r0 r7 kS
      dsimp only at g0 g1 g2 hst e4 e5 e6 e7 r0 r7 kS kV
      subst e4
      have e8 : max 0 (need - pr) = t1 := by omega
      clear e5
      have HST := Lib.hid hst
      have KS := Lib.hid kS
      have KV := Lib.hid kV
      clear hst kS kV hs' hvv hp' hss j0 j1 j2 e1 e2 e3
      have HXO := Lib.hid (⟨HXR.out.below (Below.alloc (Below.refl wr.heap.size wr) (Nat.le_refl _) (.cells #[.int .i64 pr, .bool pw, .int .i64 pt] 40)), Blk.new wr 40 #[.int .i64 pr, .bool pw, .int .i64 pt], Below.alloc HB.out HB.out.size _⟩ : CsO w w7 (wr.alloc (.cells #[.int .i64 pr, .bool pw, .int .i64 pt] 40)) w.heap.size wr.heap.size c (.slice A c.mdl.bats.length ca) (.slice A1 c.mdl.bows.length ca1) (.slice A2 c.bows.length ca2) (.slice A3 c.ord.length ca3) ⟨ball, need, str, par, nxt⟩ pr pw pt)
      obtain ⟨x0, x1, x2, x3, x4, x5, x6, y0, y1, y2, y3, y4⟩ := HXR.out.cells; dsimp only at y0 y1 y2 y3 y4
      have hl1 := HXR.out.box.lt
      have hl2 := HXR.out.st.lt
      have tok20 : True := trivial
      go_wp2_with (first
        | (clear tok20; go_at_call 20; refine (KS.out _ HXO.out.base.bel).mono ?_; rintro e w5 ⟨rfl, hb⟩; have HO5' := HXO.out.below hb; clear x0 x1 x2 x3 x4 x5 x6 y0 y1 y2 y3 y4; obtain ⟨x0, x1, x2, x3, x4, x5, x6, y0, y1, y2, y3, y4⟩ := HO5'.base.cells; dsimp only at y0 y1 y2 y3 y4; obtain ⟨u0, u1, u2⟩ := HO5'.three; clear hl1 hl2; have hl1 := HO5'.base.box.lt; have hl2 := HO5'.base.st.lt; have hl3 := HO5'.ob.lt; have HO5 := Lib.hid (HO5'.below (Below.alloc (Below.refl w5.heap.size w5) (Nat.le_refl _) (.cells #[.int .i64 (ball + 1), .int .i64 t1, .int .i64 t2, .int .i64 t3, .int .i64 t4] 30))); have HT5 := Lib.hid (Blk.new w5 30 #[.int .i64 (ball + 1), .int .i64 t1, .int .i64 t2, .int .i64 t3, .int .i64 t4]); clear HO5' hb; have tok21 : True := trivial)
        | (clear tok21; go_at_call 23; refine (KV.out _ HO5.out.base.bel).mono ?_; rintro e w6 ⟨rfl, hb⟩; have HO6 := Lib.hid (HO5.out.below hb); obtain ⟨z0, z1, z2, z3, z4⟩ := blk_five (HT5.out.below hb HT5.out.lt); clear x0 x1 x2 x3 x4 x5 x6 y0 y1 y2 y3 y4; clear u0 u1 u2; obtain ⟨x0, x1, x2, x3, x4, x5, x6, y0, y1, y2, y3, y4⟩ := HO6.out.base.cells; dsimp only at y0 y1 y2 y3 y4; obtain ⟨u0, u1, u2⟩ := HO6.out.three; clear hb hl1 hl2 hl3; have tok22 : True := trivial))
      go_roundw
      case rel => exact ⟨k + 1, sm + pt * vv, by omega, by go_num, by first | rfl | rw [IntWalk.i64_in (pt * vv) (by omega), IntWalk.i64_in (sm + pt * vv) (by omega)], by omega, by push_cast; omega, Lib.hid HO6.out.seven, HST⟩
      case measure => simp [intOf]; omega
    · obtain rfl : k = l.length := by omega
      have hs2 := hss.out
      rw [List.take_of_length_le (Nat.le_refl _), ← HSUM.out] at hs2
      subst hs2
      clear hss
      go_wp2
      go_ret
      exact ⟨ret_b (by simp), HXR.out.bel⟩
end Go.Proofs.YtdomhdfeedecpaaGreatDoor
