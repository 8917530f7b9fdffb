/- Several texts of this family in one: Y5 Y6 Y9 Y7 Y8 Y10 J10 Y11 Y15 Y17 Y19 Y20. -/
import Derived.Test.YtfnfbojaiikigaaGreatDoorYM1
import Derived.Test.YtfnfbojaiikigaaGreatDoorH3
import Derived.Test.YtfnfbojaiikigaaGreatDoorH11
set_option linter.unusedSimpArgs false
set_option linter.unusedVariables false
namespace Go.Proofs.YtfnfbojaiikigaaGreatDoor
open Go.RowKit

theorem Blk.put5 {w : World} {g : Nat} {t : TypeId} {a b c d e : Value} (h : Blk w g t #[a, b, c, d, e]) (x0 x1 x2 x3 x4 : Value) :
    Blk (((((w.setCell ⟨g, 0, none⟩ x0).setCell ⟨g, 1, none⟩ x1).setCell ⟨g, 2, none⟩ x2).setCell ⟨g, 3, none⟩ x3).setCell ⟨g, 4, none⟩ x4) g t #[x0, x1, x2, x3, x4] :=
  ((((h.set_ 0 x0).set_ 1 x1).set_ 2 x2).set_ 3 x3).set_ 4 x4
theorem below_set5 {B : Nat} {a w : World} (h : Below B a w) {g : Nat} (hg : B ≤ g) (x0 x1 x2 x3 x4 : Value) :
    Below B a (((((w.setCell ⟨g, 0, none⟩ x0).setCell ⟨g, 1, none⟩ x1).setCell ⟨g, 2, none⟩ x2).setCell ⟨g, 3, none⟩ x3).setCell ⟨g, 4, none⟩ x4) :=
  Below.setCell (Below.setCell (Below.setCell (Below.setCell (Below.setCell h hg x0) hg x1) hg x2) hg x3) hg x4
set_option maxRecDepth 100000 in
set_option maxHeartbeats 4000000 in
theorem ch44_moves (c : Chs) (s : Cst) (bv wv pv ov : Value) (w : World) (h : ChAt w (· < w.heap.size) bv wv pv ov c) (hc : OkC c) (hs : OkS c s) (h1 : stC c s = 1) :
    Calls Tryz.prog 48 #[chV c bv wv pv ov, stV s] w fun e w' => ∃ A n k, e = .returned (.slice A n k) ∧ Below w.heap.size w w' ∧ Sl 3 elOtc w' (fun b => w.heap.size ≤ b ∧ b < w'.heap.size) (.slice A n k) (mvC c s) := by
  unfold chV stV
  obtain ⟨ball, need, str, par, nxt⟩ := s
  obtain ⟨A, ca, rfl, hc1, hc2⟩ := h.mdl.bat.shape
  obtain ⟨A1, ca1, rfl, hc3, hc4⟩ := h.mdl.bow.shape
  obtain ⟨A2, ca2, rfl, hc5, hc6⟩ := h.bow.shape
  obtain ⟨A3, ca3, rfl, hc7, hc8⟩ := h.ord.shape
  have hx := CSB.new w c (.slice A c.mdl.bats.length ca) (.slice A1 c.mdl.bows.length ca1) (.slice A2 c.bows.length ca2) (.slice A3 c.ord.length ca3) ⟨ball, need, str, par, nxt⟩
  have HX := Lib.hid hx
  have HM := Lib.hid h
  obtain ⟨i, j, bt, bw, e1, e2, s0, s1, i0, i1, j0, j1, f1, f2, hsh, hq5⟩ := mvC_at hc hs h1
  have sn := hs.str.2
  have sx := hs.nxt.2
  have sb := hs.ball.1
  dsimp only at e1 e2 s0 s1 sn sx sb
  obtain ⟨a, rfl⟩ : ∃ a : Nat, str = (a : Int) := ⟨str.toNat, by omega⟩
  obtain ⟨e, rfl⟩ : ∃ a : Nat, ball = (a : Int) := ⟨ball.toNat, by omega⟩
  obtain ⟨i, rfl⟩ : ∃ a : Nat, i = (a : Int) := ⟨i.toNat, by omega⟩
  obtain ⟨j, rfl⟩ : ∃ a : Nat, j = (a : Int) := ⟨j.toNat, by omega⟩
  rw [Int.toNat_natCast] at e1 e2 f1 f2
  have la : a < c.ord.length := by omega
  have le : e < c.bows.length := by omega
  have li : i < c.mdl.bats.length := by omega
  have lj : j < c.mdl.bows.length := by omega
  have ga : c.ord[a] = (i : Int) := by rw [List.getElem?_eq_getElem la] at e1; exact Option.some.inj e1
  have ge : c.bows[e] = (j : Int) := by rw [List.getElem?_eq_getElem le] at e2; exact Option.some.inj e2
  have gi : c.mdl.bats[i] = bt := by rw [List.getElem?_eq_getElem li] at f1; exact Option.some.inj f1
  have gj : c.mdl.bows[j] = bw := by rw [List.getElem?_eq_getElem lj] at f2; exact Option.some.inj f2
  obtain ⟨b0, o0, rfl, hb0, z0⟩ := int_at h.ord la
  obtain ⟨b1, o1, rfl, hb1, z1⟩ := int_at h.bow le
  obtain ⟨b2, o2, v, rfl, hb2, hq3, z2, hv, hq1⟩ := bat_at h.mdl.bat li
  obtain ⟨b3, o3, rfl, hb3, hq4, z3, hq2⟩ := bow_at h.mdl.bow lj
  rw [ga] at z0
  rw [ge] at z1
  rw [gi] at hv
  rw [gj] at z3
  have ks := fun W (hW : Below w.heap.size w W) => m_Shift bt.dist v bw.shift W (hv.keep elOtc_good (Same.of_below hW) fun b h => Nat.lt_of_lt_of_le h hW.size)
  rw [hsh] at ks
  obtain ⟨n, hn⟩ : ∃ n, n = bw.shift := ⟨_, rfl⟩
  rw [← hn] at ks z3
  obtain ⟨l, hl⟩ : ∃ l, l = mvC c ⟨(e : Int), need, (a : Int), par, nxt⟩ := ⟨_, rfl⟩
  rw [← hl] at ks ⊢
  have KS := Lib.hid ks
  obtain ⟨W, hW⟩ : ∃ W, W = (w.alloc (.cells (chC c (.slice (some ⟨b2, o2, none⟩) c.mdl.bats.length ca) (.slice (some ⟨b3, o3, none⟩) c.mdl.bows.length ca1) (.slice (some ⟨b1, o1, none⟩) c.bows.length ca2) (.slice (some ⟨b0, o0, none⟩) c.ord.length ca3)) 28)).alloc (.cells #[.int .i64 (e : Int), .int .i64 need, .int .i64 (a : Int), .int .i64 par, .int .i64 nxt] 33) := ⟨_, rfl⟩
  have hx2 : CSB w W w.heap.size c (.slice (some ⟨b2, o2, none⟩) c.mdl.bats.length ca) (.slice (some ⟨b3, o3, none⟩) c.mdl.bows.length ca1) (.slice (some ⟨b1, o1, none⟩) c.bows.length ca2) (.slice (some ⟨b0, o0, none⟩) c.ord.length ca3) ⟨(e : Int), need, (a : Int), par, nxt⟩ := by rw [hW]; exact hx
  have y0 : W.cell? ⟨b0, o0 + a, none⟩ = some (.int .i64 (i : Int)) := (hx2.bel.cell (p := ⟨b0, o0 + a, none⟩) hb0).trans z0
  have y1 : W.cell? ⟨b1, o1 + e, none⟩ = some (.int .i64 (j : Int)) := (hx2.bel.cell (p := ⟨b1, o1 + e, none⟩) hb1).trans z1
  have y2 : W.cell? ⟨b2, o2 + i * 2 + 1, none⟩ = some v := (hx2.bel.cell (p := ⟨b2, o2 + i * 2 + 1, none⟩) hb2).trans z2
  have y3 : W.cell? ⟨b3, o3 + j * 2 + 1, none⟩ = some (.int .i64 n) := (hx2.bel.cell (p := ⟨b3, o3 + j * 2 + 1, none⟩) hb3).trans z3
  have HX2 := Lib.hid hx2
  have Z0 := Lib.hid z0
  have Z1 := Lib.hid z1
  have Z2 := Lib.hid z2
  have Z3 := Lib.hid z3
  have B0 := Lib.hid hb0
  have B1 := Lib.hid hb1
  have B2 := Lib.hid hb2
  have B3 := Lib.hid hb3
  have HW := Lib.hid hW
  have p1 : (0 : Int) ≤ (a : Int) := by omega
  have p2 : (a : Int) < (c.ord.length : Int) := by omega
  have p3 : (0 : Int) ≤ (e : Int) := by omega
  have p4 : (e : Int) < (c.bows.length : Int) := by omega
  have p5 : (0 : Int) ≤ (i : Int) := by omega
  have p6 : (i : Int) < (c.mdl.bats.length : Int) := by omega
  have p7 : (0 : Int) ≤ (j : Int) := by omega
  have p8 : (j : Int) < (c.mdl.bows.length : Int) := by omega
  clear hq1 hq2 hq3 hq4 hq5 ks hn hl hsh hv z0 z1 z2 z3 hb0 hb1 hb2 hb3 ga ge gi gj la le li lj e1 e2 f1 f2 s0 s1 i0 i1 j0 j1 sn sx sb h1 hs hc hx h HM HX hx2 hW y0 y1 y2 y3
  go_enter Tryz.func48, Tryz.ntmps48
  go_wp2
  unfold chC at HW
  rw [← HW.out]
  clear HW
  have y0 : W.cell? ⟨b0, o0 + a, none⟩ = some (.int .i64 (i : Int)) := (HX2.out.bel.cell (p := ⟨b0, o0 + a, none⟩) B0.out).trans Z0.out
  have y1 : W.cell? ⟨b1, o1 + e, none⟩ = some (.int .i64 (j : Int)) := (HX2.out.bel.cell (p := ⟨b1, o1 + e, none⟩) B1.out).trans Z1.out
  have y2 : W.cell? ⟨b2, o2 + i * 2 + 1, none⟩ = some v := (HX2.out.bel.cell (p := ⟨b2, o2 + i * 2 + 1, none⟩) B2.out).trans Z2.out
  have y3 : W.cell? ⟨b3, o3 + j * 2 + 1, none⟩ = some (.int .i64 n) := (HX2.out.bel.cell (p := ⟨b3, o3 + j * 2 + 1, none⟩) B3.out).trans Z3.out
  obtain ⟨x0, x1, x2, x3, x4, x5, x6, t0, t1, t2, t3, t4⟩ := HX2.out.cells
  dsimp only at t0 t1 t2 t3 t4
  have HXD := Lib.hid HX2.out.drew
  go_region_held3 (fun w' => w'.cell? ⟨w.heap.size, 0, none⟩ = some (.slice (some ⟨b2, o2, none⟩) c.mdl.bats.length ca) ∧ w'.cell? ⟨w.heap.size, 1, none⟩ = some (.slice (some ⟨b3, o3, none⟩) c.mdl.bows.length ca1) ∧ w'.cell? ⟨w.heap.size, 2, none⟩ = some (.slice (some ⟨b1, o1, none⟩) c.bows.length ca2) ∧ w'.cell? ⟨w.heap.size, 6, none⟩ = some (.slice (some ⟨b0, o0, none⟩) c.ord.length ca3) ∧ w'.cell? ⟨w.heap.size + 1, 0, none⟩ = some (.int .i64 (e : Int)) ∧ w'.cell? ⟨w.heap.size + 1, 2, none⟩ = some (.int .i64 (a : Int)) ∧ w'.cell? ⟨b0, o0 + a, none⟩ = some (.int .i64 (i : Int)) ∧ w'.cell? ⟨b1, o1 + e, none⟩ = some (.int .i64 (j : Int)) ∧ w'.cell? ⟨b2, o2 + i * 2 + 1, none⟩ = some v ∧ w'.cell? ⟨b3, o3 + j * 2 + 1, none⟩ = some (.int .i64 n)) (first | exact ⟨x0, x1, x2, x6, t0, t2, u0, u1, u2, u3⟩ | exact ⟨x0, x1, x2, x6, t0, t2, y0, y1, y2, y3⟩ | go_keep) ((go_at_call 90; refine (KS.out _ HXD.out.bel).mono ?_; rintro e4 w4 ⟨v4, rfl, hs4, hb4⟩; obtain ⟨A4, c4, rfl, hc41, hc42⟩ := hs4.shape; have HX4 := Lib.hid (HXD.out.below hb4); obtain ⟨x0, x1, x2, x3, x4, x5, x6, t0, t1, t2, t3, t4⟩ := HX4.out.cells; dsimp only at t0 t1 t2 t3 t4; have u0 := (hb4.cell (p := ⟨b0, o0 + a, none⟩) (Nat.lt_of_lt_of_le B0.out HXD.out.bel.size)).trans y0; have u1 := (hb4.cell (p := ⟨b1, o1 + e, none⟩) (Nat.lt_of_lt_of_le B1.out HXD.out.bel.size)).trans y1; have u2 := (hb4.cell (p := ⟨b2, o2 + i * 2 + 1, none⟩) (Nat.lt_of_lt_of_le B2.out HXD.out.bel.size)).trans y2; have u3 := (hb4.cell (p := ⟨b3, o3 + j * 2 + 1, none⟩) (Nat.lt_of_lt_of_le B3.out HXD.out.bel.size)).trans y3; have HS4 := Lib.hid hs4; clear hs4 hb4))
  all_goals go_wp2
  go_ret
  exact ⟨_, _, _, rfl, HX4.out.bel, HS4.out.keep elOtc_good (Same.refl _ _) fun b h => ⟨Nat.le_trans HXD.out.bel.size h.1, h.2⟩⟩
set_option maxRecDepth 100000 in
set_option maxHeartbeats 4000000 in
theorem ch44_Moves (c : Chs) (s : Cst) (bv wv pv ov : Value) (w : World) (h : ChAt w (· < w.heap.size) bv wv pv ov c) :
    Calls Tryz.prog 17 #[chV c bv wv pv ov, stV s] w (OtcPost w (movesC c s)) := by
  unfold chV stV
  obtain ⟨ball, need, str, par, nxt⟩ := s
  obtain ⟨A, ca, rfl, hc1, hc2⟩ := h.mdl.bat.shape
  obtain ⟨A1, ca1, rfl, hc3, hc4⟩ := h.mdl.bow.shape
  obtain ⟨A2, ca2, rfl, hc5, hc6⟩ := h.bow.shape
  obtain ⟨A3, ca3, rfl, hc7, hc8⟩ := h.ord.shape
  have hx := CSB.new w c (.slice A c.mdl.bats.length ca) (.slice A1 c.mdl.bows.length ca1) (.slice A2 c.bows.length ca2) (.slice A3 c.ord.length ca3) ⟨ball, need, str, par, nxt⟩
  have HX := Lib.hid hx
  have HM := Lib.hid h
  obtain ⟨z, hz⟩ : ∃ z, z = movesC c ⟨ball, need, str, par, nxt⟩ := ⟨_, rfl⟩
  rw [← hz]
  unfold movesC at hz
  have k1 := fun W (hW : Below w.heap.size w W) => ch44_CheckState c ⟨ball, need, str, par, nxt⟩ _ _ _ _ W (HM.out.below hW)
  have k2 := fun (hs : OkS c ⟨ball, need, str, par, nxt⟩) W (hW : Below w.heap.size w W) => ch44_status c ⟨ball, need, str, par, nxt⟩ _ _ _ _ W (HM.out.below hW) hs
  have k3 := fun (hc : OkC c) (hs : OkS c ⟨ball, need, str, par, nxt⟩) (h1 : stC c ⟨ball, need, str, par, nxt⟩ = 1) W (hW : Below w.heap.size w W) => ch44_moves c ⟨ball, need, str, par, nxt⟩ _ _ _ _ W (HM.out.below hW) hc hs h1
  have hok := fun h => (chst_ok (c := c) (s := ⟨ball, need, str, par, nxt⟩) h).2
  unfold chV stV at k1 k2 k3
  dsimp only at k1 k2 k3
  obtain ⟨u, hu⟩ : ∃ u, u = chstC c ⟨ball, need, str, par, nxt⟩ := ⟨_, rfl⟩
  obtain ⟨v, hv⟩ : ∃ v, v = stC c ⟨ball, need, str, par, nxt⟩ := ⟨_, rfl⟩
  rw [← hu] at k1 hz hok
  rw [← hv] at k2 k3 hz
  have K1 := Lib.hid k1
  have tok0 : True := trivial
  clear k1 hu h hx
  by_cases h0 : u = 0
  · rw [if_neg (by omega)] at hz
    have K2 := Lib.hid (k2 (hok h0).2)
    have eu : (u != 0) = false := by simp [h0]
    by_cases hv1 : v = 1
    · rw [if_neg (by omega)] at hz
      have K3 := Lib.hid (k3 (hok h0).1 (hok h0).2 hv1)
      have ev : (v != 1) = false := by simp [hv1]
      have HZ := Lib.hid hz
      clear hz h0 hok k2 k3 hv1 hv
      go_enter Tryz.func17, Tryz.ntmps17
      go_wp2_with (first
        | (clear tok0; go_at_call 45; refine (K1.out _ HX.out.bel).mono ?_; rintro e w2 ⟨rfl, hb2⟩; have HX2 := Lib.hid (HX.out.below hb2); obtain ⟨x0, x1, x2, x3, x4, x5, x6, y0, y1, y2, y3, y4⟩ := HX2.out.cells; clear hb2; have tok1 : True := trivial)
        | (clear tok1; go_at_call 47; refine (K2.out _ HX2.out.bel).mono ?_; rintro e w3 ⟨rfl, hb3⟩; have HX3 := Lib.hid (HX2.out.below hb3); obtain ⟨x0, x1, x2, x3, x4, x5, x6, y0, y1, y2, y3, y4⟩ := HX3.out.cells; clear hb3; have tok2 : True := trivial)
        | (clear tok2; go_at_call 48; refine (K3.out _ HX3.out.bel).mono ?_; rintro e w4 ⟨A4, n4, k4, rfl, hb4, hs4⟩; have HS4 := Lib.hid hs4; have HX4 := Lib.hid (HX3.out.below hb4); clear hb4 hs4; have tok3 : True := trivial))
      go_ret2
      rw [HZ.out]
      exact ⟨_, rfl, HS4.out.keep elOtc_good (Same.refl _ _) fun b h => ⟨Nat.le_trans HX3.out.bel.size h.1, h.2⟩, HX4.out.bel⟩
    · rw [if_pos hv1] at hz
      have ev : (v != 1) = true := by simp [hv1]
      have HZ := Lib.hid hz
      clear hz h0 hok k2 k3 hv1 hv
      go_enter Tryz.func17, Tryz.ntmps17
      go_wp2_with (first
        | (clear tok0; go_at_call 45; refine (K1.out _ HX.out.bel).mono ?_; rintro e w2 ⟨rfl, hb2⟩; have HX2 := Lib.hid (HX.out.below hb2); obtain ⟨x0, x1, x2, x3, x4, x5, x6, y0, y1, y2, y3, y4⟩ := HX2.out.cells; clear hb2; have tok1 : True := trivial)
        | (clear tok1; go_at_call 47; refine (K2.out _ HX2.out.bel).mono ?_; rintro e w3 ⟨rfl, hb3⟩; have HX3 := Lib.hid (HX2.out.below hb3); obtain ⟨x0, x1, x2, x3, x4, x5, x6, y0, y1, y2, y3, y4⟩ := HX3.out.cells; clear hb3; have tok2 : True := trivial))
      go_ret2
      exact otc_nil HX3.out.bel HZ.out
  · rw [if_pos h0] at hz
    have HZ := Lib.hid hz
    have eu : (u != 0) = true := by simp [h0]
    clear hz h0 hok k2 k3 hv
    go_enter Tryz.func17, Tryz.ntmps17
    go_wp2_with (clear tok0; go_at_call 45; refine (K1.out _ HX.out.bel).mono ?_; rintro e w2 ⟨rfl, hb2⟩; have HX2 := Lib.hid (HX.out.below hb2); obtain ⟨x0, x1, x2, x3, x4, x5, x6, y0, y1, y2, y3, y4⟩ := HX2.out.cells; clear hb2; have tok1 : True := trivial)
    go_ret2
    exact otc_nil HX2.out.bel HZ.out
theorem ch44_start_ret {R' : Ending → World → Prop} {a : Act} {w : World} {x0 x1 x2 x3 x4 v : Value} {g : Nat} (h2 : a.tmps[2]? = some (.pointer (some ⟨g, 0, none⟩))) (h3 : a.tmps[3]? = some v) (hb : Blk w g 33 #[x0, x1, x2, x3, x4])
    (hd : a.defers = []) (hR : R' (.returned (.tuple #[.agg #[x0, x1, x2, x3, x4], v])) w) : bodyPost Tryz.prog Tryz.f13 R' .ret a w := by
  have r0 := hb.cell 0
  have r1 := hb.cell 1
  have r2 := hb.cell 2
  have r3 := hb.cell 3
  have r4 := hb.cell 4
  simp only [List.getElem?_toArray, List.getElem?_cons_zero, List.getElem?_cons_succ] at r0 r1 r2 r3 r4
  refine bodyPost_ret (v := .tuple #[.agg #[x0, x1, x2, x3, x4], v]) (by simp [results, Tryz.results13, go_sem, h2, h3, r0, r1, r2, r3, r4]) hd hR
set_option maxRecDepth 100000 in
set_option maxHeartbeats 4000000 in
theorem ch44_Start (c : Chs) (bv wv pv ov : Value) (w : World) (h : ChAt w (· < w.heap.size) bv wv pv ov c) :
    Calls Tryz.prog 13 #[chV c bv wv pv ov] w fun e w' => e = .returned (.tuple #[stV (startC c).1, .int .i64 (startC c).2]) ∧ Below w.heap.size w w' := by
  unfold chV
  obtain ⟨z, hz⟩ : ∃ z, z = startC c := ⟨_, rfl⟩
  rw [← hz]
  unfold startC at hz
  have hx := ChB.new w c bv wv pv ov
  have k1 := fun W (hW : Below w.heap.size w W) => ch44_Check c _ _ _ _ W (h.below hW)
  unfold chV at k1
  obtain ⟨u, hu⟩ : ∃ u, u = checkC c := ⟨_, rfl⟩
  rw [← hu] at k1 hz
  obtain ⟨A, ca, rfl, hc1, hc2⟩ := h.mdl.bat.shape
  obtain ⟨A1, ca1, rfl, hc3, hc4⟩ := h.mdl.bow.shape
  obtain ⟨A2, ca2, rfl, hc5, hc6⟩ := h.bow.shape
  obtain ⟨A3, ca3, rfl, hc7, hc8⟩ := h.ord.shape
  have HXR := Lib.hid (⟨hx.alloc (.cells #[.int .i64 0, .int .i64 0, .int .i64 0, .int .i64 0, .int .i64 0] 33), by have := Blk.new (w.alloc (.cells #[.slice A c.mdl.bats.length ca, .slice A1 c.mdl.bows.length ca1, .slice A2 c.bows.length ca2, .int .i64 c.over, .int .i64 c.done, .int .i64 c.need, .slice A3 c.ord.length ca3] 28)) 33 #[.int .i64 0, .int .i64 0, .int .i64 0, .int .i64 0, .int .i64 0]; rw [World.size_alloc] at this; exact this⟩ : ChB w ((w.alloc (.cells #[.slice A c.mdl.bats.length ca, .slice A1 c.mdl.bows.length ca1, .slice A2 c.bows.length ca2, .int .i64 c.over, .int .i64 c.done, .int .i64 c.need, .slice A3 c.ord.length ca3] 28)).alloc (.cells #[.int .i64 0, .int .i64 0, .int .i64 0, .int .i64 0, .int .i64 0] 33)) w.heap.size c (.slice A c.mdl.bats.length ca) (.slice A1 c.mdl.bows.length ca1) (.slice A2 c.bows.length ca2) (.slice A3 c.ord.length ca3) ∧ Blk ((w.alloc (.cells #[.slice A c.mdl.bats.length ca, .slice A1 c.mdl.bows.length ca1, .slice A2 c.bows.length ca2, .int .i64 c.over, .int .i64 c.done, .int .i64 c.need, .slice A3 c.ord.length ca3] 28)).alloc (.cells #[.int .i64 0, .int .i64 0, .int .i64 0, .int .i64 0, .int .i64 0] 33)) (w.heap.size + 1) 33 #[.int .i64 0, .int .i64 0, .int .i64 0, .int .i64 0, .int .i64 0])
  have K1 := Lib.hid k1
  clear k1 hu h hx
  by_cases h0 : u = 0
  · rw [if_neg (by omega)] at hz
    have HZ := Lib.hid hz
    have eu : (u != 0) = false := by simp [h0]
    clear hz h0
    go_enter Tryz.func13, Tryz.ntmps13
    go_wp2_with (go_at_call 14; refine (K1.out _ HXR.out.1.bel).mono ?_; rintro e w2 ⟨rfl, hb2⟩; have HX2 := Lib.hid (HXR.out.1.below hb2); have HR2 := Lib.hid (HXR.out.2.below hb2 HXR.out.2.lt); obtain ⟨x0, x1, x2, x3, x4, x5, x6⟩ := HX2.out.cells; have y0 := HR2.out.cell 0; have y1 := HR2.out.cell 1; have y2 := HR2.out.cell 2; have y3 := HR2.out.cell 3; have y4 := HR2.out.cell 4; have g0 := HR2.out.frozen 0; have g1 := HR2.out.frozen 1; have g2 := HR2.out.frozen 2; have g3 := HR2.out.frozen 3; have g4 := HR2.out.frozen 4; simp only [List.getElem?_toArray, List.getElem?_cons_zero, List.getElem?_cons_succ] at y0 y1 y2 y3 y4; clear hb2)
    refine ch44_start_ret rfl rfl (HR2.out.put5 _ _ _ _ _) rfl ⟨by rw [HZ.out]; rfl, ?_⟩
    exact below_set5 HX2.out.bel (by omega) _ _ _ _ _
  · rw [if_pos h0] at hz
    have HZ := Lib.hid hz
    have eu : (u != 0) = true := by simp [h0]
    clear hz h0
    go_enter Tryz.func13, Tryz.ntmps13
    go_wp2_with (go_at_call 14; refine (K1.out _ HXR.out.1.bel).mono ?_; rintro e w2 ⟨rfl, hb2⟩; have HX2 := Lib.hid (HXR.out.1.below hb2); have HR2 := Lib.hid (HXR.out.2.below hb2 HXR.out.2.lt); obtain ⟨x0, x1, x2, x3, x4, x5, x6⟩ := HX2.out.cells; have y0 := HR2.out.cell 0; have y1 := HR2.out.cell 1; have y2 := HR2.out.cell 2; have y3 := HR2.out.cell 3; have y4 := HR2.out.cell 4; have g0 := HR2.out.frozen 0; have g1 := HR2.out.frozen 1; have g2 := HR2.out.frozen 2; have g3 := HR2.out.frozen 3; have g4 := HR2.out.frozen 4; simp only [List.getElem?_toArray, List.getElem?_cons_zero, List.getElem?_cons_succ] at y0 y1 y2 y3 y4; clear hb2)
    refine ch44_start_ret rfl rfl (HR2.out.put5 _ _ _ _ _) rfl ⟨by rw [HZ.out]; rfl, ?_⟩
    exact below_set5 HX2.out.bel (by omega) _ _ _ _ _
set_option maxRecDepth 100000 in
set_option maxHeartbeats 4000000 in
theorem r44_moves (c : Chs) (s : Cst) (bv wv pv ov : Value) (w : World) (h : ChAt w (· < w.heap.size) bv wv pv ov c) (hc : OkC c) (hs : OkS c s) (h1 : stC c s = 1) :
    Calls Tryz.prog 137 #[chV c bv wv pv ov, stV s] w fun e w' => ∃ A n k, e = .returned (.slice A n k) ∧ Below w.heap.size w w' ∧ Sl 3 elOtc w' (fun b => w.heap.size ≤ b ∧ b < w'.heap.size) (.slice A n k) (mvC c s) := by
  unfold chV stV
  obtain ⟨ball, need, str, par, nxt⟩ := s
  obtain ⟨A, ca, rfl, hc1, hc2⟩ := h.mdl.bat.shape
  obtain ⟨A1, ca1, rfl, hc3, hc4⟩ := h.mdl.bow.shape
  obtain ⟨A2, ca2, rfl, hc5, hc6⟩ := h.bow.shape
  obtain ⟨A3, ca3, rfl, hc7, hc8⟩ := h.ord.shape
  have hx := CSB.new w c (.slice A c.mdl.bats.length ca) (.slice A1 c.mdl.bows.length ca1) (.slice A2 c.bows.length ca2) (.slice A3 c.ord.length ca3) ⟨ball, need, str, par, nxt⟩
  have HX := Lib.hid hx
  have HM := Lib.hid h
  obtain ⟨i, j, bt, bw, e1, e2, s0, s1, i0, i1, j0, j1, f1, f2, hsh, hq5⟩ := mvC_at hc hs h1
  have sn := hs.str.2
  have sx := hs.nxt.2
  have sb := hs.ball.1
  dsimp only at e1 e2 s0 s1 sn sx sb
  obtain ⟨a, rfl⟩ : ∃ a : Nat, str = (a : Int) := ⟨str.toNat, by omega⟩
  obtain ⟨e, rfl⟩ : ∃ a : Nat, ball = (a : Int) := ⟨ball.toNat, by omega⟩
  obtain ⟨i, rfl⟩ : ∃ a : Nat, i = (a : Int) := ⟨i.toNat, by omega⟩
  obtain ⟨j, rfl⟩ : ∃ a : Nat, j = (a : Int) := ⟨j.toNat, by omega⟩
  rw [Int.toNat_natCast] at e1 e2 f1 f2
  have la : a < c.ord.length := by omega
  have le : e < c.bows.length := by omega
  have li : i < c.mdl.bats.length := by omega
  have lj : j < c.mdl.bows.length := by omega
  have ga : c.ord[a] = (i : Int) := by rw [List.getElem?_eq_getElem la] at e1; exact Option.some.inj e1
  have ge : c.bows[e] = (j : Int) := by rw [List.getElem?_eq_getElem le] at e2; exact Option.some.inj e2
  have gi : c.mdl.bats[i] = bt := by rw [List.getElem?_eq_getElem li] at f1; exact Option.some.inj f1
  have gj : c.mdl.bows[j] = bw := by rw [List.getElem?_eq_getElem lj] at f2; exact Option.some.inj f2
  obtain ⟨b0, o0, rfl, hb0, z0⟩ := int_at h.ord la
  obtain ⟨b1, o1, rfl, hb1, z1⟩ := int_at h.bow le
  obtain ⟨b2, o2, v, rfl, hb2, hq3, z2, hv, hq1⟩ := bat_at h.mdl.bat li
  obtain ⟨b3, o3, rfl, hb3, hq4, z3, hq2⟩ := bow_at h.mdl.bow lj
  rw [ga] at z0
  rw [ge] at z1
  rw [gi] at hv
  rw [gj] at z3
  have ks := fun W (hW : Below w.heap.size w W) => r_Shift bt.dist v bw.shift W (hv.keep elOtc_good (Same.of_below hW) fun b h => Nat.lt_of_lt_of_le h hW.size)
  rw [hsh] at ks
  obtain ⟨n, hn⟩ : ∃ n, n = bw.shift := ⟨_, rfl⟩
  rw [← hn] at ks z3
  obtain ⟨l, hl⟩ : ∃ l, l = mvC c ⟨(e : Int), need, (a : Int), par, nxt⟩ := ⟨_, rfl⟩
  rw [← hl] at ks ⊢
  have KS := Lib.hid ks
  obtain ⟨W, hW⟩ : ∃ W, W = (w.alloc (.cells (chC c (.slice (some ⟨b2, o2, none⟩) c.mdl.bats.length ca) (.slice (some ⟨b3, o3, none⟩) c.mdl.bows.length ca1) (.slice (some ⟨b1, o1, none⟩) c.bows.length ca2) (.slice (some ⟨b0, o0, none⟩) c.ord.length ca3)) 28)).alloc (.cells #[.int .i64 (e : Int), .int .i64 need, .int .i64 (a : Int), .int .i64 par, .int .i64 nxt] 33) := ⟨_, rfl⟩
  have hx2 : CSB w W w.heap.size c (.slice (some ⟨b2, o2, none⟩) c.mdl.bats.length ca) (.slice (some ⟨b3, o3, none⟩) c.mdl.bows.length ca1) (.slice (some ⟨b1, o1, none⟩) c.bows.length ca2) (.slice (some ⟨b0, o0, none⟩) c.ord.length ca3) ⟨(e : Int), need, (a : Int), par, nxt⟩ := by rw [hW]; exact hx
  have y0 : W.cell? ⟨b0, o0 + a, none⟩ = some (.int .i64 (i : Int)) := (hx2.bel.cell (p := ⟨b0, o0 + a, none⟩) hb0).trans z0
  have y1 : W.cell? ⟨b1, o1 + e, none⟩ = some (.int .i64 (j : Int)) := (hx2.bel.cell (p := ⟨b1, o1 + e, none⟩) hb1).trans z1
  have y2 : W.cell? ⟨b2, o2 + i * 2 + 1, none⟩ = some v := (hx2.bel.cell (p := ⟨b2, o2 + i * 2 + 1, none⟩) hb2).trans z2
  have y3 : W.cell? ⟨b3, o3 + j * 2 + 1, none⟩ = some (.int .i64 n) := (hx2.bel.cell (p := ⟨b3, o3 + j * 2 + 1, none⟩) hb3).trans z3
  have HX2 := Lib.hid hx2
  have Z0 := Lib.hid z0
  have Z1 := Lib.hid z1
  have Z2 := Lib.hid z2
  have Z3 := Lib.hid z3
  have B0 := Lib.hid hb0
  have B1 := Lib.hid hb1
  have B2 := Lib.hid hb2
  have B3 := Lib.hid hb3
  have HW := Lib.hid hW
  have p1 : (0 : Int) ≤ (a : Int) := by omega
  have p2 : (a : Int) < (c.ord.length : Int) := by omega
  have p3 : (0 : Int) ≤ (e : Int) := by omega
  have p4 : (e : Int) < (c.bows.length : Int) := by omega
  have p5 : (0 : Int) ≤ (i : Int) := by omega
  have p6 : (i : Int) < (c.mdl.bats.length : Int) := by omega
  have p7 : (0 : Int) ≤ (j : Int) := by omega
  have p8 : (j : Int) < (c.mdl.bows.length : Int) := by omega
  clear hq1 hq2 hq3 hq4 hq5 ks hn hl hsh hv z0 z1 z2 z3 hb0 hb1 hb2 hb3 ga ge gi gj la le li lj e1 e2 f1 f2 s0 s1 i0 i1 j0 j1 sn sx sb h1 hs hc hx h HM HX hx2 hW y0 y1 y2 y3
  go_enter Tryz.func137, Tryz.ntmps137
  go_wp2
  unfold chC at HW
  rw [← HW.out]
  clear HW
  have y0 : W.cell? ⟨b0, o0 + a, none⟩ = some (.int .i64 (i : Int)) := (HX2.out.bel.cell (p := ⟨b0, o0 + a, none⟩) B0.out).trans Z0.out
  have y1 : W.cell? ⟨b1, o1 + e, none⟩ = some (.int .i64 (j : Int)) := (HX2.out.bel.cell (p := ⟨b1, o1 + e, none⟩) B1.out).trans Z1.out
  have y2 : W.cell? ⟨b2, o2 + i * 2 + 1, none⟩ = some v := (HX2.out.bel.cell (p := ⟨b2, o2 + i * 2 + 1, none⟩) B2.out).trans Z2.out
  have y3 : W.cell? ⟨b3, o3 + j * 2 + 1, none⟩ = some (.int .i64 n) := (HX2.out.bel.cell (p := ⟨b3, o3 + j * 2 + 1, none⟩) B3.out).trans Z3.out
  obtain ⟨x0, x1, x2, x3, x4, x5, x6, t0, t1, t2, t3, t4⟩ := HX2.out.cells
  dsimp only at t0 t1 t2 t3 t4
  have HXD := Lib.hid HX2.out.drew
  go_region_held3 (fun w' => w'.cell? ⟨w.heap.size, 0, none⟩ = some (.slice (some ⟨b2, o2, none⟩) c.mdl.bats.length ca) ∧ w'.cell? ⟨w.heap.size, 1, none⟩ = some (.slice (some ⟨b3, o3, none⟩) c.mdl.bows.length ca1) ∧ w'.cell? ⟨w.heap.size, 2, none⟩ = some (.slice (some ⟨b1, o1, none⟩) c.bows.length ca2) ∧ w'.cell? ⟨w.heap.size, 6, none⟩ = some (.slice (some ⟨b0, o0, none⟩) c.ord.length ca3) ∧ w'.cell? ⟨w.heap.size + 1, 0, none⟩ = some (.int .i64 (e : Int)) ∧ w'.cell? ⟨w.heap.size + 1, 2, none⟩ = some (.int .i64 (a : Int)) ∧ w'.cell? ⟨b0, o0 + a, none⟩ = some (.int .i64 (i : Int)) ∧ w'.cell? ⟨b1, o1 + e, none⟩ = some (.int .i64 (j : Int)) ∧ w'.cell? ⟨b2, o2 + i * 2 + 1, none⟩ = some v ∧ w'.cell? ⟨b3, o3 + j * 2 + 1, none⟩ = some (.int .i64 n)) (first | exact ⟨x0, x1, x2, x6, t0, t2, u0, u1, u2, u3⟩ | exact ⟨x0, x1, x2, x6, t0, t2, y0, y1, y2, y3⟩ | go_keep) ((go_at_call 157; refine (KS.out _ HXD.out.bel).mono ?_; rintro e4 w4 ⟨v4, rfl, hs4, hb4⟩; obtain ⟨A4, c4, rfl, hc41, hc42⟩ := hs4.shape; have HX4 := Lib.hid (HXD.out.below hb4); obtain ⟨x0, x1, x2, x3, x4, x5, x6, t0, t1, t2, t3, t4⟩ := HX4.out.cells; dsimp only at t0 t1 t2 t3 t4; have u0 := (hb4.cell (p := ⟨b0, o0 + a, none⟩) (Nat.lt_of_lt_of_le B0.out HXD.out.bel.size)).trans y0; have u1 := (hb4.cell (p := ⟨b1, o1 + e, none⟩) (Nat.lt_of_lt_of_le B1.out HXD.out.bel.size)).trans y1; have u2 := (hb4.cell (p := ⟨b2, o2 + i * 2 + 1, none⟩) (Nat.lt_of_lt_of_le B2.out HXD.out.bel.size)).trans y2; have u3 := (hb4.cell (p := ⟨b3, o3 + j * 2 + 1, none⟩) (Nat.lt_of_lt_of_le B3.out HXD.out.bel.size)).trans y3; have HS4 := Lib.hid hs4; clear hs4 hb4))
  all_goals go_wp2
  go_ret
  exact ⟨_, _, _, rfl, HX4.out.bel, HS4.out.keep elOtc_good (Same.refl _ _) fun b h => ⟨Nat.le_trans HXD.out.bel.size h.1, h.2⟩⟩
theorem r44_start_ret {R' : Ending → World → Prop} {a : Act} {w : World} {x0 x1 x2 x3 x4 v : Value} {g : Nat} (h2 : a.tmps[2]? = some (.pointer (some ⟨g, 0, none⟩))) (h3 : a.tmps[3]? = some v) (hb : Blk w g 33 #[x0, x1, x2, x3, x4])
    (hd : a.defers = []) (hR : R' (.returned (.tuple #[.agg #[x0, x1, x2, x3, x4], v])) w) : bodyPost Tryz.prog Tryz.f74 R' .ret a w := by
  have r0 := hb.cell 0
  have r1 := hb.cell 1
  have r2 := hb.cell 2
  have r3 := hb.cell 3
  have r4 := hb.cell 4
  simp only [List.getElem?_toArray, List.getElem?_cons_zero, List.getElem?_cons_succ] at r0 r1 r2 r3 r4
  refine bodyPost_ret (v := .tuple #[.agg #[x0, x1, x2, x3, x4], v]) (by simp [results, Tryz.results74, go_sem, h2, h3, r0, r1, r2, r3, r4]) hd hR
set_option maxRecDepth 100000 in
set_option maxHeartbeats 4000000 in
theorem r44_Start (c : Chs) (bv wv pv ov : Value) (w : World) (h : ChAt w (· < w.heap.size) bv wv pv ov c) :
    Calls Tryz.prog 74 #[chV c bv wv pv ov] w fun e w' => e = .returned (.tuple #[stV (startC c).1, .int .i64 (startC c).2]) ∧ Below w.heap.size w w' := by
  unfold chV
  obtain ⟨z, hz⟩ : ∃ z, z = startC c := ⟨_, rfl⟩
  rw [← hz]
  unfold startC at hz
  have hx := ChB.new w c bv wv pv ov
  have k1 := fun W (hW : Below w.heap.size w W) => r44_Check c _ _ _ _ W (h.below hW)
  unfold chV at k1
  obtain ⟨u, hu⟩ : ∃ u, u = checkC c := ⟨_, rfl⟩
  rw [← hu] at k1 hz
  obtain ⟨A, ca, rfl, hc1, hc2⟩ := h.mdl.bat.shape
  obtain ⟨A1, ca1, rfl, hc3, hc4⟩ := h.mdl.bow.shape
  obtain ⟨A2, ca2, rfl, hc5, hc6⟩ := h.bow.shape
  obtain ⟨A3, ca3, rfl, hc7, hc8⟩ := h.ord.shape
  have HXR := Lib.hid (⟨hx.alloc (.cells #[.int .i64 0, .int .i64 0, .int .i64 0, .int .i64 0, .int .i64 0] 33), by have := Blk.new (w.alloc (.cells #[.slice A c.mdl.bats.length ca, .slice A1 c.mdl.bows.length ca1, .slice A2 c.bows.length ca2, .int .i64 c.over, .int .i64 c.done, .int .i64 c.need, .slice A3 c.ord.length ca3] 28)) 33 #[.int .i64 0, .int .i64 0, .int .i64 0, .int .i64 0, .int .i64 0]; rw [World.size_alloc] at this; exact this⟩ : ChB w ((w.alloc (.cells #[.slice A c.mdl.bats.length ca, .slice A1 c.mdl.bows.length ca1, .slice A2 c.bows.length ca2, .int .i64 c.over, .int .i64 c.done, .int .i64 c.need, .slice A3 c.ord.length ca3] 28)).alloc (.cells #[.int .i64 0, .int .i64 0, .int .i64 0, .int .i64 0, .int .i64 0] 33)) w.heap.size c (.slice A c.mdl.bats.length ca) (.slice A1 c.mdl.bows.length ca1) (.slice A2 c.bows.length ca2) (.slice A3 c.ord.length ca3) ∧ Blk ((w.alloc (.cells #[.slice A c.mdl.bats.length ca, .slice A1 c.mdl.bows.length ca1, .slice A2 c.bows.length ca2, .int .i64 c.over, .int .i64 c.done, .int .i64 c.need, .slice A3 c.ord.length ca3] 28)).alloc (.cells #[.int .i64 0, .int .i64 0, .int .i64 0, .int .i64 0, .int .i64 0] 33)) (w.heap.size + 1) 33 #[.int .i64 0, .int .i64 0, .int .i64 0, .int .i64 0, .int .i64 0])
  have K1 := Lib.hid k1
  clear k1 hu h hx
  by_cases h0 : u = 0
  · rw [if_neg (by omega)] at hz
    have HZ := Lib.hid hz
    have eu : (u != 0) = false := by simp [h0]
    clear hz h0
    go_enter Tryz.func74, Tryz.ntmps74
    go_wp2_with (go_at_call 54; refine (K1.out _ HXR.out.1.bel).mono ?_; rintro e w2 ⟨rfl, hb2⟩; have HX2 := Lib.hid (HXR.out.1.below hb2); have HR2 := Lib.hid (HXR.out.2.below hb2 HXR.out.2.lt); obtain ⟨x0, x1, x2, x3, x4, x5, x6⟩ := HX2.out.cells; have y0 := HR2.out.cell 0; have y1 := HR2.out.cell 1; have y2 := HR2.out.cell 2; have y3 := HR2.out.cell 3; have y4 := HR2.out.cell 4; have g0 := HR2.out.frozen 0; have g1 := HR2.out.frozen 1; have g2 := HR2.out.frozen 2; have g3 := HR2.out.frozen 3; have g4 := HR2.out.frozen 4; simp only [List.getElem?_toArray, List.getElem?_cons_zero, List.getElem?_cons_succ] at y0 y1 y2 y3 y4; clear hb2)
    refine r44_start_ret rfl rfl (HR2.out.put5 _ _ _ _ _) rfl ⟨by rw [HZ.out]; rfl, ?_⟩
    exact below_set5 HX2.out.bel (by omega) _ _ _ _ _
  · rw [if_pos h0] at hz
    have HZ := Lib.hid hz
    have eu : (u != 0) = true := by simp [h0]
    clear hz h0
    go_enter Tryz.func74, Tryz.ntmps74
    go_wp2_with (go_at_call 54; refine (K1.out _ HXR.out.1.bel).mono ?_; rintro e w2 ⟨rfl, hb2⟩; have HX2 := Lib.hid (HXR.out.1.below hb2); have HR2 := Lib.hid (HXR.out.2.below hb2 HXR.out.2.lt); obtain ⟨x0, x1, x2, x3, x4, x5, x6⟩ := HX2.out.cells; have y0 := HR2.out.cell 0; have y1 := HR2.out.cell 1; have y2 := HR2.out.cell 2; have y3 := HR2.out.cell 3; have y4 := HR2.out.cell 4; have g0 := HR2.out.frozen 0; have g1 := HR2.out.frozen 1; have g2 := HR2.out.frozen 2; have g3 := HR2.out.frozen 3; have g4 := HR2.out.frozen 4; simp only [List.getElem?_toArray, List.getElem?_cons_zero, List.getElem?_cons_succ] at y0 y1 y2 y3 y4; clear hb2)
    refine r44_start_ret rfl rfl (HR2.out.put5 _ _ _ _ _) rfl ⟨by rw [HZ.out]; rfl, ?_⟩
    exact below_set5 HX2.out.bel (by omega) _ _ _ _ _
end Go.Proofs.YtfnfbojaiikigaaGreatDoor

namespace Go.Proofs.YtfnfbojaiikigaaGreatDoor
open Go.RowKit

theorem Blk.drewNB {w : World} {g : Nat} {t : TypeId} {cs : Array Value} (h : Blk w g t cs) (n : Nat) : Blk (w.drewN n) g t cs := h
theorem blk_r (w : World) (o1 o2 o3 : Obj) : Blk ((((w.alloc o1).alloc o2).alloc o3).alloc (.cells #[.int .i64 0, .int .i64 0, .int .i64 0, .int .i64 0, .int .i64 0] 33)) (w.heap.size + 1 + 1 + 1) 33 #[.int .i64 0, .int .i64 0, .int .i64 0, .int .i64 0, .int .i64 0] := by
  have h := Blk.new (((w.alloc o1).alloc o2).alloc o3) 33 #[.int .i64 0, .int .i64 0, .int .i64 0, .int .i64 0, .int .i64 0]
  rw [World.size_alloc, World.size_alloc, World.size_alloc] at h
  exact h
theorem blk_rv (w : World) (o1 o2 o3 : Obj) (x0 x1 x2 x3 x4 : Value) : Blk ((((w.alloc o1).alloc o2).alloc o3).alloc (.cells #[x0, x1, x2, x3, x4] 33)) (w.heap.size + 1 + 1 + 1) 33 #[x0, x1, x2, x3, x4] := by
  have h := Blk.new (((w.alloc o1).alloc o2).alloc o3) 33 #[x0, x1, x2, x3, x4]
  rw [World.size_alloc, World.size_alloc, World.size_alloc] at h
  exact h
theorem ne31 (n : Nat) : n + 1 + 1 + 1 ≠ n + 1 := by omega
theorem le3 (n : Nat) : n ≤ n + 1 + 1 + 1 := by omega
theorem le1 (n : Nat) : n ≤ n + 1 := by omega
theorem blk_far1 {W : World} {n : Nat} {t : TypeId} {cs : Array Value} (h : Blk W (n + 1 + 1 + 1) t cs) (i : Nat) (u : Value) : Blk (W.setCell ⟨n + 1, i, none⟩ u) (n + 1 + 1 + 1) t cs := h.far (ne31 n) u
theorem below_far1 {W a : World} {n : Nat} (h : Below n a W) (i : Nat) (u : Value) : Below n a (W.setCell ⟨n + 1, i, none⟩ u) := Below.setCell h (le1 n) u
theorem blk_swap {W : World} {n : Nat} {t : TypeId} {cs : Array Value} (h : Blk W (n + 1 + 1 + 1) t cs) (i j : Nat) (u v : Value) : Blk ((W.setCell ⟨n + 1, i, none⟩ u).setCell ⟨n + 1, j, none⟩ v) (n + 1 + 1 + 1) t cs := (h.far (ne31 n) u).far (ne31 n) v
theorem below_swap {W a : World} {n : Nat} (h : Below n a W) (i j : Nat) (u v : Value) : Below n a ((W.setCell ⟨n + 1, i, none⟩ u).setCell ⟨n + 1, j, none⟩ v) := Below.setCell (Below.setCell h (le1 n) u) (le1 n) v
theorem below_r (w : World) (o1 o2 o3 o4 : Obj) : Below w.heap.size w ((((w.alloc o1).alloc o2).alloc o3).alloc o4) :=
  Below.alloc (Below.alloc (Below.alloc (Below.alloc (Below.refl _ _) (Nat.le_refl _) o1) (by simp) o2) (by simp; omega) o3) (by simp; omega) o4
theorem ch44_step_ret {R' : Ending → World → Prop} {a : Act} {w : World} {x0 x1 x2 x3 x4 : Value} {g : Nat} (h2 : a.tmps[6]? = some (.pointer (some ⟨g, 0, none⟩))) (hb : Blk w g 33 #[x0, x1, x2, x3, x4])
    (hd : a.defers = []) (hR : R' (.returned (.agg #[x0, x1, x2, x3, x4])) w) : bodyPost Tryz.prog Tryz.f51 R' .ret a w := by
  have r0 := hb.cell 0
  have r1 := hb.cell 1
  have r2 := hb.cell 2
  have r3 := hb.cell 3
  have r4 := hb.cell 4
  simp only [List.getElem?_toArray, List.getElem?_cons_zero, List.getElem?_cons_succ] at r0 r1 r2 r3 r4
  refine bodyPost_ret (v := .agg #[x0, x1, x2, x3, x4]) (by simp [results, Tryz.results51, go_sem, h2, r0, r1, r2, r3, r4]) hd hR
set_option maxRecDepth 100000 in
set_option maxHeartbeats 4000000 in
theorem ch44_step (c : Chs) (s : Cst) (o : Otc) (A A1 A2 A3 : Option Addr) (ca ca1 ca2 ca3 : Nat) (w : World) (hc : OkC c) (hs : OkS c s) (h1 : stC c s = 1) (hr : 0 ≤ o.runs ∧ o.runs ≤ 7) :
    Calls Tryz.prog 51 #[.agg #[.slice A c.mdl.bats.length ca, .slice A1 c.mdl.bows.length ca1, .slice A2 c.bows.length ca2, .int .i64 c.over, .int .i64 c.done, .int .i64 c.need, .slice A3 c.ord.length ca3], stV s, .agg #[.int .i64 o.runs, .bool o.wick, .int .i64 o.wt]] w fun e w' => e = .returned (stV (stepC c s o)) ∧ Below w.heap.size w w' := by
  obtain ⟨z, hz⟩ : ∃ z, z = stepC c s o := ⟨_, rfl⟩
  rw [← hz]
  unfold stepC at hz
  obtain ⟨ball, need, str, par, nxt⟩ := s
  obtain ⟨pr, pw, pt⟩ := o
  unfold stV
  dsimp only at hr hz ⊢
  have b1 := hs.ball
  have b2 := hs.need
  have b3 := hs.nxt
  have b4 := hs.str
  have b5 := hs.par
  have b6 := hc.nb
  have b7 := hc.need
  have b8 := hc.no
  have b9 := hc.over
  have b10 := hc.done
  have hst := (left_run hs h1).2.1
  dsimp only at b1 b2 b3 b4 b5 hst
  obtain ⟨m, hm⟩ : ∃ m, max (need - pr) 0 = m := ⟨_, rfl⟩
  have hm2 : max 0 (need - pr) = m := by rw [← hm]; omega
  have hm3 : 0 ≤ m ∧ m ≤ 84 := by omega
  rw [hm] at hz
  have hsw : swapC c (ball + 1) ⟨pr, pw, pt⟩ = (decide (pr % 2 = 1) != decide ((c.done + (ball + 1)) % c.over = 0)) := rfl
  have e1 : (pr % 2 == 1) = decide (pr % 2 = 1) := by by_cases h : pr % 2 = 1 <;> simp [h]
  have e2 : ((c.done + (ball + 1)) % c.over == 0) = decide ((c.done + (ball + 1)) % c.over = 0) := by by_cases h : (c.done + (ball + 1)) % c.over = 0 <;> simp [h]
  rw [hsw] at hz
  obtain ⟨x1, hx1⟩ : ∃ x, x = decide (pr % 2 = 1) := ⟨_, rfl⟩
  obtain ⟨x2, hx2⟩ : ∃ x, x = decide ((c.done + (ball + 1)) % c.over = 0) := ⟨_, rfl⟩
  rw [← hx1] at e1 hz
  rw [← hx2] at e2 hz
  obtain ⟨over, hov⟩ : ∃ x, x = c.over := ⟨_, rfl⟩
  obtain ⟨done, hdo⟩ : ∃ x, x = c.done := ⟨_, rfl⟩
  rw [← hov, ← hdo] at e2 ⊢
  rw [← hov] at b9
  rw [← hdo, ← hov] at b10
  obtain ⟨c1, c2⟩ := b1
  obtain ⟨c3, c4⟩ := b2
  obtain ⟨c5, c6⟩ := b3
  obtain ⟨c7, c8⟩ := b4
  obtain ⟨c9, c10⟩ := b5
  obtain ⟨c11, c12⟩ := b6
  obtain ⟨c13, c14⟩ := b7
  obtain ⟨c15, c16⟩ := b8
  obtain ⟨c17, c18⟩ := b9
  obtain ⟨c19, c20⟩ := b10
  obtain ⟨c21, c22⟩ := hr
  obtain ⟨c23, c24⟩ := hm3
  have d0 : (str == -1) = false := beq_eq_false_iff_ne.2 (by omega)
  clear hx1 hx2 hov hdo hsw hs hc h1
  cases pw
  · rw [if_neg (by simp)] at hz
    cases x1 <;> cases x2 <;> simp only [bne_self_eq_false, if_true, if_false, Bool.false_eq_true, Bool.bne_false, Bool.bne_true, Bool.not_false, Bool.not_true] at hz
    all_goals
      have HZ := Lib.hid hz
      clear hz
      go_enter Tryz.func51, Tryz.ntmps51
      go_wp2
      go_quiet (fail)
      go_wp2
      apply ch44_step_ret (g := w.heap.size + 1 + 1 + 1) (h2 := rfl) (hd := rfl)
      case hb =>
        first
          | with_reducible exact blk_rv _ _ _ _ _ _ _ _ _
          | (with_reducible apply Blk.put5
             repeat (first | with_reducible refine Blk.drewNB ?_ _ | with_reducible refine blk_far1 ?_ _ _)
             with_reducible exact blk_r _ _ _ _)
      case hR =>
        refine ⟨by rw [HZ.out], ?_⟩
        first
          | with_reducible exact below_r _ _ _ _ _
          | (with_reducible refine below_set5 ?_ (le3 _) _ _ _ _ _
             repeat (first | with_reducible refine Below.drewN_ ?_ _ | with_reducible refine below_far1 ?_ _ _)
             with_reducible exact below_r _ _ _ _ _)
  · rw [if_pos rfl] at hz
    by_cases hn : nxt = (c.ord.length : Int)
    · rw [if_pos hn] at hz
      have en : (nxt == (c.ord.length : Int)) = true := beq_iff_eq.2 hn
      have en2 : ¬ nxt < (c.ord.length : Int) := by omega
      have HZ := Lib.hid hz
      clear hz hn
      cases x1 <;> cases x2
      all_goals
        go_enter Tryz.func51, Tryz.ntmps51
        go_wp2
        apply ch44_step_ret (g := w.heap.size + 1 + 1 + 1) (h2 := rfl) (hd := rfl)
        case hb =>
          first
            | with_reducible exact blk_rv _ _ _ _ _ _ _ _ _
            | (with_reducible apply Blk.put5
               repeat (first | with_reducible refine Blk.drewNB ?_ _ | with_reducible refine blk_far1 ?_ _ _)
               with_reducible exact blk_r _ _ _ _)
        case hR =>
          refine ⟨by rw [HZ.out], ?_⟩
          first
            | with_reducible exact below_r _ _ _ _ _
            | (with_reducible refine below_set5 ?_ (le3 _) _ _ _ _ _
               repeat (first | with_reducible refine Below.drewN_ ?_ _ | with_reducible refine below_far1 ?_ _ _)
               with_reducible exact below_r _ _ _ _ _)
    · rw [if_neg hn] at hz
      have en : (nxt == (c.ord.length : Int)) = false := beq_eq_false_iff_ne.2 hn
      have en2 : nxt < (c.ord.length : Int) := by omega
      cases x1 <;> cases x2 <;> simp only [bne_self_eq_false, if_true, if_false, Bool.false_eq_true, Bool.bne_false, Bool.bne_true, Bool.not_false, Bool.not_true] at hz
      all_goals
        have HZ := Lib.hid hz
        clear hz hn
        go_enter Tryz.func51, Tryz.ntmps51
        go_wp2
        go_quiet (fail)
        go_wp2
        apply ch44_step_ret (g := w.heap.size + 1 + 1 + 1) (h2 := rfl) (hd := rfl)
        case hb =>
          first
            | with_reducible exact blk_rv _ _ _ _ _ _ _ _ _
            | (with_reducible apply Blk.put5
               repeat (first | with_reducible refine Blk.drewNB ?_ _ | with_reducible refine blk_far1 ?_ _ _)
               with_reducible exact blk_r _ _ _ _)
        case hR =>
          refine ⟨by rw [HZ.out], ?_⟩
          first
            | with_reducible exact below_r _ _ _ _ _
            | (with_reducible refine below_set5 ?_ (le3 _) _ _ _ _ _
               repeat (first | with_reducible refine Below.drewN_ ?_ _ | with_reducible refine below_far1 ?_ _ _)
               with_reducible exact below_r _ _ _ _ _)

theorem r44_after_ret {R' : Ending → World → Prop} {a : Act} {w : World} {x0 x1 x2 x3 x4 : Value} {g : Nat} (h2 : a.tmps[6]? = some (.pointer (some ⟨g, 0, none⟩))) (hb : Blk w g 33 #[x0, x1, x2, x3, x4])
    (hd : a.defers = []) (hR : R' (.returned (.agg #[x0, x1, x2, x3, x4])) w) : bodyPost Tryz.prog Tryz.f138 R' .ret a w := by
  have r0 := hb.cell 0
  have r1 := hb.cell 1
  have r2 := hb.cell 2
  have r3 := hb.cell 3
  have r4 := hb.cell 4
  simp only [List.getElem?_toArray, List.getElem?_cons_zero, List.getElem?_cons_succ] at r0 r1 r2 r3 r4
  refine bodyPost_ret (v := .agg #[x0, x1, x2, x3, x4]) (by simp [results, Tryz.results138, go_sem, h2, r0, r1, r2, r3, r4]) hd hR
set_option maxRecDepth 100000 in
set_option maxHeartbeats 4000000 in
theorem r44_after (c : Chs) (s : Cst) (o : Otc) (A A1 A2 A3 : Option Addr) (ca ca1 ca2 ca3 : Nat) (w : World) (hc : OkC c) (hs : OkS c s) (h1 : stC c s = 1) (hr : 0 ≤ o.runs ∧ o.runs ≤ 7) :
    Calls Tryz.prog 138 #[.agg #[.slice A c.mdl.bats.length ca, .slice A1 c.mdl.bows.length ca1, .slice A2 c.bows.length ca2, .int .i64 c.over, .int .i64 c.done, .int .i64 c.need, .slice A3 c.ord.length ca3], stV s, .agg #[.int .i64 o.runs, .bool o.wick, .int .i64 o.wt]] w fun e w' => e = .returned (stV (stepC c s o)) ∧ Below w.heap.size w w' := by
  obtain ⟨z, hz⟩ : ∃ z, z = stepC c s o := ⟨_, rfl⟩
  rw [← hz]
  unfold stepC at hz
  obtain ⟨ball, need, str, par, nxt⟩ := s
  obtain ⟨pr, pw, pt⟩ := o
  unfold stV
  dsimp only at hr hz ⊢
  have b1 := hs.ball
  have b2 := hs.need
  have b3 := hs.nxt
  have b4 := hs.str
  have b5 := hs.par
  have b6 := hc.nb
  have b7 := hc.need
  have b8 := hc.no
  have b9 := hc.over
  have b10 := hc.done
  have hst := (left_run hs h1).2.1
  dsimp only at b1 b2 b3 b4 b5 hst
  obtain ⟨m, hm⟩ : ∃ m, max (need - pr) 0 = m := ⟨_, rfl⟩
  have hm2 : max 0 (need - pr) = m := by rw [← hm]; omega
  have hm3 : 0 ≤ m ∧ m ≤ 84 := by omega
  rw [hm] at hz
  have hsw : swapC c (ball + 1) ⟨pr, pw, pt⟩ = (decide (pr % 2 = 1) != decide ((c.done + (ball + 1)) % c.over = 0)) := rfl
  have e1 : (pr % 2 == 1) = decide (pr % 2 = 1) := by by_cases h : pr % 2 = 1 <;> simp [h]
  have e2 : ((c.done + (ball + 1)) % c.over == 0) = decide ((c.done + (ball + 1)) % c.over = 0) := by by_cases h : (c.done + (ball + 1)) % c.over = 0 <;> simp [h]
  rw [hsw] at hz
  obtain ⟨x1, hx1⟩ : ∃ x, x = decide (pr % 2 = 1) := ⟨_, rfl⟩
  obtain ⟨x2, hx2⟩ : ∃ x, x = decide ((c.done + (ball + 1)) % c.over = 0) := ⟨_, rfl⟩
  rw [← hx1] at e1 hz
  rw [← hx2] at e2 hz
  obtain ⟨over, hov⟩ : ∃ x, x = c.over := ⟨_, rfl⟩
  obtain ⟨done, hdo⟩ : ∃ x, x = c.done := ⟨_, rfl⟩
  rw [← hov, ← hdo] at e2 ⊢
  rw [← hov] at b9
  rw [← hdo, ← hov] at b10
  obtain ⟨c1, c2⟩ := b1
  obtain ⟨c3, c4⟩ := b2
  obtain ⟨c5, c6⟩ := b3
  obtain ⟨c7, c8⟩ := b4
  obtain ⟨c9, c10⟩ := b5
  obtain ⟨c11, c12⟩ := b6
  obtain ⟨c13, c14⟩ := b7
  obtain ⟨c15, c16⟩ := b8
  obtain ⟨c17, c18⟩ := b9
  obtain ⟨c19, c20⟩ := b10
  obtain ⟨c21, c22⟩ := hr
  obtain ⟨c23, c24⟩ := hm3
  have d0 : (str == -1) = false := beq_eq_false_iff_ne.2 (by omega)
  clear hx1 hx2 hov hdo hsw hs hc h1
  cases pw
  · rw [if_neg (by simp)] at hz
    cases x1 <;> cases x2 <;> simp only [bne_self_eq_false, if_true, if_false, Bool.false_eq_true, Bool.bne_false, Bool.bne_true, Bool.not_false, Bool.not_true] at hz
    all_goals
      have HZ := Lib.hid hz
      clear hz
      go_enter Tryz.func138, Tryz.ntmps138
      go_wp2
      apply r44_after_ret (g := w.heap.size + 1 + 1 + 1) (h2 := rfl) (hd := rfl)
      case hb =>
        first
          | with_reducible exact blk_rv _ _ _ _ _ _ _ _ _
          | (with_reducible apply Blk.put5
             repeat (first | with_reducible refine Blk.drewNB ?_ _ | with_reducible refine blk_far1 ?_ _ _)
             with_reducible exact blk_r _ _ _ _)
      case hR =>
        refine ⟨by rw [HZ.out], ?_⟩
        first
          | with_reducible exact below_r _ _ _ _ _
          | (with_reducible refine below_set5 ?_ (le3 _) _ _ _ _ _
             repeat (first | with_reducible refine Below.drewN_ ?_ _ | with_reducible refine below_far1 ?_ _ _)
             with_reducible exact below_r _ _ _ _ _)
  · rw [if_pos rfl] at hz
    by_cases hn : nxt = (c.ord.length : Int)
    · rw [if_pos hn] at hz
      have en : (nxt == (c.ord.length : Int)) = true := beq_iff_eq.2 hn
      have en2 : ¬ nxt < (c.ord.length : Int) := by omega
      have HZ := Lib.hid hz
      clear hz hn
      cases x1 <;> cases x2
      all_goals
        go_enter Tryz.func138, Tryz.ntmps138
        go_wp2
        apply r44_after_ret (g := w.heap.size + 1 + 1 + 1) (h2 := rfl) (hd := rfl)
        case hb =>
          first
            | with_reducible exact blk_rv _ _ _ _ _ _ _ _ _
            | (with_reducible apply Blk.put5
               repeat (first | with_reducible refine Blk.drewNB ?_ _ | with_reducible refine blk_far1 ?_ _ _)
               with_reducible exact blk_r _ _ _ _)
        case hR =>
          refine ⟨by rw [HZ.out], ?_⟩
          first
            | with_reducible exact below_r _ _ _ _ _
            | (with_reducible refine below_set5 ?_ (le3 _) _ _ _ _ _
               repeat (first | with_reducible refine Below.drewN_ ?_ _ | with_reducible refine below_far1 ?_ _ _)
               with_reducible exact below_r _ _ _ _ _)
    · rw [if_neg hn] at hz
      have en : (nxt == (c.ord.length : Int)) = false := beq_eq_false_iff_ne.2 hn
      have en2 : nxt < (c.ord.length : Int) := by omega
      cases x1 <;> cases x2 <;> simp only [bne_self_eq_false, if_true, if_false, Bool.false_eq_true, Bool.bne_false, Bool.bne_true, Bool.not_false, Bool.not_true] at hz
      all_goals
        have HZ := Lib.hid hz
        clear hz hn
        go_enter Tryz.func138, Tryz.ntmps138
        go_wp2
        apply r44_after_ret (g := w.heap.size + 1 + 1 + 1) (h2 := rfl) (hd := rfl)
        case hb =>
          first
            | with_reducible exact blk_rv _ _ _ _ _ _ _ _ _
            | (with_reducible apply Blk.put5
               repeat (first | with_reducible refine Blk.drewNB ?_ _ | with_reducible refine blk_far1 ?_ _ _)
               with_reducible exact blk_r _ _ _ _)
        case hR =>
          refine ⟨by rw [HZ.out], ?_⟩
          first
            | with_reducible exact below_r _ _ _ _ _
            | (with_reducible refine below_set5 ?_ (le3 _) _ _ _ _ _
               repeat (first | with_reducible refine Below.drewN_ ?_ _ | with_reducible refine below_far1 ?_ _ _)
               with_reducible exact below_r _ _ _ _ _)

end Go.Proofs.YtfnfbojaiikigaaGreatDoor

namespace Go.Proofs.YtfnfbojaiikigaaGreatDoor
open Go.RowKit

set_option maxRecDepth 100000 in
set_option maxHeartbeats 4000000 in
theorem ch44_power (c : Chs) (s : Cst) (bv wv pv ov : Value) (w : World) (h : ChAt w (· < w.heap.size) bv wv pv ov c) (hc : OkC c) (hs : OkS c s) :
    Calls Tryz.prog 89 #[chV c bv wv pv ov, stV s] w fun e w' => e = .returned (.int .i64 (pow16 (leftC c s))) ∧ Below w.heap.size w w' := by
  unfold chV stV
  obtain ⟨ball, need, str, par, nxt⟩ := s
  obtain ⟨A, ca, rfl, hc1, hc2⟩ := h.mdl.bat.shape
  obtain ⟨A1, ca1, rfl, hc3, hc4⟩ := h.mdl.bow.shape
  obtain ⟨A2, ca2, rfl, hc5, hc6⟩ := h.bow.shape
  obtain ⟨A3, ca3, rfl, hc7, hc8⟩ := h.ord.shape
  have hx := CSB.new w c (.slice A c.mdl.bats.length ca) (.slice A1 c.mdl.bows.length ca1) (.slice A2 c.bows.length ca2) (.slice A3 c.ord.length ca3) ⟨ball, need, str, par, nxt⟩
  have HX := Lib.hid hx
  have HM := Lib.hid h
  obtain ⟨n, hn⟩ : ∃ n, n = leftC c ⟨ball, need, str, par, nxt⟩ := ⟨_, rfl⟩
  have hn12 := left_le hc hs
  rw [← hn] at hn12
  have hb := hs.ball
  dsimp only at hb
  have hbn : (c.bows.length : Int) - ball = (n : Int) := by rw [hn]; unfold leftC; dsimp only; omega
  rw [← hn]
  obtain ⟨z, hz⟩ : ∃ z, z = pow16 n := ⟨_, rfl⟩
  rw [← hz]
  have hnb := hc.nb
  obtain ⟨hb1, hb2⟩ := hb
  obtain ⟨hnb1, hnb2⟩ := hnb
  clear hs hc hn hx h
  have hcase : n = 0 ∨ n = 1 ∨ n = 2 ∨ n = 3 ∨ n = 4 ∨ n = 5 ∨ n = 6 ∨ n = 7 ∨ n = 8 ∨ n = 9 ∨ n = 10 ∨ n = 11 ∨ n = 12 := by omega
  clear hn12
  rcases hcase with rfl | rfl | rfl | rfl | rfl | rfl | rfl | rfl | rfl | rfl | rfl | rfl | rfl
  all_goals
    have HZ := Lib.hid hz
    have hq := hbn
    simp only [Int.natCast_zero, Int.natCast_one, Int.cast_ofNat_Int] at hq
    clear hz hbn
    go_enter Tryz.func89, Tryz.ntmps89
    go_wp2
    go_ret
    exact ⟨ret_i (by rw [HZ.out]; first | rfl | decide), HX.out.bel⟩
set_option maxRecDepth 100000 in
set_option maxHeartbeats 4000000 in
theorem r44_ended (c : Chs) (s : Cst) (bv wv pv ov : Value) (w : World) (h : ChAt w (· < w.heap.size) bv wv pv ov c) (hc : OkC c) (hs : OkS c s) :
    Calls Tryz.prog 136 #[chV c bv wv pv ov, stV s] w fun e w' => e = .returned (.int .i64 (if stC c s = 2 then pow16 (leftC c s) else 0)) ∧ Below w.heap.size w w' := by
  unfold chV stV
  obtain ⟨ball, need, str, par, nxt⟩ := s
  obtain ⟨A, ca, rfl, hc1, hc2⟩ := h.mdl.bat.shape
  obtain ⟨A1, ca1, rfl, hc3, hc4⟩ := h.mdl.bow.shape
  obtain ⟨A2, ca2, rfl, hc5, hc6⟩ := h.bow.shape
  obtain ⟨A3, ca3, rfl, hc7, hc8⟩ := h.ord.shape
  have hx := CSB.new w c (.slice A c.mdl.bats.length ca) (.slice A1 c.mdl.bows.length ca1) (.slice A2 c.bows.length ca2) (.slice A3 c.ord.length ca3) ⟨ball, need, str, par, nxt⟩
  have HX := Lib.hid hx
  have HM := Lib.hid h
  obtain ⟨n, hn⟩ : ∃ n, n = leftC c ⟨ball, need, str, par, nxt⟩ := ⟨_, rfl⟩
  have hn12 := left_le hc hs
  rw [← hn] at hn12
  have hb := hs.ball
  dsimp only at hb
  have hbn : (c.bows.length : Int) - ball = (n : Int) := by rw [hn]; unfold leftC; dsimp only; omega
  rw [← hn]
  have k1 := fun W (hW : Below w.heap.size w W) => r44_status c ⟨ball, need, str, par, nxt⟩ _ _ _ _ W (HM.out.below hW) hs
  unfold chV stV at k1
  dsimp only at k1
  have k2 := fun W => ref_Unit (n : Int) W
  have hu : unitS (n : Int) = (pow16 n, 0) := by unfold unitS; rw [if_neg (by omega), Int.toNat_natCast, pow16_unit]
  rw [hu] at k2
  rw [← hbn] at k2
  obtain ⟨v, hv⟩ : ∃ v, v = stC c ⟨ball, need, str, par, nxt⟩ := ⟨_, rfl⟩
  rw [← hv] at k1 ⊢
  have K1 := Lib.hid k1
  have K2 := Lib.hid k2
  have hnb := hc.nb
  obtain ⟨hb1, hb2⟩ := hb
  obtain ⟨hnb1, hnb2⟩ := hnb
  have tok0 : True := trivial
  clear k1 k2 hs hc hn hx h hu hv hbn hn12
  by_cases h2 : v = 2
  · rw [if_pos h2]
    have e2 : (v == 2) = true := beq_iff_eq.2 h2
    clear h2
    go_enter Tryz.func136, Tryz.ntmps136
    go_wp2_with (first
      | (clear tok0; go_at_call 135; refine (K1.out _ HX.out.bel).mono ?_; rintro e w2 ⟨rfl, hb2'⟩; have HX2 := Lib.hid (HX.out.below hb2'); obtain ⟨x0, x1, x2, x3, x4, x5, x6, y0, y1, y2, y3, y4⟩ := HX2.out.cells; dsimp only at y0 y1 y2 y3 y4; clear hb2'; have tok1 : True := trivial)
      | (clear tok1; go_at_call 107; refine (K2.out _).mono ?_; rintro e w3 ⟨rfl, rfl⟩; have tok2 : True := trivial))
    go_ret
    exact ⟨rfl, HX2.out.bel⟩
  · rw [if_neg h2]
    have e2 : (v == 2) = false := beq_eq_false_iff_ne.2 h2
    clear h2
    go_enter Tryz.func136, Tryz.ntmps136
    go_wp2_with (clear tok0; go_at_call 135; refine (K1.out _ HX.out.bel).mono ?_; rintro e w2 ⟨rfl, hb2'⟩; have HX2 := Lib.hid (HX.out.below hb2'); obtain ⟨x0, x1, x2, x3, x4, x5, x6, y0, y1, y2, y3, y4⟩ := HX2.out.cells; dsimp only at y0 y1 y2 y3 y4; clear hb2'; have tok1 : True := trivial)
    go_ret
    exact ⟨rfl, HX2.out.bel⟩
end Go.Proofs.YtfnfbojaiikigaaGreatDoor

namespace Go.Proofs.YtfnfbojaiikigaaGreatDoor
open Go.RowKit Go.Maps

/-- A chase and a state boxed, a map of values beside them. -/
structure Sol (w W : World) (b N : Nat) (c : Chs) (bv wv pv ov : Value) (s : Cst) : Prop where
  only : Only b w W
  box : Blk W w.heap.size 28 #[bv, wv, pv, .int .i64 c.over, .int .i64 c.done, .int .i64 c.need, ov]
  st : Blk W (w.heap.size + 1) 33 #[.int .i64 s.ball, .int .i64 s.need, .int .i64 s.str, .int .i64 s.par, .int .i64 s.nxt]
  blt : b < w.heap.size
  vals : ∃ D, Vals W b N D ∧ Known c D
section
variable {w W W' : World} {b N N' : Nat} {c : Chs} {bv wv pv ov : Value} {s : Cst}
theorem vals_below {D : DataW Unit} (h : Vals W b N D) (hb : Below W.heap.size W W') : Vals W' b N D := h.kept (Only.of_below (g := b + 1) hb) (by simp)
theorem Sol.below (h : Sol w W b N c bv wv pv ov s) (hb : Below W.heap.size W W') : Sol w W' b N c bv wv pv ov s :=
  ⟨h.only.trans (Only.of_below hb), h.box.below hb h.box.lt, h.st.below hb h.st.lt, h.blt, let ⟨D, h1, h2⟩ := h.vals; ⟨D, vals_below h1 hb, h2⟩⟩
theorem Sol.alloc (h : Sol w W b N c bv wv pv ov s) (o : Obj) : Sol w (W.alloc o) b N c bv wv pv ov s := h.below (Below.alloc (Below.refl _ _) (Nat.le_refl _) o)
theorem Sol.drew (h : Sol w W b N c bv wv pv ov s) : Sol w W.drew b N c bv wv pv ov s := h.below (Below.drew (Below.refl _ _))
theorem Sol.into (h : Sol w W b N c bv wv pv ov s) (ho : Only b W W') (hv : ∃ D, Vals W' b N' D ∧ Known c D) : Sol w W' b N' c bv wv pv ov s :=
  ⟨h.only.trans ho, h.box.grown ho (by intro e; injection e with e; have := h.blt; omega), h.st.grown ho (by intro e; injection e with e; have := h.blt; omega), h.blt, hv⟩
theorem Sol.cells (h : Sol w W b N c bv wv pv ov s) : W.cell? ⟨w.heap.size, 0, none⟩ = some bv ∧ W.cell? ⟨w.heap.size, 1, none⟩ = some wv ∧ W.cell? ⟨w.heap.size, 2, none⟩ = some pv ∧ W.cell? ⟨w.heap.size, 3, none⟩ = some (.int .i64 c.over) ∧ W.cell? ⟨w.heap.size, 4, none⟩ = some (.int .i64 c.done) ∧ W.cell? ⟨w.heap.size, 5, none⟩ = some (.int .i64 c.need) ∧ W.cell? ⟨w.heap.size, 6, none⟩ = some ov ∧
    W.cell? ⟨w.heap.size + 1, 0, none⟩ = some (.int .i64 s.ball) ∧ W.cell? ⟨w.heap.size + 1, 1, none⟩ = some (.int .i64 s.need) ∧ W.cell? ⟨w.heap.size + 1, 2, none⟩ = some (.int .i64 s.str) ∧ W.cell? ⟨w.heap.size + 1, 3, none⟩ = some (.int .i64 s.par) ∧ W.cell? ⟨w.heap.size + 1, 4, none⟩ = some (.int .i64 s.nxt) :=
  ⟨h.box.cell 0, h.box.cell 1, h.box.cell 2, h.box.cell 3, h.box.cell 4, h.box.cell 5, h.box.cell 6, h.st.cell 0, h.st.cell 1, h.st.cell 2, h.st.cell 3, h.st.cell 4⟩
theorem Sol.new {D : DataW Unit} (h1 : Vals w b N D) (h2 : Known c D) : Sol w ((w.alloc (.cells #[bv, wv, pv, .int .i64 c.over, .int .i64 c.done, .int .i64 c.need, ov] 28)).alloc (.cells #[.int .i64 s.ball, .int .i64 s.need, .int .i64 s.str, .int .i64 s.par, .int .i64 s.nxt] 33)) b N c bv wv pv ov s :=
  let hx := CSB.new w c bv wv pv ov s
  ⟨Only.of_below hx.bel, hx.box, hx.st, h1.lt, D, vals_below h1 hx.bel, h2⟩
end
/-- A list that lies in blocks other than b. -/
theorem sl_only {W W' : World} {b : Nat} {v : Value} {l : List Otc} (h : Sl 3 elOtc W (fun x => x < W.heap.size ∧ x ≠ b) v l) (ho : Only b W W') : Sl 3 elOtc W' (fun x => x < W'.heap.size ∧ x ≠ b) v l :=
  h.keep elOtc_good (ho.same fun x hx => hx) fun x hx => ⟨Nat.lt_of_lt_of_le hx.1 ho.size, hx.2⟩
/-- What a function that values states does. -/
def SolveAt (f : FuncId) (c : Chs) (n : Nat) : Prop := ∀ (s : Cst), leftC c s = n → OkS c s → ∀ (bv wv pv ov : Value) (F : Nat → Prop) (b N : Nat) (D : DataW Unit) (w : World), ChAt w F bv wv pv ov c → (∀ x, F x → x < w.heap.size ∧ x ≠ b) → Vals w b N D → Known c D → N + cntV n ≤ 2000000000000000000 →
  Calls Tryz.prog f #[chV c bv wv pv ov, stV s, .map (some b)] w fun e w' => e = .returned (.int .i64 (valS c s)) ∧ Only b w w' ∧ ∃ D', Vals w' b (N + cntV n) D' ∧ Known c D'
theorem sum_step {c : Chs} {s : Cst} {k : Nat} {sm : Int} (hk : k < (mvC c s).length) (h : sm = sumI (((mvC c s).take k).map fun o => o.wt * valS c (stepC c s o))) :
    sm + (mvC c s)[k].wt * valS c (stepC c s (mvC c s)[k]) = sumI (((mvC c s).take (k + 1)).map fun o => o.wt * valS c (stepC c s o)) := by
  rw [h, sum_take (fun o : Otc => o.wt * valS c (stepC c s o)) hk]
theorem prod_bd {x y : Int} {n : Nat} (hn : n ≤ 11) (hx : 1 ≤ x ∧ x ≤ 16) (hy : 0 ≤ y ∧ y ≤ pow16 n) : 0 ≤ x * y ∧ x * y ≤ 281474976710656 := by
  have h1 : pow16 n ≤ 17592186044416 := by
    have h2 := (pow16_le (n := n + 1) (by omega)).2
    rw [pow16] at h2; omega
  refine ⟨Int.mul_nonneg (by omega) hy.1, ?_⟩
  have := Int.mul_le_mul hx.2 (Int.le_trans hy.2 h1) hy.1 (by omega)
  omega
set_option maxRecDepth 100000 in
set_option maxHeartbeats 8000000 in
theorem ch44_solve_at (c : Chs) (hc : OkC c) (n : Nat) (ih : ∀ k, n = k + 1 → SolveAt 46 c k) : SolveAt 46 c n := by
  intro s hl hs bv wv pv ov F b N D w h hF hown hkn hN
  have hkey := key_of (hs.smol hc)
  have hn12 := left_le hc hs
  rw [hl] at hn12
  obtain ⟨z, hz⟩ : ∃ z, z = valS c s := ⟨_, rfl⟩
  have hbd := valS_bd hc hs
  rw [hl] at hbd
  have hp16 := pow16_le hn12
  have hz0 : 0 ≤ z ∧ z ≤ 281474976710656 := by rw [hz]; omega
  have hit : Maps.has D (keyS s) = true → D.atKey (keyS s) (.lit (.int .i64 0)) = .lit (.int .i64 z) := fun hh => by rw [hz]; exact hkn s hs hh
  have hput : ∀ (D2 : DataW Unit), Known c D2 → IsMap D2 → Known c (D2.put (keyS s) (.lit (.int .i64 z))) := fun D2 h1 h2 => by rw [hz]; exact h1.put h2 hc hs
  have hsol : Sol w _ b N c bv wv pv ov s := Sol.new hown hkn
  have kst := fun W (hW : Only b w W) => ch44_status c s bv wv pv ov W ((h.keep (hW.same hF) fun x hx => Nat.lt_of_lt_of_le (hF x hx).1 hW.size)) hs
  have kmv := fun (h1 : stC c s = 1) W (hW : Only b w W) => ch44_moves c s bv wv pv ov W ((h.keep (hW.same hF) fun x hx => Nat.lt_of_lt_of_le (hF x hx).1 hW.size)) hc hs h1
  have ken := fun W (hW : Only b w W) => ch44_power c s bv wv pv ov W ((h.keep (hW.same hF) fun x hx => Nat.lt_of_lt_of_le (hF x hx).1 hW.size)) hc hs
  have hend : stC c s ≠ 1 → (if stC c s = 2 then pow16 (leftC c s) else 0) = z := fun h1 => by
    have := stC_bd c s
    rw [hz]
    by_cases h2 : stC c s = 2
    · rw [if_pos h2, valS_won h2]
    · rw [if_neg h2, valS_lost hs (by omega)]
  have HA := Lib.hid h
  have HF := Lib.hid hF
  have HKN := Lib.hid hkn
  rw [← hz]
  clear hbd hp16
  obtain ⟨A, ca, rfl, hc1, hc2⟩ := h.mdl.bat.shape
  obtain ⟨A1, ca1, rfl, hc3, hc4⟩ := h.mdl.bow.shape
  obtain ⟨A2, ca2, rfl, hc5, hc6⟩ := h.bow.shape
  obtain ⟨A3, ca3, rfl, hc7, hc8⟩ := h.ord.shape
  unfold chV stV at kst kmv ken ⊢
  unfold stV at hkey
  have HSOL := Lib.hid hsol
  have HKEY := Lib.hid hkey
  have HV2 := Lib.hid (vals_below hown (CSB.new w c (.slice A c.mdl.bats.length ca) (.slice A1 c.mdl.bows.length ca1) (.slice A2 c.bows.length ca2) (.slice A3 c.ord.length ca3) s).bel)
  have HPUT := Lib.hid hput
  clear hsol hkey h hF hown hput
  obtain ⟨y0, y1, y2, y3, y4, y5, y6, t0, t1, t2, t3, t4⟩ := HSOL.out.cells
  clear y0 y1 y2 y3 y4 y5 y6 t0 t1 t2 t3 t4
  cases hh : Maps.has D (keyS s)
  case true =>
    have HIT := Lib.hid (hit hh)
    clear hit ih kst kmv ken hend hz hl hs hc hkn
    go_enter Tryz.func46, Tryz.ntmps46
    go_wp2_with (at_lookup; refine wpList_lookup_own_ok_int _ rfl _ _ 84 rfl 33 2 .i64 law44 Tryz.underlying84 Tryz.underlying2 (zero_i64 _) b N D rfl HV2.out _ _ rfl HKEY.out ?_; intro cc hat hwc; have HC := Lib.hid (show cc = z from by have := hat.symm.trans HIT.out; injection this with this; injection this); clear hat hwc)
    go_ret
    exact ⟨ret_i HC.out, HSOL.out.only, D, HV2.out.mono (by omega), HKN.out⟩
  case false =>
    clear hit
    obtain ⟨st, hst⟩ : ∃ x, x = stC c s := ⟨_, rfl⟩
    have hst3 := stC_bd c s
    rw [← hst] at kst kmv hend hst3
    by_cases h1 : st = 1
    case neg =>
      have HSt := Lib.hid hst
      have KST := Lib.hid kst
      have hcn : 1 ≤ cntV n := by cases n <;> rw [cntV] <;> omega
      have tok0 : True := trivial
      by_cases h2 : st = 2
      · have he := hend h1
        rw [if_pos h2] at he
        rw [he] at ken
        have KEN := Lib.hid ken
        have e2 : (st == 2) = true := beq_iff_eq.2 h2
        clear kst kmv ken hend hst hst3 h1 h2 he ih hl hs hc hkn hz hn12
        go_enter Tryz.func46, Tryz.ntmps46
        go_wp2_with (first
          | (at_lookup; refine wpList_lookup_own_ok_int _ rfl _ _ 84 rfl 33 2 .i64 law44 Tryz.underlying84 Tryz.underlying2 (zero_i64 _) b N D rfl HV2.out _ _ rfl HKEY.out ?_; intro cc hat hwc; clear hat hwc)
          | (clear tok0; go_at_call 47; refine (KST.out _ HSOL.out.only).mono ?_; rintro e w2 ⟨rfl, hb2⟩; have HS2 := Lib.hid (HSOL.out.below hb2); obtain ⟨y0, y1, y2, y3, y4, y5, y6, t0, t1, t2, t3, t4⟩ := HS2.out.cells; clear hb2; have tok1 : True := trivial)
          | (clear tok1; go_at_call 89; refine (KEN.out _ HS2.out.only).mono ?_; rintro e w3 ⟨rfl, hb3⟩; have HS3 := Lib.hid (HS2.out.below hb3); clear y0 y1 y2 y3 y4 y5 y6 t0 t1 t2 t3 t4; obtain ⟨y0, y1, y2, y3, y4, y5, y6, t0, t1, t2, t3, t4⟩ := HS3.out.cells; obtain ⟨D2, hv9, hk9⟩ := HS3.out.vals; have HV9 := Lib.hid hv9; have HK9 := Lib.hid hk9; clear hb3 hv9 hk9; have tok2 : True := trivial)
          | (at_mapUpdate; refine wpList_mapUpdate_own _ rfl _ _ _ 84 rfl 33 2 law44 Tryz.underlying84 _ b N D2 rfl HV9.out (by unfold maxLen; omega) _ _ _ rfl rfl HKEY.out _ [] (plainElem_int Tryz.underlying2 (WalkArith.wf_i64 (by omega))) ?_; intro w9 hown9 hgrow9; have HG9 := Lib.hid hgrow9; have HO9 := Lib.hid hown9; clear hgrow9 hown9))
        go_ret
        exact ⟨rfl, HS3.out.only.trans HG9.out, _, HO9.out.mono (by omega), HPUT.out _ HK9.out HV9.out.isMap⟩
      · have he := hend h1
        rw [if_neg h2] at he
        subst he
        have e2 : (st == 2) = false := beq_eq_false_iff_ne.2 h2
        have e1 : (st == 1) = false := beq_eq_false_iff_ne.2 h1
        clear kst kmv ken hend hst hst3 h1 h2 ih hl hs hc hkn hz hn12
        go_enter Tryz.func46, Tryz.ntmps46
        go_wp2_with (first
          | (at_lookup; refine wpList_lookup_own_ok_int _ rfl _ _ 84 rfl 33 2 .i64 law44 Tryz.underlying84 Tryz.underlying2 (zero_i64 _) b N D rfl HV2.out _ _ rfl HKEY.out ?_; intro cc hat hwc; clear hat hwc)
          | (clear tok0; go_at_call 47; refine (KST.out _ HSOL.out.only).mono ?_; rintro e w3 ⟨rfl, hb2⟩; have HS3 := Lib.hid (HSOL.out.below hb2); obtain ⟨y0, y1, y2, y3, y4, y5, y6, t0, t1, t2, t3, t4⟩ := HS3.out.cells; obtain ⟨D2, hv9, hk9⟩ := HS3.out.vals; have HV9 := Lib.hid hv9; have HK9 := Lib.hid hk9; clear hb2 hv9 hk9; have tok1 : True := trivial)
          | (at_mapUpdate; refine wpList_mapUpdate_own _ rfl _ _ _ 84 rfl 33 2 law44 Tryz.underlying84 _ b N D2 rfl HV9.out (by unfold maxLen; omega) _ _ _ rfl rfl HKEY.out _ [] (plainElem_int Tryz.underlying2 (WalkArith.wf_i64 (by omega))) ?_; intro w9 hown9 hgrow9; have HG9 := Lib.hid hgrow9; have HO9 := Lib.hid hown9; clear hgrow9 hown9))
        go_ret
        exact ⟨rfl, HS3.out.only.trans HG9.out, _, HO9.out.mono (by omega), HPUT.out _ HK9.out HV9.out.isMap⟩
    case pos =>
      have h1' : stC c s = 1 := by rw [← hst]; exact h1
      obtain ⟨hneed, hstr, k0, hk0, hk1⟩ := left_run hs h1'
      obtain rfl : n = k0 + 1 := by omega
      have hih := ih k0 rfl
      obtain ⟨l, hle⟩ : ∃ l, mvC c s = l := ⟨_, rfl⟩
      obtain ⟨_, _, _, _, _, _, _, _, _, _, _, _, _, _, _, hd⟩ := mvC_at hc hs h1'
      rw [hle] at hd
      have hok := checkD_ok hd
      have hlen : l.length ≤ 16 := hok.len.2
      have hoe : ∀ (k : Nat) (hk : k < l.length), OkO l[k] := fun k hk => hok.each _ (List.getElem_mem hk)
      have kstep := fun k (hk : k < l.length) W => ch44_step c s l[k] A A1 A2 A3 ca ca1 ca2 ca3 W hc hs h1' ⟨(hoe k hk).r0, (hoe k hk).r7⟩
      have hok2 : ∀ (k : Nat) (hk : k < l.length), leftC c (stepC c s l[k]) = k0 ∧ OkS c (stepC c s l[k]) := fun k hk => ⟨by have := left_step hc hs h1' (o := l[k]) (hoe k hk).r0; omega, (stepC_ok hc hs h1' (hoe k hk).r0).1⟩
      have krec := fun k (hk : k < l.length) N' D' W => hih (stepC c s l[k]) (hok2 k hk).1 (hok2 k hk).2 (.slice A c.mdl.bats.length ca) (.slice A1 c.mdl.bows.length ca1) (.slice A2 c.bows.length ca2) (.slice A3 c.ord.length ca3) F b N' D' W
      have hprod : ∀ (k : Nat) (hk : k < l.length), 0 ≤ l[k].wt * valS c (stepC c s l[k]) ∧ l[k].wt * valS c (stepC c s l[k]) ≤ 281474976710656 := fun k hk => prod_bd (n := k0) (by omega) ⟨(hoe k hk).w1, (hoe k hk).w16⟩ (by have := valS_bd hc (hok2 k hk).2; rw [(hok2 k hk).1] at this; exact this)
      have hsum : ∀ (k : Nat) (hk : k < l.length) (sm : Int), sm = sumI ((l.take k).map fun o => o.wt * valS c (stepC c s o)) → sm + l[k].wt * valS c (stepC c s l[k]) = sumI ((l.take (k + 1)).map fun o => o.wt * valS c (stepC c s o)) := fun k hk sm h => by
        rw [h, sum_take (fun o : Otc => o.wt * valS c (stepC c s o)) hk]
      have hfin : sumI (l.map fun o => o.wt * valS c (stepC c s o)) = z := by rw [hz, valS_run hc hs h1', hle]
      obtain ⟨q, hq⟩ : ∃ q, q = cntV k0 := ⟨_, rfl⟩
      have hcnt : cntV (k0 + 1) = 1 + 16 * q := by rw [cntV, hq]
      rw [hcnt] at hN ⊢
      unfold chV stV at krec
      unfold stV at kstep
      rw [← hq] at krec
      have kmv1 := kmv h1
      rw [hle] at kmv1
      rw [h1] at kst
      have KST := Lib.hid kst
      have KMV := Lib.hid kmv1
      have KSTEP := Lib.hid kstep
      have KREC := Lib.hid krec
      have HPR := Lib.hid hprod
      have HSUM := Lib.hid hsum
      have HFIN := Lib.hid hfin
      have tok0 : True := trivial
      clear kst kmv kmv1 ken hend hst hst3 h1 h1' hneed hstr hk0 hk1 hih hle hd hok hoe kstep hok2 krec hprod hsum hfin hq hcnt ih hl hs hc hkn hz hn12
      go_enter Tryz.func46, Tryz.ntmps46
      go_wp2_with (first
        | (at_lookup; refine wpList_lookup_own_ok_int _ rfl _ _ 84 rfl 33 2 .i64 law44 Tryz.underlying84 Tryz.underlying2 (zero_i64 _) b N D rfl HV2.out _ _ rfl HKEY.out ?_; intro cc hat hwc; clear hat hwc)
        | (clear tok0; go_at_call 47; refine (KST.out _ HSOL.out.only).mono ?_; rintro e w2 ⟨rfl, hb2⟩; have HS2 := Lib.hid (HSOL.out.below hb2); obtain ⟨y0, y1, y2, y3, y4, y5, y6, t0, t1, t2, t3, t4⟩ := HS2.out.cells; clear hb2; have tok1 : True := trivial)
        | (clear tok1; go_at_call 48; refine (KMV.out _ HS2.out.only).mono ?_; rintro e w3 ⟨A4, n4, k4, rfl, hb3, hs3⟩; obtain ⟨Az, kz, hze, hz1, hz2⟩ := hs3.shape; have hn4 : n4 = l.length := (by injection hze); subst hn4; have HS3 := Lib.hid (HS2.out.below hb3); have HL3 := Lib.hid (hs3.keep (G := fun x => x < w3.heap.size ∧ x ≠ b) elOtc_good (Same.refl _ _) fun x hx => ⟨hx.2, by have := HS2.out.blt; have := HS2.out.only.size; omega⟩); clear y0 y1 y2 y3 y4 y5 y6 t0 t1 t2 t3 t4; obtain ⟨y0, y1, y2, y3, y4, y5, y6, t0, t1, t2, t3, t4⟩ := HS3.out.cells; clear hb3 hs3 hze hz1 hz2; have tok2 : True := trivial))
      go_loopw [9, 34] (fun v i wr => ∃ (k : Nat) (sm : Int), k ≤ l.length ∧ i = .int .i64 k ∧ v = .int .i64 sm ∧ 0 ≤ sm ∧ sm ≤ 281474976710656 * k ∧ Hid (Sol w wr b (N + k * q) c (.slice A c.mdl.bats.length ca) (.slice A1 c.mdl.bows.length ca1) (.slice A2 c.bows.length ca2) (.slice A3 c.ord.length ca3) s) ∧ Hid (Sl 3 elOtc wr (fun x => x < wr.heap.size ∧ x ≠ b) (.slice A4 l.length k4) l) ∧ Hid (sm = sumI ((l.take k).map fun o => o.wt * valS c (stepC c s o)))) (fun _ i _ => l.length - (intOf i).toNat)
      case atStart => exact ⟨0, 0, Nat.zero_le _, rfl, rfl, by omega, by omega, Lib.hid (by rw [Nat.zero_mul]; exact HS3.out), HL3, Lib.hid rfl⟩
      case round =>
        clear HS2 HS3 HL3 y0 y1 y2 y3 y4 y5 y6 t0 t1 t2 t3 t4
        obtain ⟨k, sm, hk, rfl, rfl, hs0, hs1, HS, HL, hss⟩ := hrel
        by_cases hlt : k < l.length
        · obtain ⟨b0, o, rfl, hbl, g0, g1, g2⟩ := otc_at HL.out hlt
          have hp := HPR.out k hlt
          have hst := HSUM.out k hlt sm hss.out
          have kS := KSTEP.out k hlt
          have kR := KREC.out k hlt
          obtain ⟨s', hs'⟩ : ∃ x, x = stepC c s l[k] := ⟨_, rfl⟩
          rw [← hs'] at hp hst
          simp only [← hs'] at kS kR
          obtain ⟨vv, hvv⟩ : ∃ x, x = valS c s' := ⟨_, rfl⟩
          rw [← hvv] at hp hst
          simp only [← hvv] at kR
          obtain ⟨⟨pr, pw, pt⟩, hp'⟩ : ∃ p, p = l[k] := ⟨_, rfl⟩
          rw [← hp'] at g0 g1 g2 hp hst
          simp only [← hp'] at kS
          dsimp only at g0 g1 g2 hp hst kS
          obtain ⟨hp0, hp1⟩ := hp
          have hkq : k * q + q ≤ 16 * q := by have := Nat.mul_le_mul_right q (show k + 1 ≤ 16 by omega); rw [Nat.add_mul, Nat.one_mul] at this; exact this
          have HST := Lib.hid hst
          have KS := Lib.hid kS
          have KR := Lib.hid kR
          have HKQ := Lib.hid hkq
          clear hst kS kR hs' hvv hp' hss hkq
          go_wp2
          have HSA := Lib.hid (HS.out.alloc (.cells #[.int .i64 pr, .bool pw, .int .i64 pt] 46)).drew
          have HLA := Lib.hid (sl_only HL.out (Only.of_below (g := b) (Below.drew (Below.alloc (Below.refl wr.heap.size wr) (Nat.le_refl _) (.cells #[.int .i64 pr, .bool pw, .int .i64 pt] 46)))))
          have HCA := Lib.hid (Blk.new wr 46 #[.int .i64 pr, .bool pw, .int .i64 pt]).drew
          obtain ⟨y0, y1, y2, y3, y4, y5, y6, t0, t1, t2, t3, t4⟩ := HSA.out.cells
          have u0 := HCA.out.cell 0
          have u1 := HCA.out.cell 1
          have u2 := HCA.out.cell 2
          have tok2 : True := trivial
          have hwb : b < wr.heap.size := by have := HS.out.blt; have := HS.out.only.size; omega
          go_region_held3 (fun w' => w'.cell? ⟨w.heap.size, 0, none⟩ = some (.slice A c.mdl.bats.length ca) ∧ w'.cell? ⟨w.heap.size, 1, none⟩ = some (.slice A1 c.mdl.bows.length ca1) ∧ w'.cell? ⟨w.heap.size, 2, none⟩ = some (.slice A2 c.bows.length ca2) ∧ w'.cell? ⟨w.heap.size, 3, none⟩ = some (.int .i64 c.over) ∧ w'.cell? ⟨w.heap.size, 4, none⟩ = some (.int .i64 c.done) ∧ w'.cell? ⟨w.heap.size, 5, none⟩ = some (.int .i64 c.need) ∧ w'.cell? ⟨w.heap.size, 6, none⟩ = some (.slice A3 c.ord.length ca3) ∧ w'.cell? ⟨w.heap.size + 1, 0, none⟩ = some (.int .i64 s.ball) ∧ w'.cell? ⟨w.heap.size + 1, 1, none⟩ = some (.int .i64 s.need) ∧ w'.cell? ⟨w.heap.size + 1, 2, none⟩ = some (.int .i64 s.str) ∧ w'.cell? ⟨w.heap.size + 1, 3, none⟩ = some (.int .i64 s.par) ∧ w'.cell? ⟨w.heap.size + 1, 4, none⟩ = some (.int .i64 s.nxt) ∧ w'.cell? ⟨wr.heap.size, 0, none⟩ = some (.int .i64 pr) ∧ w'.cell? ⟨wr.heap.size, 1, none⟩ = some (.bool pw) ∧ w'.cell? ⟨wr.heap.size, 2, none⟩ = some (.int .i64 pt)) (first | exact ⟨y0, y1, y2, y3, y4, y5, y6, t0, t1, t2, t3, t4, u0, u1, u2⟩ | go_keep) (first
            | (clear tok2; go_at_call 51; refine (KS.out _).mono ?_; rintro e w5 ⟨rfl, hb5⟩; have HS5 := Lib.hid (HSA.out.below hb5); have HL5 := Lib.hid (sl_only HLA.out (Only.of_below hb5)); have HC5 := Lib.hid (HCA.out.below hb5 HCA.out.lt); obtain ⟨y0, y1, y2, y3, y4, y5, y6, t0, t1, t2, t3, t4⟩ := HS5.out.cells; have u0 := HC5.out.cell 0; have u1 := HC5.out.cell 1; have u2 := HC5.out.cell 2; clear hb5; have tok3 : True := trivial)
            | (clear tok3; go_at_call 46; obtain ⟨D5, hv5, hk5⟩ := HS5.out.vals; refine (KR.out _ D5 _ (HA.out.keep (HS5.out.only.same HF.out) fun _ h => h) (fun x hx => ⟨Nat.lt_of_lt_of_le (HF.out x hx).1 HS5.out.only.size, (HF.out x hx).2⟩) hv5 hk5 (by have := HKQ.out; omega)).mono ?_; rintro e w6 ⟨rfl, ho6, hv6⟩; have HS6 := Lib.hid (show Sol w w6 b (N + (k + 1) * q) c (.slice A c.mdl.bats.length ca) (.slice A1 c.mdl.bows.length ca1) (.slice A2 c.bows.length ca2) (.slice A3 c.ord.length ca3) s from HS5.out.into ho6 (by obtain ⟨D7, h1, h2⟩ := hv6; exact ⟨D7, h1.mono (by rw [Nat.add_mul]; omega), h2⟩)); have HL6 := Lib.hid (sl_only HL5.out ho6); have HC6 := Lib.hid (HC5.out.grown ho6 (by intro e; injection e with e; omega)); obtain ⟨y0, y1, y2, y3, y4, y5, y6, t0, t1, t2, t3, t4⟩ := HS6.out.cells; have u0 := HC6.out.cell 0; have u1 := HC6.out.cell 1; have u2 := HC6.out.cell 2; clear ho6 hv6 hv5 hk5; have tok4 : True := trivial))
          all_goals go_wp2
          go_roundw
          case rel => exact ⟨k + 1, sm + pt * vv, by omega, by go_num, by rw [IntWalk.i64_in (pt * vv) (by omega), IntWalk.i64_in (sm + pt * vv) (by omega)], by omega, by push_cast; omega, HS6, HL6, HST⟩
          case measure => simp [intOf]; omega
        · obtain rfl : k = l.length := by omega
          have hs2 := hss.out
          rw [List.take_of_length_le (Nat.le_refl _), HFIN.out] at hs2
          subst hs2
          obtain ⟨D2, hv9, hk9⟩ := HS.out.vals
          have HV9 := Lib.hid hv9
          have HK9 := Lib.hid hk9
          obtain ⟨y0, y1, y2, y3, y4, y5, y6, t0, t1, t2, t3, t4⟩ := HS.out.cells
          have hlq : l.length * q ≤ 16 * q := Nat.mul_le_mul_right q hlen
          obtain ⟨NN, hNN⟩ : ∃ NN, NN = N + l.length * q := ⟨_, rfl⟩
          rw [← hNN] at HV9
          have hN9 : NN + 1 ≤ N + (1 + 16 * q) := by omega
          have hN8 : NN < 2000000000000000000 := by omega
          clear hv9 hk9 hss hlq hNN
          go_wp2_with (at_mapUpdate; refine wpList_mapUpdate_own _ rfl _ _ _ 84 rfl 33 2 law44 Tryz.underlying84 _ b NN D2 rfl HV9.out (by unfold maxLen; omega) _ _ _ rfl rfl HKEY.out _ [] (plainElem_int Tryz.underlying2 (WalkArith.wf_i64 (by omega))) ?_; intro w9 hown9 hgrow9; have HG9 := Lib.hid hgrow9; have HO9 := Lib.hid hown9; clear hgrow9 hown9)
          go_ret
          exact ⟨rfl, HS.out.only.trans HG9.out, _, HO9.out.mono (by omega), HPUT.out _ HK9.out HV9.out.isMap⟩
theorem ch44_solve (c : Chs) (hc : OkC c) : ∀ n, SolveAt 46 c n
  | 0 => ch44_solve_at c hc 0 (fun k h => by omega)
  | n + 1 => ch44_solve_at c hc (n + 1) fun k h => by
      obtain rfl : n = k := by omega
      exact ch44_solve c hc n
end Go.Proofs.YtfnfbojaiikigaaGreatDoor

namespace Go.Proofs.YtfnfbojaiikigaaGreatDoor
open Go.RowKit Go.Maps

set_option maxRecDepth 100000 in
set_option maxHeartbeats 8000000 in
theorem r44_fill_at (c : Chs) (hc : OkC c) (n : Nat) (ih : ∀ k, n = k + 1 → SolveAt 109 c k) : SolveAt 109 c n := by
  intro s hl hs bv wv pv ov F b N D w h hF hown hkn hN
  have hkey := key_of (hs.smol hc)
  have hn12 := left_le hc hs
  rw [hl] at hn12
  obtain ⟨z, hz⟩ : ∃ z, z = valS c s := ⟨_, rfl⟩
  have hbd := valS_bd hc hs
  rw [hl] at hbd
  have hp16 := pow16_le hn12
  have hz0 : 0 ≤ z ∧ z ≤ 281474976710656 := by rw [hz]; omega
  have hit : Maps.has D (keyS s) = true → D.atKey (keyS s) (.lit (.int .i64 0)) = .lit (.int .i64 z) := fun hh => by rw [hz]; exact hkn s hs hh
  have hput : ∀ (D2 : DataW Unit), Known c D2 → IsMap D2 → Known c (D2.put (keyS s) (.lit (.int .i64 z))) := fun D2 h1 h2 => by rw [hz]; exact h1.put h2 hc hs
  have hsol : Sol w _ b N c bv wv pv ov s := Sol.new hown hkn
  have kst := fun W (hW : Only b w W) => r44_status c s bv wv pv ov W ((h.keep (hW.same hF) fun x hx => Nat.lt_of_lt_of_le (hF x hx).1 hW.size)) hs
  have kmv := fun (h1 : stC c s = 1) W (hW : Only b w W) => r44_moves c s bv wv pv ov W ((h.keep (hW.same hF) fun x hx => Nat.lt_of_lt_of_le (hF x hx).1 hW.size)) hc hs h1
  have ken := fun W (hW : Only b w W) => r44_ended c s bv wv pv ov W ((h.keep (hW.same hF) fun x hx => Nat.lt_of_lt_of_le (hF x hx).1 hW.size)) hc hs
  have hend : stC c s ≠ 1 → (if stC c s = 2 then pow16 (leftC c s) else 0) = z := fun h1 => by
    have := stC_bd c s
    rw [hz]
    by_cases h2 : stC c s = 2
    · rw [if_pos h2, valS_won h2]
    · rw [if_neg h2, valS_lost hs (by omega)]
  have HA := Lib.hid h
  have HF := Lib.hid hF
  have HKN := Lib.hid hkn
  rw [← hz]
  clear hbd hp16
  obtain ⟨A, ca, rfl, hc1, hc2⟩ := h.mdl.bat.shape
  obtain ⟨A1, ca1, rfl, hc3, hc4⟩ := h.mdl.bow.shape
  obtain ⟨A2, ca2, rfl, hc5, hc6⟩ := h.bow.shape
  obtain ⟨A3, ca3, rfl, hc7, hc8⟩ := h.ord.shape
  unfold chV stV at kst kmv ken ⊢
  unfold stV at hkey
  have HSOL := Lib.hid hsol
  have HKEY := Lib.hid hkey
  have HV2 := Lib.hid (vals_below hown (CSB.new w c (.slice A c.mdl.bats.length ca) (.slice A1 c.mdl.bows.length ca1) (.slice A2 c.bows.length ca2) (.slice A3 c.ord.length ca3) s).bel)
  have HPUT := Lib.hid hput
  clear hsol hkey h hF hown hput
  obtain ⟨y0, y1, y2, y3, y4, y5, y6, t0, t1, t2, t3, t4⟩ := HSOL.out.cells
  clear y0 y1 y2 y3 y4 y5 y6 t0 t1 t2 t3 t4
  cases hh : Maps.has D (keyS s)
  case true =>
    have HIT := Lib.hid (hit hh)
    clear hit ih kst kmv ken hend hz hl hs hc hkn
    go_enter Tryz.func109, Tryz.ntmps109
    go_wp2_with (at_lookup; refine wpList_lookup_own_ok_int _ rfl _ _ 84 rfl 33 2 .i64 law44 Tryz.underlying84 Tryz.underlying2 (zero_i64 _) b N D rfl HV2.out _ _ rfl HKEY.out ?_; intro cc hat hwc; have HC := Lib.hid (show cc = z from by have := hat.symm.trans HIT.out; injection this with this; injection this); clear hat hwc)
    go_ret
    exact ⟨ret_i HC.out, HSOL.out.only, D, HV2.out.mono (by omega), HKN.out⟩
  case false =>
    clear hit
    obtain ⟨st, hst⟩ : ∃ x, x = stC c s := ⟨_, rfl⟩
    have hst3 := stC_bd c s
    rw [← hst] at kst kmv hend hst3
    by_cases h1 : st = 1
    case neg =>
      have KST := Lib.hid kst
      have hcn : 1 ≤ cntV n := by cases n <;> rw [cntV] <;> omega
      have tok0 : True := trivial
      have he := hend h1
      rw [← hst, he] at ken
      have KEN := Lib.hid ken
      have e1 : (st == 1) = false := beq_eq_false_iff_ne.2 h1
      clear kst kmv ken hend hst hst3 h1 he ih hl hs hc hkn hz hn12
      go_enter Tryz.func109, Tryz.ntmps109
      go_wp2_with (first
        | (at_lookup; refine wpList_lookup_own_ok_int _ rfl _ _ 84 rfl 33 2 .i64 law44 Tryz.underlying84 Tryz.underlying2 (zero_i64 _) b N D rfl HV2.out _ _ rfl HKEY.out ?_; intro cc hat hwc; clear hat hwc)
        | (clear tok0; go_at_call 135; refine (KST.out _ HSOL.out.only).mono ?_; rintro e w2 ⟨rfl, hb2⟩; have HS2 := Lib.hid (HSOL.out.below hb2); obtain ⟨y0, y1, y2, y3, y4, y5, y6, t0, t1, t2, t3, t4⟩ := HS2.out.cells; clear hb2; have tok1 : True := trivial)
        | (clear tok1; go_at_call 136; refine (KEN.out _ HS2.out.only).mono ?_; rintro e w3 ⟨rfl, hb3⟩; have HS3 := Lib.hid (HS2.out.below hb3); clear y0 y1 y2 y3 y4 y5 y6 t0 t1 t2 t3 t4; obtain ⟨y0, y1, y2, y3, y4, y5, y6, t0, t1, t2, t3, t4⟩ := HS3.out.cells; obtain ⟨D2, hv9, hk9⟩ := HS3.out.vals; have HV9 := Lib.hid hv9; have HK9 := Lib.hid hk9; clear hb3 hv9 hk9; have tok2 : True := trivial)
        | (at_mapUpdate; refine wpList_mapUpdate_own _ rfl _ _ _ 84 rfl 33 2 law44 Tryz.underlying84 _ b N D2 rfl HV9.out (by unfold maxLen; omega) _ _ _ rfl rfl HKEY.out _ [] (plainElem_int Tryz.underlying2 (WalkArith.wf_i64 (by omega))) ?_; intro w9 hown9 hgrow9; have HG9 := Lib.hid hgrow9; have HO9 := Lib.hid hown9; clear hgrow9 hown9))
      go_ret
      exact ⟨rfl, HS3.out.only.trans HG9.out, _, HO9.out.mono (by omega), HPUT.out _ HK9.out HV9.out.isMap⟩
    case pos =>
      have h1' : stC c s = 1 := by rw [← hst]; exact h1
      obtain ⟨hneed, hstr, k0, hk0, hk1⟩ := left_run hs h1'
      obtain rfl : n = k0 + 1 := by omega
      have hih := ih k0 rfl
      obtain ⟨l, hle⟩ : ∃ l, mvC c s = l := ⟨_, rfl⟩
      obtain ⟨_, _, _, _, _, _, _, _, _, _, _, _, _, _, _, hd⟩ := mvC_at hc hs h1'
      rw [hle] at hd
      have hok := checkD_ok hd
      have hlen : l.length ≤ 16 := hok.len.2
      have hoe : ∀ (k : Nat) (hk : k < l.length), OkO l[k] := fun k hk => hok.each _ (List.getElem_mem hk)
      have kstep := fun k (hk : k < l.length) W => r44_after c s l[k] A A1 A2 A3 ca ca1 ca2 ca3 W hc hs h1' ⟨(hoe k hk).r0, (hoe k hk).r7⟩
      have hok2 : ∀ (k : Nat) (hk : k < l.length), leftC c (stepC c s l[k]) = k0 ∧ OkS c (stepC c s l[k]) := fun k hk => ⟨by have := left_step hc hs h1' (o := l[k]) (hoe k hk).r0; omega, (stepC_ok hc hs h1' (hoe k hk).r0).1⟩
      have krec := fun k (hk : k < l.length) N' D' W => hih (stepC c s l[k]) (hok2 k hk).1 (hok2 k hk).2 (.slice A c.mdl.bats.length ca) (.slice A1 c.mdl.bows.length ca1) (.slice A2 c.bows.length ca2) (.slice A3 c.ord.length ca3) F b N' D' W
      have hprod : ∀ (k : Nat) (hk : k < l.length), 0 ≤ l[k].wt * valS c (stepC c s l[k]) ∧ l[k].wt * valS c (stepC c s l[k]) ≤ 281474976710656 := fun k hk => prod_bd (n := k0) (by omega) ⟨(hoe k hk).w1, (hoe k hk).w16⟩ (by have := valS_bd hc (hok2 k hk).2; rw [(hok2 k hk).1] at this; exact this)
      have hsum : ∀ (k : Nat) (hk : k < l.length) (sm : Int), sm = sumI ((l.take k).map fun o => o.wt * valS c (stepC c s o)) → sm + l[k].wt * valS c (stepC c s l[k]) = sumI ((l.take (k + 1)).map fun o => o.wt * valS c (stepC c s o)) := fun k hk sm h => by
        rw [h, sum_take (fun o : Otc => o.wt * valS c (stepC c s o)) hk]
      have hfin : sumI (l.map fun o => o.wt * valS c (stepC c s o)) = z := by rw [hz, valS_run hc hs h1', hle]
      obtain ⟨q, hq⟩ : ∃ q, q = cntV k0 := ⟨_, rfl⟩
      have hcnt : cntV (k0 + 1) = 1 + 16 * q := by rw [cntV, hq]
      rw [hcnt] at hN ⊢
      unfold chV stV at krec
      unfold stV at kstep
      rw [← hq] at krec
      have kmv1 := kmv h1
      rw [hle] at kmv1
      rw [h1] at kst
      have KST := Lib.hid kst
      have KMV := Lib.hid kmv1
      have KSTEP := Lib.hid kstep
      have KREC := Lib.hid krec
      have HPR := Lib.hid hprod
      have HSUM := Lib.hid hsum
      have HFIN := Lib.hid hfin
      have tok0 : True := trivial
      clear kst kmv kmv1 ken hend hst hst3 h1 h1' hneed hstr hk0 hk1 hih hle hd hok hoe kstep hok2 krec hprod hsum hfin hq hcnt ih hl hs hc hkn hz hn12
      go_enter Tryz.func109, Tryz.ntmps109
      go_wp2_with (first
        | (at_lookup; refine wpList_lookup_own_ok_int _ rfl _ _ 84 rfl 33 2 .i64 law44 Tryz.underlying84 Tryz.underlying2 (zero_i64 _) b N D rfl HV2.out _ _ rfl HKEY.out ?_; intro cc hat hwc; clear hat hwc)
        | (clear tok0; go_at_call 135; refine (KST.out _ HSOL.out.only).mono ?_; rintro e w2 ⟨rfl, hb2⟩; have HS2 := Lib.hid (HSOL.out.below hb2); obtain ⟨y0, y1, y2, y3, y4, y5, y6, t0, t1, t2, t3, t4⟩ := HS2.out.cells; clear hb2; have tok1 : True := trivial)
        | (clear tok1; go_at_call 137; refine (KMV.out _ HS2.out.only).mono ?_; rintro e w3 ⟨A4, n4, k4, rfl, hb3, hs3⟩; obtain ⟨Az, kz, hze, hz1, hz2⟩ := hs3.shape; have hn4 : n4 = l.length := (by injection hze); subst hn4; have HS3 := Lib.hid (HS2.out.below hb3); have HL3 := Lib.hid (hs3.keep (G := fun x => x < w3.heap.size ∧ x ≠ b) elOtc_good (Same.refl _ _) fun x hx => ⟨hx.2, by have := HS2.out.blt; have := HS2.out.only.size; omega⟩); clear y0 y1 y2 y3 y4 y5 y6 t0 t1 t2 t3 t4; obtain ⟨y0, y1, y2, y3, y4, y5, y6, t0, t1, t2, t3, t4⟩ := HS3.out.cells; clear hb3 hs3 hze hz1 hz2; have tok2 : True := trivial))
      go_loopw [9, 31] (fun v i wr => ∃ (k : Nat) (sm : Int), k ≤ l.length ∧ i = .int .i64 k ∧ v = .int .i64 sm ∧ 0 ≤ sm ∧ sm ≤ 281474976710656 * k ∧ Hid (Sol w wr b (N + k * q) c (.slice A c.mdl.bats.length ca) (.slice A1 c.mdl.bows.length ca1) (.slice A2 c.bows.length ca2) (.slice A3 c.ord.length ca3) s) ∧ Hid (Sl 3 elOtc wr (fun x => x < wr.heap.size ∧ x ≠ b) (.slice A4 l.length k4) l) ∧ Hid (sm = sumI ((l.take k).map fun o => o.wt * valS c (stepC c s o)))) (fun _ i _ => l.length - (intOf i).toNat)
      case atStart => exact ⟨0, 0, Nat.zero_le _, rfl, rfl, by omega, by omega, Lib.hid (by rw [Nat.zero_mul]; exact HS3.out), HL3, Lib.hid rfl⟩
      case round =>
        clear HS2 HS3 HL3 y0 y1 y2 y3 y4 y5 y6 t0 t1 t2 t3 t4
        obtain ⟨k, sm, hk, rfl, rfl, hs0, hs1, HS, HL, hss⟩ := hrel
        by_cases hlt : k < l.length
        · obtain ⟨b0, o, rfl, hbl, g0, g1, g2⟩ := otc_at HL.out hlt
          have hp := HPR.out k hlt
          have hst := HSUM.out k hlt sm hss.out
          have kS := KSTEP.out k hlt
          have kR := KREC.out k hlt
          obtain ⟨s', hs'⟩ : ∃ x, x = stepC c s l[k] := ⟨_, rfl⟩
          rw [← hs'] at hp hst
          simp only [← hs'] at kS kR
          obtain ⟨vv, hvv⟩ : ∃ x, x = valS c s' := ⟨_, rfl⟩
          rw [← hvv] at hp hst
          simp only [← hvv] at kR
          obtain ⟨⟨pr, pw, pt⟩, hp'⟩ : ∃ p, p = l[k] := ⟨_, rfl⟩
          rw [← hp'] at g0 g1 g2 hp hst
          simp only [← hp'] at kS
          dsimp only at g0 g1 g2 hp hst kS
          obtain ⟨hp0, hp1⟩ := hp
          have hkq : k * q + q ≤ 16 * q := by have := Nat.mul_le_mul_right q (show k + 1 ≤ 16 by omega); rw [Nat.add_mul, Nat.one_mul] at this; exact this
          have HST := Lib.hid hst
          have KS := Lib.hid kS
          have KR := Lib.hid kR
          have HKQ := Lib.hid hkq
          clear hst kS kR hs' hvv hp' hss hkq
          go_wp2
          have HSA := Lib.hid (HS.out.alloc (.cells #[.int .i64 pr, .bool pw, .int .i64 pt] 46)).drew
          have HLA := Lib.hid (sl_only HL.out (Only.of_below (g := b) (Below.drew (Below.alloc (Below.refl wr.heap.size wr) (Nat.le_refl _) (.cells #[.int .i64 pr, .bool pw, .int .i64 pt] 46)))))
          have HCA := Lib.hid (Blk.new wr 46 #[.int .i64 pr, .bool pw, .int .i64 pt]).drew
          obtain ⟨y0, y1, y2, y3, y4, y5, y6, t0, t1, t2, t3, t4⟩ := HSA.out.cells
          have u0 := HCA.out.cell 0
          have u1 := HCA.out.cell 1
          have u2 := HCA.out.cell 2
          have tok2 : True := trivial
          have hwb : b < wr.heap.size := by have := HS.out.blt; have := HS.out.only.size; omega
          go_region_held3 (fun w' => w'.cell? ⟨w.heap.size, 0, none⟩ = some (.slice A c.mdl.bats.length ca) ∧ w'.cell? ⟨w.heap.size, 1, none⟩ = some (.slice A1 c.mdl.bows.length ca1) ∧ w'.cell? ⟨w.heap.size, 2, none⟩ = some (.slice A2 c.bows.length ca2) ∧ w'.cell? ⟨w.heap.size, 3, none⟩ = some (.int .i64 c.over) ∧ w'.cell? ⟨w.heap.size, 4, none⟩ = some (.int .i64 c.done) ∧ w'.cell? ⟨w.heap.size, 5, none⟩ = some (.int .i64 c.need) ∧ w'.cell? ⟨w.heap.size, 6, none⟩ = some (.slice A3 c.ord.length ca3) ∧ w'.cell? ⟨w.heap.size + 1, 0, none⟩ = some (.int .i64 s.ball) ∧ w'.cell? ⟨w.heap.size + 1, 1, none⟩ = some (.int .i64 s.need) ∧ w'.cell? ⟨w.heap.size + 1, 2, none⟩ = some (.int .i64 s.str) ∧ w'.cell? ⟨w.heap.size + 1, 3, none⟩ = some (.int .i64 s.par) ∧ w'.cell? ⟨w.heap.size + 1, 4, none⟩ = some (.int .i64 s.nxt) ∧ w'.cell? ⟨wr.heap.size, 0, none⟩ = some (.int .i64 pr) ∧ w'.cell? ⟨wr.heap.size, 1, none⟩ = some (.bool pw) ∧ w'.cell? ⟨wr.heap.size, 2, none⟩ = some (.int .i64 pt)) (first | exact ⟨y0, y1, y2, y3, y4, y5, y6, t0, t1, t2, t3, t4, u0, u1, u2⟩ | go_keep) (first
            | (clear tok2; go_at_call 138; refine (KS.out _).mono ?_; rintro e w5 ⟨rfl, hb5⟩; have HS5 := Lib.hid (HSA.out.below hb5); have HL5 := Lib.hid (sl_only HLA.out (Only.of_below hb5)); have HC5 := Lib.hid (HCA.out.below hb5 HCA.out.lt); obtain ⟨y0, y1, y2, y3, y4, y5, y6, t0, t1, t2, t3, t4⟩ := HS5.out.cells; have u0 := HC5.out.cell 0; have u1 := HC5.out.cell 1; have u2 := HC5.out.cell 2; clear hb5; have tok3 : True := trivial)
            | (clear tok3; go_at_call 109; obtain ⟨D5, hv5, hk5⟩ := HS5.out.vals; refine (KR.out _ D5 _ (HA.out.keep (HS5.out.only.same HF.out) fun _ h => h) (fun x hx => ⟨Nat.lt_of_lt_of_le (HF.out x hx).1 HS5.out.only.size, (HF.out x hx).2⟩) hv5 hk5 (by have := HKQ.out; omega)).mono ?_; rintro e w6 ⟨rfl, ho6, hv6⟩; have HS6 := Lib.hid (show Sol w w6 b (N + (k + 1) * q) c (.slice A c.mdl.bats.length ca) (.slice A1 c.mdl.bows.length ca1) (.slice A2 c.bows.length ca2) (.slice A3 c.ord.length ca3) s from HS5.out.into ho6 (by obtain ⟨D7, h1, h2⟩ := hv6; exact ⟨D7, h1.mono (by rw [Nat.add_mul]; omega), h2⟩)); have HL6 := Lib.hid (sl_only HL5.out ho6); have HC6 := Lib.hid (HC5.out.grown ho6 (by intro e; injection e with e; omega)); obtain ⟨y0, y1, y2, y3, y4, y5, y6, t0, t1, t2, t3, t4⟩ := HS6.out.cells; have u0 := HC6.out.cell 0; have u1 := HC6.out.cell 1; have u2 := HC6.out.cell 2; clear ho6 hv6 hv5 hk5; have tok4 : True := trivial))
          all_goals go_wp2
          go_roundw
          case rel => exact ⟨k + 1, sm + pt * vv, by omega, by go_num, by rw [IntWalk.i64_in (pt * vv) (by omega), IntWalk.i64_in (sm + pt * vv) (by omega)], by omega, by push_cast; omega, HS6, HL6, HST⟩
          case measure => simp [intOf]; omega
        · obtain rfl : k = l.length := by omega
          have hs2 := hss.out
          rw [List.take_of_length_le (Nat.le_refl _), HFIN.out] at hs2
          subst hs2
          obtain ⟨D2, hv9, hk9⟩ := HS.out.vals
          have HV9 := Lib.hid hv9
          have HK9 := Lib.hid hk9
          obtain ⟨y0, y1, y2, y3, y4, y5, y6, t0, t1, t2, t3, t4⟩ := HS.out.cells
          have hlq : l.length * q ≤ 16 * q := Nat.mul_le_mul_right q hlen
          obtain ⟨NN, hNN⟩ : ∃ NN, NN = N + l.length * q := ⟨_, rfl⟩
          rw [← hNN] at HV9
          have hN9 : NN + 1 ≤ N + (1 + 16 * q) := by omega
          have hN8 : NN < 2000000000000000000 := by omega
          clear hv9 hk9 hss hlq hNN
          go_wp2_with (at_mapUpdate; refine wpList_mapUpdate_own _ rfl _ _ _ 84 rfl 33 2 law44 Tryz.underlying84 _ b NN D2 rfl HV9.out (by unfold maxLen; omega) _ _ _ rfl rfl HKEY.out _ [] (plainElem_int Tryz.underlying2 (WalkArith.wf_i64 (by omega))) ?_; intro w9 hown9 hgrow9; have HG9 := Lib.hid hgrow9; have HO9 := Lib.hid hown9; clear hgrow9 hown9)
          go_ret
          exact ⟨rfl, HS.out.only.trans HG9.out, _, HO9.out.mono (by omega), HPUT.out _ HK9.out HV9.out.isMap⟩
theorem r44_fill (c : Chs) (hc : OkC c) : ∀ n, SolveAt 109 c n
  | 0 => r44_fill_at c hc 0 (fun k h => by omega)
  | n + 1 => r44_fill_at c hc (n + 1) fun k h => by
      obtain rfl : n = k := by omega
      exact r44_fill c hc n
end Go.Proofs.YtfnfbojaiikigaaGreatDoor

namespace Go.Proofs.YtfnfbojaiikigaaGreatDoor
open Go.RowKit Go.Maps

set_option maxRecDepth 100000 in
set_option maxHeartbeats 4000000 in
theorem ch44_Value (c : Chs) (s : Cst) (bv wv pv ov : Value) (w : World) (h : ChAt w (· < w.heap.size) bv wv pv ov c) :
    Calls Tryz.prog 16 #[chV c bv wv pv ov, stV s] w fun e w' => e = .returned (.tuple #[.int .i64 (valueC c s).1, .int .i64 (valueC c s).2]) ∧ Below w.heap.size w w' := by
  unfold chV stV
  obtain ⟨ball, need, str, par, nxt⟩ := s
  obtain ⟨A, ca, rfl, hc1, hc2⟩ := h.mdl.bat.shape
  obtain ⟨A1, ca1, rfl, hc3, hc4⟩ := h.mdl.bow.shape
  obtain ⟨A2, ca2, rfl, hc5, hc6⟩ := h.bow.shape
  obtain ⟨A3, ca3, rfl, hc7, hc8⟩ := h.ord.shape
  have hx := CSB.new w c (.slice A c.mdl.bats.length ca) (.slice A1 c.mdl.bows.length ca1) (.slice A2 c.bows.length ca2) (.slice A3 c.ord.length ca3) ⟨ball, need, str, par, nxt⟩
  have HX := Lib.hid hx
  have HM := Lib.hid h
  obtain ⟨z, hz⟩ : ∃ z, z = valueC c ⟨ball, need, str, par, nxt⟩ := ⟨_, rfl⟩
  rw [← hz]
  unfold valueC at hz
  have k1 := fun W (hW : Below w.heap.size w W) => ch44_CheckState c ⟨ball, need, str, par, nxt⟩ _ _ _ _ W (HM.out.below hW)
  have hok := fun h => (chst_ok (c := c) (s := ⟨ball, need, str, par, nxt⟩) h).2
  have k2 := fun (hc : OkC c) (hs : OkS c ⟨ball, need, str, par, nxt⟩) W (hW : Below w.heap.size w W) => (ch44_solve c hc _ ⟨ball, need, str, par, nxt⟩ rfl hs (.slice A c.mdl.bats.length ca) (.slice A1 c.mdl.bows.length ca1) (.slice A2 c.bows.length ca2) (.slice A3 c.ord.length ca3) (· < w.heap.size) W.heap.size 0 (.map []) (W.alloc (.map #[] 0)) (h.keep (Same.of_below (hW.alloc hW.size _)) fun b hb => hb) (fun x hx => ⟨by have := hW.size; simp; omega, by have := hW.size; omega⟩) (World.ownsMap_made W _ _ _) (Known.none c) (by rw [Nat.zero_add]; exact Nat.le_trans (cntV_le _ (left_le hc hs)) (by decide))).mono (R' := fun e w' => e = .returned (.int .i64 (valS c ⟨ball, need, str, par, nxt⟩)) ∧ Below w.heap.size w w') fun e w' h => ⟨h.1, (hW.alloc hW.size _).trans (h.2.1.below hW.size (by have := hW.size; simp; omega))⟩
  unfold chV stV at k1 k2
  dsimp only at k1 k2
  obtain ⟨u, hu⟩ : ∃ u, u = chstC c ⟨ball, need, str, par, nxt⟩ := ⟨_, rfl⟩
  obtain ⟨v, hv⟩ : ∃ v, v = valS c ⟨ball, need, str, par, nxt⟩ := ⟨_, rfl⟩
  rw [← hu] at k1 hz hok
  rw [← hv] at k2 hz
  have K1 := Lib.hid k1
  have tok0 : True := trivial
  have hmm := @run_makeMap Tryz.prog
  clear k1 hu hv h hx
  by_cases h0 : u = 0
  · rw [if_neg (by omega)] at hz
    have HZ := Lib.hid hz
    have K2 := Lib.hid (k2 (hok h0).1 (hok h0).2)
    have eu : (u != 0) = false := by simp [h0]
    clear hz h0 hok k2
    go_enter Tryz.func16, Tryz.ntmps16
    go_wp2_with (first
      | (clear tok0; go_at_call 45; refine (K1.out _ HX.out.bel).mono ?_; rintro e w2 ⟨rfl, hb2⟩; have HX2 := Lib.hid (HX.out.below hb2); obtain ⟨x0, x1, x2, x3, x4, x5, x6, y0, y1, y2, y3, y4⟩ := HX2.out.cells; dsimp only at y0 y1 y2 y3 y4; clear hb2; have tok1 : True := trivial)
      | (clear tok1; go_at_call 46; refine (K2.out _ HX2.out.bel).mono ?_; rintro e w3 ⟨rfl, hb3⟩; have HB3 := Lib.hid hb3; clear hb3; have tok2 : True := trivial))
    go_ret2
    exact ⟨by rw [HZ.out] <;> rfl, HB3.out⟩
  · rw [if_pos h0] at hz
    have HZ := Lib.hid hz
    have eu : (u != 0) = true := by simp [h0]
    clear hz h0 hok k2
    go_enter Tryz.func16, Tryz.ntmps16
    go_wp2_with (clear tok0; go_at_call 45; refine (K1.out _ HX.out.bel).mono ?_; rintro e w2 ⟨rfl, hb2⟩; have HX2 := Lib.hid (HX.out.below hb2); obtain ⟨x0, x1, x2, x3, x4, x5, x6, y0, y1, y2, y3, y4⟩ := HX2.out.cells; dsimp only at y0 y1 y2 y3 y4; clear hb2; have tok1 : True := trivial)
    go_ret2
    exact ⟨by rw [HZ.out] <;> rfl, HX2.out.bel⟩
set_option maxRecDepth 100000 in
set_option maxHeartbeats 4000000 in
theorem r44_Value (c : Chs) (s : Cst) (bv wv pv ov : Value) (w : World) (h : ChAt w (· < w.heap.size) bv wv pv ov c) :
    Calls Tryz.prog 75 #[chV c bv wv pv ov, stV s] w fun e w' => e = .returned (.tuple #[.int .i64 (valueC c s).1, .int .i64 (valueC c s).2]) ∧ Below w.heap.size w w' := by
  unfold chV stV
  obtain ⟨ball, need, str, par, nxt⟩ := s
  obtain ⟨A, ca, rfl, hc1, hc2⟩ := h.mdl.bat.shape
  obtain ⟨A1, ca1, rfl, hc3, hc4⟩ := h.mdl.bow.shape
  obtain ⟨A2, ca2, rfl, hc5, hc6⟩ := h.bow.shape
  obtain ⟨A3, ca3, rfl, hc7, hc8⟩ := h.ord.shape
  have hx := CSB.new w c (.slice A c.mdl.bats.length ca) (.slice A1 c.mdl.bows.length ca1) (.slice A2 c.bows.length ca2) (.slice A3 c.ord.length ca3) ⟨ball, need, str, par, nxt⟩
  have HX := Lib.hid hx
  have HM := Lib.hid h
  obtain ⟨z, hz⟩ : ∃ z, z = valueC c ⟨ball, need, str, par, nxt⟩ := ⟨_, rfl⟩
  rw [← hz]
  unfold valueC at hz
  have k1 := fun W (hW : Below w.heap.size w W) => r44_CheckState c ⟨ball, need, str, par, nxt⟩ _ _ _ _ W (HM.out.below hW)
  have hok := fun h => (chst_ok (c := c) (s := ⟨ball, need, str, par, nxt⟩) h).2
  have k2 := fun (hc : OkC c) (hs : OkS c ⟨ball, need, str, par, nxt⟩) W (hW : Below w.heap.size w W) => (r44_fill c hc _ ⟨ball, need, str, par, nxt⟩ rfl hs (.slice A c.mdl.bats.length ca) (.slice A1 c.mdl.bows.length ca1) (.slice A2 c.bows.length ca2) (.slice A3 c.ord.length ca3) (· < w.heap.size) W.heap.size 0 (.map []) (W.alloc (.map #[] 0)) (h.keep (Same.of_below (hW.alloc hW.size _)) fun b hb => hb) (fun x hx => ⟨by have := hW.size; simp; omega, by have := hW.size; omega⟩) (World.ownsMap_made W _ _ _) (Known.none c) (by rw [Nat.zero_add]; exact Nat.le_trans (cntV_le _ (left_le hc hs)) (by decide))).mono (R' := fun e w' => e = .returned (.int .i64 (valS c ⟨ball, need, str, par, nxt⟩)) ∧ Below w.heap.size w w') fun e w' h => ⟨h.1, (hW.alloc hW.size _).trans (h.2.1.below hW.size (by have := hW.size; simp; omega))⟩
  unfold chV stV at k1 k2
  dsimp only at k1 k2
  obtain ⟨u, hu⟩ : ∃ u, u = chstC c ⟨ball, need, str, par, nxt⟩ := ⟨_, rfl⟩
  obtain ⟨v, hv⟩ : ∃ v, v = valS c ⟨ball, need, str, par, nxt⟩ := ⟨_, rfl⟩
  rw [← hu] at k1 hz hok
  rw [← hv] at k2 hz
  have K1 := Lib.hid k1
  have tok0 : True := trivial
  have hmm := @run_makeMap Tryz.prog
  clear k1 hu hv h hx
  by_cases h0 : u = 0
  · rw [if_neg (by omega)] at hz
    have HZ := Lib.hid hz
    have K2 := Lib.hid (k2 (hok h0).1 (hok h0).2)
    have eu : (u != 0) = false := by simp [h0]
    clear hz h0 hok k2
    go_enter Tryz.func75, Tryz.ntmps75
    go_wp2_with (first
      | (clear tok0; go_at_call 108; refine (K1.out _ HX.out.bel).mono ?_; rintro e w2 ⟨rfl, hb2⟩; have HX2 := Lib.hid (HX.out.below hb2); obtain ⟨x0, x1, x2, x3, x4, x5, x6, y0, y1, y2, y3, y4⟩ := HX2.out.cells; dsimp only at y0 y1 y2 y3 y4; clear hb2; have tok1 : True := trivial)
      | (clear tok1; go_at_call 109; refine (K2.out _ HX2.out.bel).mono ?_; rintro e w3 ⟨rfl, hb3⟩; have HB3 := Lib.hid hb3; clear hb3; have tok2 : True := trivial))
    go_ret2
    exact ⟨by rw [HZ.out] <;> rfl, HB3.out⟩
  · rw [if_pos h0] at hz
    have HZ := Lib.hid hz
    have eu : (u != 0) = true := by simp [h0]
    clear hz h0 hok k2
    go_enter Tryz.func75, Tryz.ntmps75
    go_wp2_with (clear tok0; go_at_call 108; refine (K1.out _ HX.out.bel).mono ?_; rintro e w2 ⟨rfl, hb2⟩; have HX2 := Lib.hid (HX.out.below hb2); obtain ⟨x0, x1, x2, x3, x4, x5, x6, y0, y1, y2, y3, y4⟩ := HX2.out.cells; dsimp only at y0 y1 y2 y3 y4; clear hb2; have tok1 : True := trivial)
    go_ret2
    exact ⟨by rw [HZ.out] <;> rfl, HX2.out.bel⟩
def bigC (c : Chs) : Bool := decide (30 < c.mdl.bats.length) || decide (30 < c.mdl.bows.length) || decide (6 < c.ord.length) || decide (6 < c.bows.length) || decide (24 < c.need)
def smallC (c : Chs) : Bool := !bigC c && c.mdl.bats.all (fun b => decide (b.dist.length ≤ 100))
theorem small44_drop {l : List Bat} {k : Nat} (hk : k < l.length) : (l.drop k).all (fun b => decide (b.dist.length ≤ 100)) = (decide (l[k].dist.length ≤ 100) && (l.drop (k + 1)).all (fun b => decide (b.dist.length ≤ 100))) := by
  rw [drop_get hk, List.all_cons]
theorem big_ways (c : Chs) : (bigC c = true ∧ (30 < (c.mdl.bats.length : Int) ∨ (¬ 30 < (c.mdl.bats.length : Int) ∧ 30 < (c.mdl.bows.length : Int)) ∨ (¬ 30 < (c.mdl.bats.length : Int) ∧ ¬ 30 < (c.mdl.bows.length : Int) ∧ 6 < (c.ord.length : Int)) ∨ (¬ 30 < (c.mdl.bats.length : Int) ∧ ¬ 30 < (c.mdl.bows.length : Int) ∧ ¬ 6 < (c.ord.length : Int) ∧ 6 < (c.bows.length : Int)) ∨ (¬ 30 < (c.mdl.bats.length : Int) ∧ ¬ 30 < (c.mdl.bows.length : Int) ∧ ¬ 6 < (c.ord.length : Int) ∧ ¬ 6 < (c.bows.length : Int) ∧ 24 < c.need))) ∨
    (bigC c = false ∧ ¬ 30 < (c.mdl.bats.length : Int) ∧ ¬ 30 < (c.mdl.bows.length : Int) ∧ ¬ 6 < (c.ord.length : Int) ∧ ¬ 6 < (c.bows.length : Int) ∧ ¬ 24 < c.need) := by
  cases h : bigC c
  · refine .inr ⟨rfl, ?_⟩
    unfold bigC at h
    simp only [Bool.or_eq_false_iff, decide_eq_false_iff_not] at h
    omega
  · refine .inl ⟨rfl, ?_⟩
    unfold bigC at h
    simp only [Bool.or_eq_true, decide_eq_true_eq] at h
    omega
set_option maxRecDepth 100000 in
set_option maxHeartbeats 2000000 in
theorem law44_Small (c : Chs) (bv wv pv ov : Value) (w : World) (h : ChAt w (· < w.heap.size) bv wv pv ov c) :
    Calls Tryz.prog 12 #[chV c bv wv pv ov] w fun e w' => e = .returned (.bool (smallC c)) ∧ Below w.heap.size w w' := by
  unfold chV
  obtain ⟨z, hz⟩ : ∃ z, z = smallC c := ⟨_, rfl⟩
  rw [← hz]
  unfold smallC at hz
  obtain ⟨A, ca, rfl, hc1, hc2⟩ := h.mdl.bat.shape
  obtain ⟨A1, ca1, rfl, hc3, hc4⟩ := h.mdl.bow.shape
  obtain ⟨A2, ca2, rfl, hc5, hc6⟩ := h.bow.shape
  obtain ⟨A3, ca3, rfl, hc7, hc8⟩ := h.ord.shape
  have HX := Lib.hid (ChB.new w c (.slice A c.mdl.bats.length ca) (.slice A1 c.mdl.bows.length ca1) (.slice A2 c.bows.length ca2) (.slice A3 c.ord.length ca3))
  have HL := Lib.hid h.mdl.bat
  have hw := big_ways c
  clear h
  rcases hw with ⟨hb, hw⟩ | ⟨hb, g1, g2, g3, g4, g5⟩
  · rw [hb, Bool.not_true, Bool.false_and] at hz
    have HZ := Lib.hid hz
    clear hz hb HL
    rcases hw with g1 | ⟨g1, g2⟩ | ⟨g1, g2, g3⟩ | ⟨g1, g2, g3, g4⟩ | ⟨g1, g2, g3, g4, g5⟩
    all_goals
      go_enter Tryz.func12, Tryz.ntmps12
      go_wp2
      go_ret
      exact ⟨ret_b HZ.out.symm, HX.out.bel⟩
  · rw [hb, Bool.not_false, Bool.true_and] at hz
    have HZ : Hid (z = (c.mdl.bats.drop 0).all (fun b => decide (b.dist.length ≤ 100))) := hz
    clear hz hb
    go_enter Tryz.func12, Tryz.ntmps12
    go_wp2
    go_loopw [38] (fun i wr => ∃ k : Nat, k ≤ c.mdl.bats.length ∧ i = .int .i64 k ∧ Hid (ChB w wr w.heap.size c (.slice A c.mdl.bats.length ca) (.slice A1 c.mdl.bows.length ca1) (.slice A2 c.bows.length ca2) (.slice A3 c.ord.length ca3)) ∧ Hid (z = (c.mdl.bats.drop k).all (fun b => decide (b.dist.length ≤ 100)))) (fun i _ => c.mdl.bats.length - (intOf i).toNat)
    case atStart => exact ⟨0, Nat.zero_le _, rfl, HX, HZ⟩
    case round =>
      clear HX HZ
      obtain ⟨k, hk, rfl, HW, hzz⟩ := hrel
      by_cases hlt : k < c.mdl.bats.length
      · obtain ⟨b0, o, v, rfl, hbl, yy0, yy1, hv, hpl⟩ := bat_at HL.out hlt
        have y0 := (HW.out.bel.cell (p := ⟨b0, o + k * 2, none⟩) hbl).trans yy0
        have y1 := (HW.out.bel.cell (p := ⟨b0, o + k * 2 + 1, none⟩) hbl).trans yy1
        have hz2 := hzz.out
        rw [small44_drop hlt] at hz2
        obtain ⟨A9, c9, hve, _, _⟩ := hv.shape
        obtain ⟨p, hp⟩ : ∃ b, b = c.mdl.bats[k] := ⟨_, rfl⟩
        rw [← hp] at y0 hz2 hve
        obtain ⟨n2, hn2⟩ : ∃ n, n = p.dist.length := ⟨_, rfl⟩
        obtain ⟨pn, hpn⟩ : ∃ n, n = p.name := ⟨_, rfl⟩
        rw [← hn2] at hve hz2
        rw [← hpn] at y0
        subst hve
        have HA := Lib.hid (HW.out.alloc (.cells #[.string (S pn), .slice A9 n2 c9] 77))
        clear hzz hp hn2 hpn yy0 yy1 hv hpl
        by_cases hs : n2 ≤ 100
        · rw [decide_eq_true hs, Bool.true_and] at hz2
          have HZZ := Lib.hid hz2
          have g9 : ¬ (100 : Int) < (n2 : Int) := by omega
          clear hz2 hs
          go_wp2
          go_roundw
          case rel => exact ⟨k + 1, by omega, by go_num, HA, HZZ⟩
          case measure => simp [intOf]; omega
        · rw [decide_eq_false hs, Bool.false_and] at hz2
          have HZZ := Lib.hid hz2
          have g9 : (100 : Int) < (n2 : Int) := by omega
          clear hz2 hs
          go_wp2
          go_ret
          exact ⟨ret_b HZZ.out.symm, HA.out.bel⟩
      · obtain rfl : k = c.mdl.bats.length := by omega
        have hz2 := hzz.out
        rw [List.drop_of_length_le (Nat.le_refl _), List.all_nil] at hz2
        have HZZ := Lib.hid hz2
        clear hz2 hzz
        go_wp2
        go_ret
        exact ⟨ret_b HZZ.out.symm, HW.out.bel⟩
end Go.Proofs.YtfnfbojaiikigaaGreatDoor

namespace Go.Proofs.YtfnfbojaiikigaaGreatDoor
open Go.RowKit

theorem otc_ex3 {W w' : World} {l : List Otc} {u : Int} {e : Ending} (h : OtcPost W (l, u) e w') : ∃ A n c, e = .returned (.tuple #[.slice A n c, .int .i64 u]) ∧ Below W.heap.size W w' ∧ Sl 3 elOtc w' (· < w'.heap.size) (.slice A n c) l := by
  obtain ⟨v, rfl, hs, hb⟩ := h
  obtain ⟨A, c, rfl, _⟩ := hs.shape
  exact ⟨A, _, c, rfl, hb, hs.keep elOtc_good (Same.refl _ _) fun b h => h.2⟩
theorem sl_on3 {w W : World} {v : Value} {l : List Otc} (h : Sl 3 elOtc w (· < w.heap.size) v l) (hb : Below w.heap.size w W) : Sl 3 elOtc W (· < W.heap.size) v l := h.keep elOtc_good (Same.of_below hb) fun b hx => Nat.lt_of_lt_of_le hx hb.size
theorem itoa_dig3 (n : Nat) (h : n < 10) : Lib.itoa (n : Int) = [UInt8.ofNat (48 + n)] := by
  unfold Lib.itoa
  rw [if_neg (by omega), Int.toNat_natCast, Lib.decDigits, dif_pos h]
theorem otcW_dig3 (r t : Nat) (b : Bool) (hr : r < 10) (ht : t < 10) : otcW ⟨(r : Int), b, (t : Int)⟩ = UInt8.ofNat (48 + r) :: ((if b = true then [87] else []) ++ [58, UInt8.ofNat (48 + t)]) := by
  unfold otcW
  simp only
  rw [itoa_dig3 r hr, itoa_dig3 t ht]
  simp
theorem dec_two (n : Nat) (h : 10 ≤ n) (h2 : n < 100) : Lib.itoa (n : Int) = [UInt8.ofNat (48 + n / 10), UInt8.ofNat (48 + n % 10)] := by
  unfold Lib.itoa
  rw [if_neg (by omega), Int.toNat_natCast, Lib.decDigits, dif_neg (by omega), Lib.decDigits, dif_pos (by omega)]
  rfl
theorem otcW_dig2 (r t : Nat) (b : Bool) (hr : r < 10) (h : 10 ≤ t) (ht : t < 100) : otcW ⟨(r : Int), b, (t : Int)⟩ = UInt8.ofNat (48 + r) :: ((if b = true then [87] else []) ++ [58, UInt8.ofNat (48 + t / 10), UInt8.ofNat (48 + t % 10)]) := by
  unfold otcW
  simp only
  rw [itoa_dig3 r hr, dec_two t h ht]
  simp
def exmM1 : List UInt8 := [48, 58, 56, 32, 49, 58, 52, 32, 52, 58, 52]
def exmM1d : List Otc := [⟨0, false, 8⟩, ⟨1, false, 4⟩, ⟨4, false, 4⟩]
theorem exmM1_text : textC exmM1d = (exmM1, 0) := by
  have h0 : checkD exmM1d = 0 := by kernel_rfl
  have e0 := otcW_dig3 0 8 false (by omega) (by omega)
  have e1 := otcW_dig3 1 4 false (by omega) (by omega)
  have e2 := otcW_dig3 4 4 false (by omega) (by omega)
  unfold textC
  rw [if_neg (fun k => k h0)]
  show (Lib.join [otcW ⟨((0 : Nat) : Int), false, ((8 : Nat) : Int)⟩, otcW ⟨((1 : Nat) : Int), false, ((4 : Nat) : Int)⟩, otcW ⟨((4 : Nat) : Int), false, ((4 : Nat) : Int)⟩] [32], (0 : Int)) = _
  rw [e0, e1, e2]
  kernel_rfl
def exmM2 : List UInt8 := [48, 58, 49, 53, 32, 49, 58, 49]
def exmM2d : List Otc := [⟨0, false, 15⟩, ⟨1, false, 1⟩]
theorem exmM2_text : textC exmM2d = (exmM2, 0) := by
  have h0 : checkD exmM2d = 0 := by kernel_rfl
  have e0 := otcW_dig2 0 15 false (by omega) (by omega) (by omega)
  have e1 := otcW_dig3 1 1 false (by omega) (by omega)
  unfold textC
  rw [if_neg (fun k => k h0)]
  show (Lib.join [otcW ⟨((0 : Nat) : Int), false, ((15 : Nat) : Int)⟩, otcW ⟨((1 : Nat) : Int), false, ((1 : Nat) : Int)⟩] [32], (0 : Int)) = _
  rw [e0, e1]
  kernel_rfl
def exmA : List UInt8 := [48, 58, 49, 48, 32, 48, 87, 58, 49, 32, 49, 58, 52, 32, 52, 58, 49]
def exmAd : List Otc := [⟨0, false, 10⟩, ⟨0, true, 1⟩, ⟨1, false, 4⟩, ⟨4, false, 1⟩]
theorem exmA_text : textC exmAd = (exmA, 0) := by
  have h0 : checkD exmAd = 0 := by kernel_rfl
  have e0 := otcW_dig2 0 10 false (by omega) (by omega) (by omega)
  have e1 := otcW_dig3 0 1 true (by omega) (by omega)
  have e2 := otcW_dig3 1 4 false (by omega) (by omega)
  have e3 := otcW_dig3 4 1 false (by omega) (by omega)
  unfold textC
  rw [if_neg (fun k => k h0)]
  show (Lib.join [otcW ⟨((0 : Nat) : Int), false, ((10 : Nat) : Int)⟩, otcW ⟨((0 : Nat) : Int), true, ((1 : Nat) : Int)⟩, otcW ⟨((1 : Nat) : Int), false, ((4 : Nat) : Int)⟩, otcW ⟨((4 : Nat) : Int), false, ((1 : Nat) : Int)⟩] [32], (0 : Int)) = _
  rw [e0, e1, e2, e3]
  kernel_rfl
def exmB : List UInt8 := [48, 58, 55, 32, 49, 58, 53, 32, 52, 58, 52]
def exmBd : List Otc := [⟨0, false, 7⟩, ⟨1, false, 5⟩, ⟨4, false, 4⟩]
theorem exmB_text : textC exmBd = (exmB, 0) := by
  have h0 : checkD exmBd = 0 := by kernel_rfl
  have e0 := otcW_dig3 0 7 false (by omega) (by omega)
  have e1 := otcW_dig3 1 5 false (by omega) (by omega)
  have e2 := otcW_dig3 4 4 false (by omega) (by omega)
  unfold textC
  rw [if_neg (fun k => k h0)]
  show (Lib.join [otcW ⟨((0 : Nat) : Int), false, ((7 : Nat) : Int)⟩, otcW ⟨((1 : Nat) : Int), false, ((5 : Nat) : Int)⟩, otcW ⟨((4 : Nat) : Int), false, ((4 : Nat) : Int)⟩] [32], (0 : Int)) = _
  rw [e0, e1, e2]
  kernel_rfl
def exmC : List UInt8 := [48, 58, 49, 54]
def exmCd : List Otc := [⟨0, false, 16⟩]
theorem exmC_text : textC exmCd = (exmC, 0) := by
  have h0 : checkD exmCd = 0 := by kernel_rfl
  have e0 := otcW_dig2 0 16 false (by omega) (by omega) (by omega)
  unfold textC
  rw [if_neg (fun k => k h0)]
  show (Lib.join [otcW ⟨((0 : Nat) : Int), false, ((16 : Nat) : Int)⟩] [32], (0 : Int)) = _
  rw [e0]
  kernel_rfl
theorem exmM1_parse : parseC exmM1 = (exmM1d, 0) := by
  have h1 : (pieces 32 exmM1).all pieceOk = true := by kernel_rfl
  have h2 : (pieces 32 exmM1).map pieceO = exmM1d := by kernel_rfl
  unfold parseC
  rw [h1, if_neg (by simp), h2, exmM1_text, if_neg (by simp)]
theorem exmM2_parse : parseC exmM2 = (exmM2d, 0) := by
  have h1 : (pieces 32 exmM2).all pieceOk = true := by kernel_rfl
  have h2 : (pieces 32 exmM2).map pieceO = exmM2d := by kernel_rfl
  unfold parseC
  rw [h1, if_neg (by simp), h2, exmM2_text, if_neg (by simp)]
theorem exm_A : shiftS exmM1d 3 = (exmAd, 0) := by kernel_rfl
theorem exm_B : shiftS exmM1d (-1) = (exmBd, 0) := by kernel_rfl
theorem exm_C : shiftS exmM2d 5 = (exmCd, 0) := by kernel_rfl
end Go.Proofs.YtfnfbojaiikigaaGreatDoor

namespace Go.Proofs.YtfnfbojaiikigaaGreatDoor
open Go.RowKit

theorem bats_lit (W : World) (v : Value) (d : List Otc) (x y : List UInt8) (hv : Sl 3 elOtc W (· < W.heap.size) v d) (hx : x.length ≤ maxLen) (hy : y.length ≤ maxLen) :
    Sl 2 elBat (W.alloc (.cells #[.string (S x), v, .string (S y), v] 77)) (· < (W.alloc (.cells #[.string (S x), v, .string (S y), v] 77)).heap.size) (.slice (some ⟨W.heap.size, 0, none⟩) 2 2) [⟨x, d⟩, ⟨y, d⟩] := by
  have hk := Blk.new W 77 #[.string (S x), v, .string (S y), v]
  have hb : Below W.heap.size W (W.alloc (.cells #[.string (S x), v, .string (S y), v] 77)) := Below.alloc (Below.refl _ _) (Nat.le_refl _) _
  have hv2 := hv.keep (G := (· < (W.alloc (.cells #[.string (S x), v, .string (S y), v] 77)).heap.size)) elOtc_good (Same.of_below hb) fun b h => Nat.lt_of_lt_of_le h hb.size
  refine ⟨_, 2, rfl, Nat.le_refl _, by decide, fun h0 => ⟨W.heap.size, 0, rfl, by simp, fun i a hi => ?_⟩⟩
  have hlt := (List.getElem?_eq_some_iff.1 hi).1
  have hc : i = 0 ∨ i = 1 := by simp at hlt; omega
  rcases hc with rfl | rfl
  · simp at hi; subst hi
    refine ⟨[.string (S x), v], rfl, fun j u hu => ?_, ⟨_, rfl, hv2⟩, hx⟩
    have hj : j = 0 ∨ j = 1 := by have := (List.getElem?_eq_some_iff.1 hu).1; simp at this; omega
    rcases hj with rfl | rfl
    · simp at hu; subst hu; exact hk.cell 0
    · simp at hu; subst hu; exact hk.cell 1
  · simp at hi; subst hi
    refine ⟨[.string (S y), v], rfl, fun j u hu => ?_, ⟨_, rfl, hv2⟩, hy⟩
    have hj : j = 0 ∨ j = 1 := by have := (List.getElem?_eq_some_iff.1 hu).1; simp at this; omega
    rcases hj with rfl | rfl
    · simp at hu; subst hu; exact hk.cell 2
    · simp at hu; subst hu; exact hk.cell 3
theorem bows_lit (W : World) (x : List UInt8) (n : Int) (hx : x.length ≤ maxLen) :
    Sl 2 elBow (W.alloc (.cells #[.string (S x), .int .i64 n] 90)) (· < (W.alloc (.cells #[.string (S x), .int .i64 n] 90)).heap.size) (.slice (some ⟨W.heap.size, 0, none⟩) 1 1) [⟨x, n⟩] := by
  have hk := Blk.new W 90 #[.string (S x), .int .i64 n]
  refine ⟨_, 1, rfl, Nat.le_refl _, by decide, fun h0 => ⟨W.heap.size, 0, rfl, by simp, fun i a hi => ?_⟩⟩
  have hlt := (List.getElem?_eq_some_iff.1 hi).1
  obtain rfl : i = 0 := by simp at hlt; omega
  simp at hi; subst hi
  refine ⟨[.string (S x), .int .i64 n], rfl, fun j u hu => ?_, rfl, hx⟩
  have hj : j = 0 ∨ j = 1 := by have := (List.getElem?_eq_some_iff.1 hu).1; simp at this; omega
  rcases hj with rfl | rfl
  · simp at hu; subst hu; exact hk.cell 0
  · simp at hu; subst hu; exact hk.cell 1
theorem ints_one (W : World) (a : Int) (e : TypeId) : Sl 1 elInt (W.alloc (.cells #[.int .i64 a] e)) (· < (W.alloc (.cells #[.int .i64 a] e)).heap.size) (.slice (some ⟨W.heap.size, 0, none⟩) 1 1) [a] := by
  have hk := Blk.new W e #[.int .i64 a]
  refine ⟨_, 1, rfl, Nat.le_refl _, by decide, fun h0 => ⟨W.heap.size, 0, rfl, by simp, fun i b hi => ?_⟩⟩
  have hlt := (List.getElem?_eq_some_iff.1 hi).1
  obtain rfl : i = 0 := by simp at hlt; omega
  simp at hi; subst hi
  refine ⟨[.int .i64 a], rfl, fun j u hu => ?_, rfl⟩
  obtain rfl : j = 0 := by have := (List.getElem?_eq_some_iff.1 hu).1; simp at this; omega
  simp at hu; subst hu; exact hk.cell 0
theorem ints_two (W : World) (a b : Int) (e : TypeId) : Sl 1 elInt (W.alloc (.cells #[.int .i64 a, .int .i64 b] e)) (· < (W.alloc (.cells #[.int .i64 a, .int .i64 b] e)).heap.size) (.slice (some ⟨W.heap.size, 0, none⟩) 2 2) [a, b] := by
  have hk := Blk.new W e #[.int .i64 a, .int .i64 b]
  refine ⟨_, 2, rfl, Nat.le_refl _, by decide, fun h0 => ⟨W.heap.size, 0, rfl, by simp, fun i x hi => ?_⟩⟩
  have hlt := (List.getElem?_eq_some_iff.1 hi).1
  have hc : i = 0 ∨ i = 1 := by simp at hlt; omega
  rcases hc with rfl | rfl
  · simp at hi; subst hi
    refine ⟨[.int .i64 a], rfl, fun j u hu => ?_, rfl⟩
    obtain rfl : j = 0 := by have := (List.getElem?_eq_some_iff.1 hu).1; simp at this; omega
    simp at hu; subst hu; exact hk.cell 0
  · simp at hi; subst hi
    refine ⟨[.int .i64 b], rfl, fun j u hu => ?_, rfl⟩
    obtain rfl : j = 0 := by have := (List.getElem?_eq_some_iff.1 hu).1; simp at this; omega
    simp at hu; subst hu; exact hk.cell 1
def chM : Mdl := ⟨[⟨[65], exmM1d⟩, ⟨[66], exmM1d⟩], [⟨[67], 0⟩]⟩
def ch1 : Chs := ⟨chM, [0], 6, 0, 2, [0, 1]⟩
def ch2 : Chs := ⟨chM, [0, 0], 6, 0, 2, [0, 1]⟩
theorem ch1_start : startC ch1 = (⟨0, 2, 0, 1, 2⟩, 0) := by kernel_rfl
theorem ch1_value : valueC ch1 ⟨0, 2, 0, 1, 2⟩ = (4, 0) := by kernel_rfl
theorem ch2_value : valueC ch2 ⟨0, 2, 0, 1, 2⟩ = (128, 0) := by kernel_rfl
/-- The world in which the first chase is laid. -/
def awW (w1 : World) (v : Value) : World :=
  (((((w1.alloc (.cells #[.string (S [65]), v, .string (S [66]), v] 77)).alloc (.cells #[.string (S [67]), .int .i64 0] 90)).alloc (.cells #[.slice (some ⟨w1.heap.size, 0, none⟩) 2 2, .slice (some ⟨w1.heap.size + 1, 0, none⟩) 1 1] 25)).alloc (.cells #[.int .i64 0] 3)).alloc (.cells #[.int .i64 0, .int .i64 1] 3)).alloc
    (.cells #[.slice (some ⟨w1.heap.size, 0, none⟩) 2 2, .slice (some ⟨w1.heap.size + 1, 0, none⟩) 1 1, .slice (some ⟨w1.heap.size + 1 + 1 + 1, 0, none⟩) 1 1, .int .i64 6, .int .i64 0, .int .i64 2, .slice (some ⟨w1.heap.size + 1 + 1 + 1 + 1, 0, none⟩) 2 2] 28)
/-- The first chase laid, in a world that has gone on. -/
structure AwI (w1 W : World) : Prop where
  bel : Below w1.heap.size w1 W
  ch : ChAt W (· < w1.heap.size + 1 + 1 + 1 + 1 + 1) (.slice (some ⟨w1.heap.size, 0, none⟩) 2 2) (.slice (some ⟨w1.heap.size + 1, 0, none⟩) 1 1) (.slice (some ⟨w1.heap.size + 1 + 1 + 1, 0, none⟩) 1 1) (.slice (some ⟨w1.heap.size + 1 + 1 + 1 + 1, 0, none⟩) 2 2) ch1
  blk : Blk W (w1.heap.size + 1 + 1 + 1 + 1 + 1) 28 #[.slice (some ⟨w1.heap.size, 0, none⟩) 2 2, .slice (some ⟨w1.heap.size + 1, 0, none⟩) 1 1, .slice (some ⟨w1.heap.size + 1 + 1 + 1, 0, none⟩) 1 1, .int .i64 6, .int .i64 0, .int .i64 2, .slice (some ⟨w1.heap.size + 1 + 1 + 1 + 1, 0, none⟩) 2 2]
theorem AwI.below {w1 W W' : World} (h : AwI w1 W) (hb : Below W.heap.size W W') : AwI w1 W' :=
  ⟨h.bel.trans (hb.mono h.bel.size), h.ch.keep (Same.below hb fun b hb => Nat.lt_trans hb h.blk.lt) fun b hb => hb, h.blk.below hb h.blk.lt⟩
theorem AwI.in {w1 W : World} (h : AwI w1 W) : ChAt W (· < W.heap.size) (.slice (some ⟨w1.heap.size, 0, none⟩) 2 2) (.slice (some ⟨w1.heap.size + 1, 0, none⟩) 1 1) (.slice (some ⟨w1.heap.size + 1 + 1 + 1, 0, none⟩) 1 1) (.slice (some ⟨w1.heap.size + 1 + 1 + 1 + 1, 0, none⟩) 2 2) ch1 := h.ch.keep (Same.refl _ _) fun b hb => Nat.lt_trans hb h.blk.lt
theorem AwI.cells {w1 W : World} (h : AwI w1 W) (k : Nat) (u : Value) (hk : #[Value.slice (some ⟨w1.heap.size, 0, none⟩) 2 2, .slice (some ⟨w1.heap.size + 1, 0, none⟩) 1 1, .slice (some ⟨w1.heap.size + 1 + 1 + 1, 0, none⟩) 1 1, .int .i64 6, .int .i64 0, .int .i64 2, .slice (some ⟨w1.heap.size + 1 + 1 + 1 + 1, 0, none⟩) 2 2][k]? = some u) : W.cell? ⟨w1.heap.size + 1 + 1 + 1 + 1 + 1, k, none⟩ = some u := (h.blk.cell k).trans hk
theorem Sl.up {α : Type} {size : Nat} {R : World → (Nat → Prop) → List Value → α → Prop} (hR : Good R) {W W' : World} {n m : Nat} {v : Value} {l : List α} (h : Sl size R W (· < W.heap.size) v l) (hb : Below W.heap.size W W') (hn : W.heap.size ≤ m) : Sl size R W' (· < m) v l :=
  h.keep hR (Same.of_below hb) fun b hb => Nat.lt_of_lt_of_le hb hn
theorem aw_start (w1 : World) (A : Option Addr) (c1 : Nat) (h : Sl 3 elOtc w1 (· < w1.heap.size) (.slice A 3 c1) exmM1d) : AwI w1 (awW w1 (.slice A 3 c1)) := by
  unfold awW
  have s1 := bats_lit w1 (.slice A 3 c1) exmM1d [65] [66] h (by decide) (by decide)
  obtain ⟨W1, hW1⟩ : ∃ W, W = w1.alloc (.cells #[.string (S [65]), .slice A 3 c1, .string (S [66]), .slice A 3 c1] 77) := ⟨_, rfl⟩
  have z1 : W1.heap.size = w1.heap.size + 1 := by rw [hW1]; simp
  have b1 : Below w1.heap.size w1 W1 := by rw [hW1]; exact Below.alloc (Below.refl _ _) (Nat.le_refl _) _
  rw [← hW1] at s1 ⊢
  have s2 := bows_lit W1 [67] 0 (by decide)
  rw [z1] at s2
  obtain ⟨W2, hW2⟩ : ∃ W, W = W1.alloc (.cells #[.string (S [67]), .int .i64 0] 90) := ⟨_, rfl⟩
  have z2 : W2.heap.size = w1.heap.size + 1 + 1 := by rw [hW2]; simp [z1]
  have b2 : Below W1.heap.size W1 W2 := by rw [hW2]; exact Below.alloc (Below.refl _ _) (Nat.le_refl _) _
  rw [← hW2] at s2 ⊢
  obtain ⟨W3, hW3⟩ : ∃ W, W = W2.alloc (.cells #[.slice (some ⟨w1.heap.size, 0, none⟩) 2 2, .slice (some ⟨w1.heap.size + 1, 0, none⟩) 1 1] 25) := ⟨_, rfl⟩
  have z3 : W3.heap.size = w1.heap.size + 1 + 1 + 1 := by rw [hW3]; simp [z2]
  have b3 : Below W2.heap.size W2 W3 := by rw [hW3]; exact Below.alloc (Below.refl _ _) (Nat.le_refl _) _
  rw [← hW3]
  have s4 := ints_one W3 0 3
  rw [z3] at s4
  obtain ⟨W4, hW4⟩ : ∃ W, W = W3.alloc (.cells #[.int .i64 0] 3) := ⟨_, rfl⟩
  have z4 : W4.heap.size = w1.heap.size + 1 + 1 + 1 + 1 := by rw [hW4]; simp [z3]
  have b4 : Below W3.heap.size W3 W4 := by rw [hW4]; exact Below.alloc (Below.refl _ _) (Nat.le_refl _) _
  rw [← hW4] at s4 ⊢
  have s5 := ints_two W4 0 1 3
  rw [z4] at s5
  obtain ⟨W5, hW5⟩ : ∃ W, W = W4.alloc (.cells #[.int .i64 0, .int .i64 1] 3) := ⟨_, rfl⟩
  have z5 : W5.heap.size = w1.heap.size + 1 + 1 + 1 + 1 + 1 := by rw [hW5]; simp [z4]
  have b5 : Below W4.heap.size W4 W5 := by rw [hW5]; exact Below.alloc (Below.refl _ _) (Nat.le_refl _) _
  rw [← hW5] at s5 ⊢
  have k6 := Blk.new W5 28 #[.slice (some ⟨w1.heap.size, 0, none⟩) 2 2, .slice (some ⟨w1.heap.size + 1, 0, none⟩) 1 1, .slice (some ⟨w1.heap.size + 1 + 1 + 1, 0, none⟩) 1 1, .int .i64 6, .int .i64 0, .int .i64 2, .slice (some ⟨w1.heap.size + 1 + 1 + 1 + 1, 0, none⟩) 2 2]
  rw [z5] at k6
  have b6 : Below W5.heap.size W5 (W5.alloc (.cells #[.slice (some ⟨w1.heap.size, 0, none⟩) 2 2, .slice (some ⟨w1.heap.size + 1, 0, none⟩) 1 1, .slice (some ⟨w1.heap.size + 1 + 1 + 1, 0, none⟩) 1 1, .int .i64 6, .int .i64 0, .int .i64 2, .slice (some ⟨w1.heap.size + 1 + 1 + 1 + 1, 0, none⟩) 2 2] 28)) := Below.alloc (Below.refl _ _) (Nat.le_refl _) _
  have c5 := b6
  have c4 := b5.trans (c5.mono b5.size)
  have c3 := b4.trans (c4.mono b4.size)
  have c2 := b3.trans (c3.mono b3.size)
  have c1 := b2.trans (c2.mono b2.size)
  exact ⟨b1.trans (c1.mono b1.size), ⟨⟨Sl.up elBat_good s1 c1 (by omega) (n := 0), Sl.up elBow_good s2 c2 (by omega) (n := 0)⟩, Sl.up elInt_good s4 c4 (by omega) (n := 0), Sl.up elInt_good s5 c5 (by omega) (n := 0)⟩, k6⟩
/-- The second chase: the bowlers are stored anew. -/
theorem aw_second {w1 W : World} (h : AwI w1 W) (u : Value) (hu : u = .slice (some ⟨W.heap.size, 0, none⟩) 2 2) :
    Below w1.heap.size w1 ((W.setCell ⟨w1.heap.size + 1 + 1 + 1 + 1 + 1, 2, none⟩ u).alloc (.cells #[.int .i64 0, .int .i64 0] 3)) ∧
    ChAt ((W.setCell ⟨w1.heap.size + 1 + 1 + 1 + 1 + 1, 2, none⟩ u).alloc (.cells #[.int .i64 0, .int .i64 0] 3)) (· < ((W.setCell ⟨w1.heap.size + 1 + 1 + 1 + 1 + 1, 2, none⟩ u).alloc (.cells #[.int .i64 0, .int .i64 0] 3)).heap.size) (.slice (some ⟨w1.heap.size, 0, none⟩) 2 2) (.slice (some ⟨w1.heap.size + 1, 0, none⟩) 1 1) u (.slice (some ⟨w1.heap.size + 1 + 1 + 1 + 1, 0, none⟩) 2 2) ch2 := by
  obtain ⟨W2, hW2⟩ : ∃ X, X = W.setCell ⟨w1.heap.size + 1 + 1 + 1 + 1 + 1, 2, none⟩ u := ⟨_, rfl⟩
  have hb : Below (w1.heap.size + 1 + 1 + 1 + 1 + 1) W W2 := by rw [hW2]; refine Below.setCell (Below.refl _ _) ?_ _; exact Nat.le_refl _
  have hz : W2.heap.size = W.heap.size := by rw [hW2]; simp
  rw [← hW2]
  have hba : Below W2.heap.size W2 (W2.alloc (.cells #[.int .i64 0, .int .i64 0] 3)) := Below.alloc (Below.refl _ _) (Nat.le_refl _) _
  have s5 := ints_two W2 0 0 3
  rw [hz, ← hu] at s5
  have hlt := h.blk.lt
  have hsz : W2.heap.size ≤ (W2.alloc (.cells #[.int .i64 0, .int .i64 0] 3)).heap.size := hba.size
  have hall : Below (w1.heap.size + 1 + 1 + 1 + 1 + 1) W (W2.alloc (.cells #[.int .i64 0, .int .i64 0] 3)) := hb.alloc (by omega) _
  have hc := h.ch.keep (G := (· < (W2.alloc (.cells #[.int .i64 0, .int .i64 0] 3)).heap.size)) (Same.below hall fun b hb => hb) fun b hb => Nat.lt_of_lt_of_le (Nat.lt_trans hb hlt) (by omega)
  exact ⟨h.bel.trans (hall.mono (by omega)), ⟨hc.mdl, s5, hc.ord⟩⟩
end Go.Proofs.YtfnfbojaiikigaaGreatDoor

namespace Go.Proofs.YtfnfbojaiikigaaGreatDoor
open Go.RowKit

def tinyOf (c : Chs) : Chs := { c with ord := c.ord.take 6, bows := c.bows.take 6, need := 0 }
/-- Four boxes: a chase, a state, two states handed back. -/
structure Four4 (w W : World) (g ga gb : Nat) (c : Chs) (bv wv pv ov : Value) (s a : Cst) : Prop where
  base : CSB w W g c bv wv pv ov s
  fa : Blk W ga 33 #[.int .i64 a.ball, .int .i64 a.need, .int .i64 a.str, .int .i64 a.par, .int .i64 a.nxt]
  fb : Blk W gb 33 #[.int .i64 a.ball, .int .i64 a.need, .int .i64 a.str, .int .i64 a.par, .int .i64 a.nxt]
theorem Four4.below {w W W' : World} {g ga gb : Nat} {c : Chs} {bv wv pv ov : Value} {s a : Cst} (h : Four4 w W g ga gb c bv wv pv ov s a) (hb : Below W.heap.size W W') : Four4 w W' g ga gb c bv wv pv ov s a := ⟨h.base.below hb, h.fa.below hb h.fa.lt, h.fb.below hb h.fb.lt⟩
theorem blk_five {W : World} {g : Nat} {t : TypeId} {x0 x1 x2 x3 x4 : Value} (h : Blk W g t #[x0, x1, x2, x3, x4]) : W.cell? ⟨g, 0, none⟩ = some x0 ∧ W.cell? ⟨g, 1, none⟩ = some x1 ∧ W.cell? ⟨g, 2, none⟩ = some x2 ∧ W.cell? ⟨g, 3, none⟩ = some x3 ∧ W.cell? ⟨g, 4, none⟩ = some x4 := ⟨h.cell 0, h.cell 1, h.cell 2, h.cell 3, h.cell 4⟩
theorem otc_exC {W w' : World} {l : List Otc} {u : Int} {e : Ending} (h : OtcPost W (l, u) e w') : ∃ A c, e = .returned (.tuple #[.slice A l.length c, .int .i64 u]) ∧ Below W.heap.size W w' ∧ Sl 3 elOtc w' (· < w'.heap.size) (.slice A l.length c) l := by
  obtain ⟨v, rfl, hs, hb⟩ := h
  obtain ⟨A, c, rfl, _⟩ := hs.shape
  exact ⟨A, c, rfl, hb, hs.keep elOtc_good (Same.refl _ _) fun b h => h.2⟩
end Go.Proofs.YtfnfbojaiikigaaGreatDoor

namespace Go.Proofs.YtfnfbojaiikigaaGreatDoor
open Go.RowKit

def sameO (x o : Otc) : Bool := (x.runs == o.runs) && (x.wick == o.wick)
def meetO (o : Otc) : List Otc → Int → Int
  | [], _ => -1
  | x :: r, k => if sameO x o = true then k else meetO o r (k + 1)
theorem meetO_ge (o : Otc) : ∀ (l : List Otc) (k : Int), 0 ≤ k → decide (meetO o l k ≥ 0) = l.any fun x => sameO x o
  | [], _, _ => rfl
  | x :: r, k, hk => by
    rw [meetO, List.any_cons]
    cases h : sameO x o
    · rw [if_neg (by simp), meetO_ge o r (k + 1) (by omega)]; rfl
    · rw [if_pos rfl]; simp [hk]
theorem hitC_same (c : Chs) (s : Cst) (o : Otc) : hitC c s o = (mvC c s).any fun x => sameO x o := rfl
structure StB (w W : World) (g : Nat) (c : Chs) (bv wv pv ov : Value) (s : Cst) (o : Otc) : Prop where
  base : CSB w W g c bv wv pv ov s
  ob : Blk W (g + 1 + 1) 46 #[.int .i64 o.runs, .bool o.wick, .int .i64 o.wt]
  rb : Blk W (g + 1 + 1 + 1) 33 #[.int .i64 0, .int .i64 0, .int .i64 0, .int .i64 0, .int .i64 0]
theorem StB.below {w W W' : World} {g : Nat} {c : Chs} {bv wv pv ov : Value} {s : Cst} {o : Otc} (h : StB w W g c bv wv pv ov s o) (hb : Below W.heap.size W W') : StB w W' g c bv wv pv ov s o := ⟨h.base.below hb, h.ob.below hb h.ob.lt, h.rb.below hb h.rb.lt⟩
theorem StB.new (w : World) (c : Chs) (bv wv pv ov : Value) (s : Cst) (o : Otc) : StB w ((((w.alloc (.cells #[bv, wv, pv, .int .i64 c.over, .int .i64 c.done, .int .i64 c.need, ov] 28)).alloc (.cells #[.int .i64 s.ball, .int .i64 s.need, .int .i64 s.str, .int .i64 s.par, .int .i64 s.nxt] 33)).alloc (.cells #[.int .i64 o.runs, .bool o.wick, .int .i64 o.wt] 46)).alloc (.cells #[.int .i64 0, .int .i64 0, .int .i64 0, .int .i64 0, .int .i64 0] 33)) w.heap.size c bv wv pv ov s o := by
  have hx := CSB.new w c bv wv pv ov s
  obtain ⟨W2, hW⟩ : ∃ W2, W2 = (w.alloc (.cells #[bv, wv, pv, .int .i64 c.over, .int .i64 c.done, .int .i64 c.need, ov] 28)).alloc (.cells #[.int .i64 s.ball, .int .i64 s.need, .int .i64 s.str, .int .i64 s.par, .int .i64 s.nxt] 33) := ⟨_, rfl⟩
  have hs : W2.heap.size = w.heap.size + 1 + 1 := by rw [hW, World.size_alloc, World.size_alloc]
  rw [← hW] at hx ⊢
  have h1 := Below.alloc (Below.refl W2.heap.size W2) (Nat.le_refl _) (.cells #[.int .i64 o.runs, .bool o.wick, .int .i64 o.wt] 46)
  have h2 := Below.alloc h1 h1.size (.cells #[.int .i64 0, .int .i64 0, .int .i64 0, .int .i64 0, .int .i64 0] 33)
  have b1 := (Blk.new W2 46 #[.int .i64 o.runs, .bool o.wick, .int .i64 o.wt]).alloc (.cells #[.int .i64 0, .int .i64 0, .int .i64 0, .int .i64 0, .int .i64 0] 33)
  have b2 := Blk.new (W2.alloc (.cells #[.int .i64 o.runs, .bool o.wick, .int .i64 o.wt] 46)) 33 #[.int .i64 0, .int .i64 0, .int .i64 0, .int .i64 0, .int .i64 0]
  rw [World.size_alloc] at b2
  rw [hs] at b1 b2
  exact ⟨hx.below h2, b1, b2⟩
theorem StB.res {w W : World} {g : Nat} {c : Chs} {bv wv pv ov : Value} {s : Cst} {o : Otc} (h : StB w W g c bv wv pv ov s o) : (W.cell? ⟨g + 1 + 1 + 1, 0, none⟩ = some (.int .i64 0) ∧ W.cell? ⟨g + 1 + 1 + 1, 1, none⟩ = some (.int .i64 0) ∧ W.cell? ⟨g + 1 + 1 + 1, 2, none⟩ = some (.int .i64 0) ∧ W.cell? ⟨g + 1 + 1 + 1, 3, none⟩ = some (.int .i64 0) ∧ W.cell? ⟨g + 1 + 1 + 1, 4, none⟩ = some (.int .i64 0)) ∧
    W.frozen? ⟨g + 1 + 1 + 1, 0, none⟩ = false ∧ W.frozen? ⟨g + 1 + 1 + 1, 1, none⟩ = false ∧ W.frozen? ⟨g + 1 + 1 + 1, 2, none⟩ = false ∧ W.frozen? ⟨g + 1 + 1 + 1, 3, none⟩ = false ∧ W.frozen? ⟨g + 1 + 1 + 1, 4, none⟩ = false :=
  ⟨⟨h.rb.cell 0, h.rb.cell 1, h.rb.cell 2, h.rb.cell 3, h.rb.cell 4⟩, h.rb.frozen 0, h.rb.frozen 1, h.rb.frozen 2, h.rb.frozen 3, h.rb.frozen 4⟩
theorem otc_three {W : World} {g : Nat} {o : Otc} (h : Blk W g 46 #[.int .i64 o.runs, .bool o.wick, .int .i64 o.wt]) : W.cell? ⟨g, 0, none⟩ = some (.int .i64 o.runs) ∧ W.cell? ⟨g, 1, none⟩ = some (.bool o.wick) ∧ W.cell? ⟨g, 2, none⟩ = some (.int .i64 o.wt) := ⟨h.cell 0, h.cell 1, h.cell 2⟩
set_option maxRecDepth 100000 in
theorem step_clo (x o : Otc) (g : Nat) (w : World) (h : Blk w g 46 #[.int .i64 o.runs, .bool o.wick, .int .i64 o.wt]) :
    Calls Tryz.prog 50 #[.agg #[.int .i64 x.runs, .bool x.wick, .int .i64 x.wt], .pointer (some ⟨g, 0, none⟩)] w fun e w' => e = .returned (.bool (sameO x o)) ∧ Below w.heap.size w w' := by
  obtain ⟨y0, y1, y2⟩ := otc_three h
  have hl := h.lt
  obtain ⟨z, hz⟩ : ∃ z, z = sameO x o := ⟨_, rfl⟩
  rw [← hz]
  unfold sameO at hz
  obtain ⟨r1, k1, t1⟩ := x
  obtain ⟨r2, k2, t2⟩ := o
  dsimp only at hz y0 y1 y2 ⊢
  cases e1 : (r1 == r2)
  · rw [e1, Bool.false_and] at hz
    have HZ := Lib.hid hz
    clear hz h
    go_enter Tryz.func50, Tryz.ntmps50
    go_wp2
    go_ret
    exact ⟨ret_b HZ.out.symm, Below.alloc (Below.refl _ _) (Nat.le_refl _) _⟩
  · rw [e1, Bool.true_and] at hz
    have HZ := Lib.hid hz
    clear hz h
    go_enter Tryz.func50, Tryz.ntmps50
    go_wp2
    go_ret
    exact ⟨ret_b HZ.out.symm, Below.alloc (Below.refl _ _) (Nat.le_refl _) _⟩
set_option maxRecDepth 100000 in
set_option maxHeartbeats 2000000 in
theorem step_IndexFunc (l : List Otc) (lv : Value) (o : Otc) (g : Nat) (w : World) (hl : Sl 3 elOtc w (· < w.heap.size) lv l) (h : Blk w g 46 #[.int .i64 o.runs, .bool o.wick, .int .i64 o.wt]) :
    Calls Tryz.prog 91 #[lv, .func (.func 50) #[] #[.pointer (some ⟨g, 0, none⟩)]] w fun e w' => e = .returned (.int .i64 (meetO o l 0)) ∧ Below w.heap.size w w' := by
  obtain ⟨z, hz⟩ : ∃ z, z = meetO o l 0 := ⟨_, rfl⟩
  rw [← hz]
  obtain ⟨A, c, rfl, hc, hc2⟩ := hl.shape
  have HZ : Hid (z = meetO o (l.drop 0) 0) := hz
  have HL := Lib.hid hl
  have H := Lib.hid h
  have HB := Lib.hid (Below.refl w.heap.size w)
  clear hz hl h
  go_enter Tryz.func91, Tryz.ntmps91
  go_wp2
  go_loopw [8] (fun i wr => ∃ k : Nat, k ≤ l.length ∧ i = .int .i64 k ∧ Below w.heap.size w wr ∧ Hid (z = meetO o (l.drop k) k)) (fun i _ => l.length - (intOf i).toNat)
  case atStart => exact ⟨0, Nat.zero_le _, rfl, HB.out, HZ⟩
  case round =>
    obtain ⟨k, hk, rfl, hb, hzz⟩ := hrel
    have HBB := Lib.hid hb
    have HX := Lib.hid (H.out.below hb H.out.lt)
    by_cases hlt : k < l.length
    · obtain ⟨b0, o0, rfl, hbl, g0, g1, g2⟩ := otc_at HL.out hlt
      have y0 := (hb.cell (p := ⟨b0, o0 + k * 3, none⟩) hbl).trans g0
      have y1 := (hb.cell (p := ⟨b0, o0 + k * 3 + 1, none⟩) hbl).trans g1
      have y2 := (hb.cell (p := ⟨b0, o0 + k * 3 + 2, none⟩) hbl).trans g2
      have hz2 := hzz.out
      rw [drop_get hlt, meetO] at hz2
      obtain ⟨⟨pr, pw, pt⟩, hp⟩ : ∃ p, p = l[k] := ⟨_, rfl⟩
      rw [← hp] at y0 y1 y2 hz2
      have kc := fun W => step_clo ⟨pr, pw, pt⟩ o g W
      dsimp only at y0 y1 y2 kc
      clear hb hzz hp g0 g1 g2
      by_cases hin : sameO ⟨pr, pw, pt⟩ o = true
      · rw [if_pos hin] at hz2
        rw [hin] at kc
        have KC := Lib.hid kc
        have HZZ := Lib.hid hz2
        clear hz2 hin kc
        go_wp2_with (go_at_call 50; refine (KC.out _ HX.out).mono ?_; rintro e w2 ⟨rfl, hb2⟩; have HB2 := Lib.hid (HBB.out.trans (hb2.mono HBB.out.size)); clear hb2)
        go_ret
        exact ⟨ret_i HZZ.out.symm, HB2.out⟩
      · rw [if_neg hin] at hz2
        rw [Bool.not_eq_true] at hin
        rw [hin] at kc
        have KC := Lib.hid kc
        have HZZ := Lib.hid hz2
        clear hz2 hin kc
        go_wp2_with (go_at_call 50; refine (KC.out _ HX.out).mono ?_; rintro e w2 ⟨rfl, hb2⟩; have HB2 := Lib.hid (HBB.out.trans (hb2.mono HBB.out.size)); clear hb2)
        go_roundw
        case rel => exact ⟨k + 1, by omega, by go_num, HB2.out, HZZ.out⟩
        case measure => simp [intOf]; omega
    · obtain rfl : k = l.length := by omega
      have hz2 := hzz.out
      rw [List.drop_of_length_le (Nat.le_refl _), meetO] at hz2
      have HZZ := Lib.hid hz2
      clear hb hzz hz2
      go_wp2
      go_ret
      exact ⟨ret_i HZZ.out.symm, HBB.out⟩
set_option maxRecDepth 100000 in
theorem step_ContainsFunc (l : List Otc) (lv : Value) (o : Otc) (g : Nat) (w : World) (hl : Sl 3 elOtc w (· < w.heap.size) lv l) (h : Blk w g 46 #[.int .i64 o.runs, .bool o.wick, .int .i64 o.wt]) :
    Calls Tryz.prog 49 #[lv, .func (.func 50) #[] #[.pointer (some ⟨g, 0, none⟩)]] w fun e w' => e = .returned (.bool (l.any fun x => sameO x o)) ∧ Below w.heap.size w w' := by
  have hm := meetO_ge o l 0 (by omega)
  have hi := step_IndexFunc l lv o g w hl h
  obtain ⟨i, hie⟩ : ∃ i, i = meetO o l 0 := ⟨_, rfl⟩
  rw [← hie] at hm hi
  have HM := Lib.hid hm
  have HI := Lib.hid hi
  obtain ⟨A, c, rfl, hc, hc2⟩ := hl.shape
  clear hm hi hie hl h
  go_enter Tryz.func49, Tryz.ntmps49
  go_wp2_with (go_at_call 91; refine HI.out.mono ?_; rintro e w2 ⟨rfl, hb2⟩)
  go_ret
  exact ⟨ret_b HM.out, hb2⟩
theorem ch44_Step_ret {R' : Ending → World → Prop} {a : Act} {w : World} {x0 x1 x2 x3 x4 v : Value} {g : Nat} (h2 : a.tmps[6]? = some (.pointer (some ⟨g, 0, none⟩))) (h3 : a.tmps[7]? = some v) (hb : Blk w g 33 #[x0, x1, x2, x3, x4])
    (hd : a.defers = []) (hR : R' (.returned (.tuple #[.agg #[x0, x1, x2, x3, x4], v])) w) : bodyPost Tryz.prog Tryz.f18 R' .ret a w := by
  have r0 := hb.cell 0
  have r1 := hb.cell 1
  have r2 := hb.cell 2
  have r3 := hb.cell 3
  have r4 := hb.cell 4
  simp only [List.getElem?_toArray, List.getElem?_cons_zero, List.getElem?_cons_succ] at r0 r1 r2 r3 r4
  refine bodyPost_ret (v := .tuple #[.agg #[x0, x1, x2, x3, x4], v]) (by simp [results, Tryz.results18, go_sem, h2, h3, r0, r1, r2, r3, r4]) hd hR
set_option maxRecDepth 100000 in
set_option maxHeartbeats 4000000 in
theorem ch44_Step (c : Chs) (s : Cst) (o : Otc) (bv wv pv ov : Value) (w : World) (h : ChAt w (· < w.heap.size) bv wv pv ov c) :
    Calls Tryz.prog 18 #[chV c bv wv pv ov, stV s, .agg #[.int .i64 o.runs, .bool o.wick, .int .i64 o.wt]] w fun e w' => e = .returned (.tuple #[stV (stepSC c s o).1, .int .i64 (stepSC c s o).2]) ∧ Below w.heap.size w w' := by
  unfold chV stV
  obtain ⟨A, ca, rfl, hc1, hc2⟩ := h.mdl.bat.shape
  obtain ⟨A1, ca1, rfl, hc3, hc4⟩ := h.mdl.bow.shape
  obtain ⟨A2, ca2, rfl, hc5, hc6⟩ := h.bow.shape
  obtain ⟨A3, ca3, rfl, hc7, hc8⟩ := h.ord.shape
  have HX0 := Lib.hid (StB.new w c (.slice A c.mdl.bats.length ca) (.slice A1 c.mdl.bows.length ca1) (.slice A2 c.bows.length ca2) (.slice A3 c.ord.length ca3) s o)
  have HM := Lib.hid h
  obtain ⟨⟨⟨z0, z1, z2, z3, z4⟩, ze⟩, hz⟩ : ∃ z, z = stepSC c s o := ⟨_, rfl⟩
  rw [← hz]
  dsimp only
  unfold stepSC at hz
  obtain ⟨⟨l, u⟩, hn⟩ : ∃ x, x = movesC c s := ⟨_, rfl⟩
  have k1 := fun W (hW : Below w.heap.size w W) => (ch44_Moves c s _ _ _ _ W (HM.out.below hW)).mono fun e w' h => by rw [← hn] at h; exact otc_exC h
  have hok := movesC_ok (c := c) (s := s)
  rw [← hn] at hz hok
  dsimp only at hz hok
  have k4 := fun (g1 : OkC c) (g2 : OkS c s) (g3 : stC c s = 1) (g4 : 0 ≤ o.runs ∧ o.runs ≤ 7) W => ch44_step c s o A A1 A2 A3 ca ca1 ca2 ca3 W g1 g2 g3 g4
  have hm : hitC c s o = true → OkC c → OkS c s → stC c s = 1 → 0 ≤ o.runs ∧ o.runs ≤ 7 := fun h1 h2 h3 h4 => by
    obtain ⟨x, hx, e1, _⟩ := hit_mem h1
    obtain ⟨_, _, _, _, _, _, _, _, _, _, _, _, _, _, _, hd⟩ := mvC_at h2 h3 h4
    have h5 := (checkD_ok hd).each x hx
    rw [← e1]
    exact ⟨h5.r0, h5.r7⟩
  have hit := hitC_same c s o
  unfold chV stV at k1
  obtain ⟨ball, need, str, par, nxt⟩ := s
  obtain ⟨pr, pw, pt⟩ := o
  dsimp only at k1 k4 hm
  have K1 := Lib.hid k1
  have tok0 : True := trivial
  clear k1 hn h
  by_cases h0 : u = 0
  case neg =>
    rw [if_pos h0] at hz
    simp only [Prod.mk.injEq, Cst.mk.injEq, noCst] at hz
    obtain ⟨⟨rfl, rfl, rfl, rfl, rfl⟩, rfl⟩ := hz
    have eu : (ze != 0) = true := by simp [h0]
    clear h0 hok k4 hm hit HM
    go_enter Tryz.func18, Tryz.ntmps18
    go_wp2_with (clear tok0; go_at_call 17; refine (K1.out _ HX0.out.base.bel).mono ?_; rintro e w2 ⟨A5, c5, rfl, hb, hs5⟩; have HX2 := Lib.hid (HX0.out.below hb); obtain ⟨x0, x1, x2, x3, x4, x5, x6, y0, y1, y2, y3, y4⟩ := HX2.out.base.cells; obtain ⟨u0, u1, u2⟩ := otc_three HX2.out.ob; obtain ⟨⟨r0, r1, r2, r3, r4⟩, f0, f1, f2, f3, f4⟩ := HX2.out.res; dsimp only at y0 y1 y2 y3 y4 u0 u1 u2; clear hb hs5; have tok1 : True := trivial)
    refine ch44_Step_ret rfl rfl (HX2.out.rb.put5 _ _ _ _ _) rfl ⟨rfl, ?_⟩
    exact below_set5 HX2.out.base.bel (by omega) _ _ _ _ _
  case pos =>
    rw [if_neg (by omega)] at hz
    obtain ⟨g1, g2, g3, g4⟩ := hok h0
    rw [← g4] at hit
    have eu : (u != 0) = false := by simp [h0]
    subst h0
    cases hi : hitC c ⟨ball, need, str, par, nxt⟩ ⟨pr, pw, pt⟩
    case false =>
      rw [hi] at hit hz
      simp only [Bool.false_eq_true, if_false, Prod.mk.injEq, Cst.mk.injEq, noCst] at hz
      obtain ⟨⟨rfl, rfl, rfl, rfl, rfl⟩, rfl⟩ := hz
      have HIT : Hid ((l.any fun x => sameO x ⟨pr, pw, pt⟩) = false) := hit.symm
      have tok9 : True := trivial
      clear hit
      clear hi hm g1 g2 g3 g4 HM k4 hok
      go_enter Tryz.func18, Tryz.ntmps18
      go_wp2_with (first
        | (clear tok0; go_at_call 17; refine (K1.out _ HX0.out.base.bel).mono ?_; rintro e w2 ⟨A5, c5, rfl, hb, hs5⟩; have HX2 := Lib.hid (HX0.out.below hb); have HL2 := Lib.hid (hs5.keep (G := (· < w2.heap.size)) elOtc_good (Same.refl _ _) fun b h => h); obtain ⟨x0, x1, x2, x3, x4, x5, x6, y0, y1, y2, y3, y4⟩ := HX2.out.base.cells; obtain ⟨u0, u1, u2⟩ := otc_three HX2.out.ob; obtain ⟨⟨r0, r1, r2, r3, r4⟩, f0, f1, f2, f3, f4⟩ := HX2.out.res; dsimp only at y0 y1 y2 y3 y4 u0 u1 u2; clear hb hs5; have tok1 : True := trivial)
        | (clear tok1; go_at_call 49; refine (step_ContainsFunc l _ ⟨pr, pw, pt⟩ _ _ HL2.out HX2.out.ob).mono ?_; rintro e w3 ⟨rfl, hb⟩; rw [HIT.out]; have HX3 := Lib.hid (HX2.out.below hb); clear x0 x1 x2 x3 x4 x5 x6 y0 y1 y2 y3 y4 u0 u1 u2 r0 r1 r2 r3 r4 f0 f1 f2 f3 f4; obtain ⟨x0, x1, x2, x3, x4, x5, x6, y0, y1, y2, y3, y4⟩ := HX3.out.base.cells; obtain ⟨u0, u1, u2⟩ := otc_three HX3.out.ob; obtain ⟨⟨r0, r1, r2, r3, r4⟩, f0, f1, f2, f3, f4⟩ := HX3.out.res; dsimp only at y0 y1 y2 y3 y4 u0 u1 u2; clear hb; have tok2 : True := trivial))
      refine ch44_Step_ret rfl rfl (HX3.out.rb.put5 _ _ _ _ _) rfl ⟨rfl, ?_⟩
      exact below_set5 HX3.out.base.bel (by omega) _ _ _ _ _
    case true =>
      rw [hi] at hit hz
      simp only [if_true, Prod.mk.injEq] at hz
      obtain ⟨hz1, rfl⟩ := hz
      have k5 := k4 g1 g2 g3 (hm hi g1 g2 g3)
      rw [← hz1] at k5
      unfold stV at k5
      dsimp only at k5
      have K5 := Lib.hid k5
      clear hi hm g1 g2 g3 g4 HM k4 k5 hz1 hok
      have HIT : Hid ((l.any fun x => sameO x ⟨pr, pw, pt⟩) = true) := hit.symm
      have tok9 : True := trivial
      clear hit
      go_enter Tryz.func18, Tryz.ntmps18
      go_wp2_with (first
        | (clear tok0; go_at_call 17; refine (K1.out _ HX0.out.base.bel).mono ?_; rintro e w2 ⟨A5, c5, rfl, hb, hs5⟩; have HX2 := Lib.hid (HX0.out.below hb); have HL2 := Lib.hid (hs5.keep (G := (· < w2.heap.size)) elOtc_good (Same.refl _ _) fun b h => h); obtain ⟨x0, x1, x2, x3, x4, x5, x6, y0, y1, y2, y3, y4⟩ := HX2.out.base.cells; obtain ⟨u0, u1, u2⟩ := otc_three HX2.out.ob; obtain ⟨⟨r0, r1, r2, r3, r4⟩, f0, f1, f2, f3, f4⟩ := HX2.out.res; dsimp only at y0 y1 y2 y3 y4 u0 u1 u2; clear hb hs5; have tok1 : True := trivial)
        | (clear tok1; go_at_call 49; refine (step_ContainsFunc l _ ⟨pr, pw, pt⟩ _ _ HL2.out HX2.out.ob).mono ?_; rintro e w3 ⟨rfl, hb⟩; rw [HIT.out]; have HX3 := Lib.hid (HX2.out.below hb); clear x0 x1 x2 x3 x4 x5 x6 y0 y1 y2 y3 y4 u0 u1 u2 r0 r1 r2 r3 r4 f0 f1 f2 f3 f4; obtain ⟨x0, x1, x2, x3, x4, x5, x6, y0, y1, y2, y3, y4⟩ := HX3.out.base.cells; obtain ⟨u0, u1, u2⟩ := otc_three HX3.out.ob; obtain ⟨⟨r0, r1, r2, r3, r4⟩, f0, f1, f2, f3, f4⟩ := HX3.out.res; dsimp only at y0 y1 y2 y3 y4 u0 u1 u2; clear hb; have tok2 : True := trivial)
        | (clear tok2; go_at_call 51; refine (K5.out _).mono ?_; rintro e w4 ⟨rfl, hb⟩; have HX4 := Lib.hid (HX3.out.below hb); clear x0 x1 x2 x3 x4 x5 x6 y0 y1 y2 y3 y4 u0 u1 u2 r0 r1 r2 r3 r4 f0 f1 f2 f3 f4; obtain ⟨x0, x1, x2, x3, x4, x5, x6, y0, y1, y2, y3, y4⟩ := HX4.out.base.cells; obtain ⟨u0, u1, u2⟩ := otc_three HX4.out.ob; obtain ⟨⟨r0, r1, r2, r3, r4⟩, f0, f1, f2, f3, f4⟩ := HX4.out.res; dsimp only at y0 y1 y2 y3 y4 u0 u1 u2; clear hb; have tok3 : True := trivial))
      refine ch44_Step_ret rfl rfl (HX4.out.rb.put5 _ _ _ _ _) rfl ⟨rfl, ?_⟩
      exact below_set5 HX4.out.base.bel (by omega) _ _ _ _ _
end Go.Proofs.YtfnfbojaiikigaaGreatDoor

namespace Go.Proofs.YtfnfbojaiikigaaGreatDoor
open Go.RowKit

/-- The plain facts of a running state. -/
theorem run44 {c : Chs} {s : Cst} (h0 : chstC c s = 0) (h1 : stC c s = 1) : ∃ l, movesC c s = (l, 0) ∧ l.length ≤ 16 ∧ 1 ≤ l.length ∧ valS c s = sumI (l.map fun o => o.wt * valS c (stepC c s o)) ∧
    ∀ (k : Nat) (hk : k < l.length), (0 ≤ l[k].runs ∧ l[k].runs ≤ 7) ∧ stepSC c s l[k] = (stepC c s l[k], 0) ∧ chstC c (stepC c s l[k]) = 0 ∧ valueC c (stepC c s l[k]) = (valS c (stepC c s l[k]), 0) ∧
      ((stepC c s l[k]).ball = s.ball + 1 ∧ (stepC c s l[k]).need = max (s.need - l[k].runs) 0) ∧ (0 ≤ l[k].wt * valS c (stepC c s l[k]) ∧ l[k].wt * valS c (stepC c s l[k]) ≤ 281474976710656) := by
  obtain ⟨hcc, hc, hs⟩ := chst_ok h0
  obtain ⟨_, _, _, _, _, _, _, _, _, _, _, _, _, _, _, hd⟩ := mvC_at hc hs h1
  have hok := checkD_ok hd
  have hm : movesC c s = (mvC c s, 0) := by unfold movesC; rw [if_neg (fun k => k h0), if_neg (fun k => k h1)]
  refine ⟨mvC c s, hm, hok.len.2, hok.len.1, valS_run hc hs h1, fun k hk => ?_⟩
  have ho := hok.each _ (List.getElem_mem hk)
  obtain ⟨k1, k2, k3⟩ := stepC_ok hc hs h1 (o := (mvC c s)[k]) ho.r0
  have h4 := chst_of hcc k1
  have h5 := left_step hc hs h1 (o := (mvC c s)[k]) ho.r0
  have h6 := left_le hc hs
  refine ⟨⟨ho.r0, ho.r7⟩, ?_, h4, ?_, ⟨k2, k3⟩, ?_⟩
  · unfold stepSC; rw [hm, if_neg (by simp), if_pos (hit_of (List.getElem_mem hk))]
  · unfold valueC; rw [if_neg (fun k => k h4)]
  · exact prod_bd (n := leftC c (stepC c s (mvC c s)[k])) (by omega) ⟨ho.w1, ho.w16⟩ (valS_bd hc k1)
structure CsO (w w7 W : World) (g g2 : Nat) (c : Chs) (bv wv pv ov : Value) (s : Cst) (pr : Int) (pw : Bool) (pt : Int) : Prop where
  base : CSB w W g c bv wv pv ov s
  ob : Blk W g2 46 #[.int .i64 pr, .bool pw, .int .i64 pt]
  seven : Below w7.heap.size w7 W
theorem CsO.below {w w7 W W' : World} {g g2 : Nat} {c : Chs} {bv wv pv ov : Value} {s : Cst} {pr : Int} {pw : Bool} {pt : Int} (h : CsO w w7 W g g2 c bv wv pv ov s pr pw pt) (hb : Below W.heap.size W W') : CsO w w7 W' g g2 c bv wv pv ov s pr pw pt := ⟨h.base.below hb, h.ob.below hb h.ob.lt, h.seven.trans (hb.mono h.seven.size)⟩
theorem CsO.three {w w7 W : World} {g g2 : Nat} {c : Chs} {bv wv pv ov : Value} {s : Cst} {pr : Int} {pw : Bool} {pt : Int} (h : CsO w w7 W g g2 c bv wv pv ov s pr pw pt) : W.cell? ⟨g2, 0, none⟩ = some (.int .i64 pr) ∧ W.cell? ⟨g2, 1, none⟩ = some (.bool pw) ∧ W.cell? ⟨g2, 2, none⟩ = some (.int .i64 pt) := ⟨h.ob.cell 0, h.ob.cell 1, h.ob.cell 2⟩
end Go.Proofs.YtfnfbojaiikigaaGreatDoor

namespace Go.Proofs.YtfnfbojaiikigaaGreatDoor
open Go.RowKit

def WinsAt (c : Chs) (n : Nat) : Prop := ∀ (s : Cst), leftC c s = n → chstC c s = 0 → ∀ (bv wv pv ov : Value) (w : World), ChAt w (· < w.heap.size) bv wv pv ov c →
  Calls Tryz.prog 15 #[chV c bv wv pv ov, stV s] w fun e w' => e = .returned (.tuple #[.int .i64 (valS c s), .bool true]) ∧ Below w.heap.size w w'
theorem ret_ib {a a' : Int} {b b' : Bool} (h : a = a') (h2 : b = b') : Ending.returned (.tuple #[.int .i64 a, .bool b]) = .returned (.tuple #[.int .i64 a', .bool b']) := by rw [h, h2]
set_option maxRecDepth 100000 in
set_option maxHeartbeats 4000000 in
theorem top_chaseWins_at (c : Chs) (n : Nat) (ih : ∀ k, n = k + 1 → WinsAt c k) : WinsAt c n := by
  intro s hn h0 bv wv pv ov w h
  unfold chV stV
  obtain ⟨ball, need, str, par, nxt⟩ := s
  obtain ⟨A, ca, rfl, hc1, hc2⟩ := h.mdl.bat.shape
  obtain ⟨A1, ca1, rfl, hc3, hc4⟩ := h.mdl.bow.shape
  obtain ⟨A2, ca2, rfl, hc5, hc6⟩ := h.bow.shape
  obtain ⟨A3, ca3, rfl, hc7, hc8⟩ := h.ord.shape
  have hx := CSB.new w c (.slice A c.mdl.bats.length ca) (.slice A1 c.mdl.bows.length ca1) (.slice A2 c.bows.length ca2) (.slice A3 c.ord.length ca3) ⟨ball, need, str, par, nxt⟩
  have HX0 := Lib.hid hx
  have HM := Lib.hid h
  have k6 := fun W (hW : Below w.heap.size w W) => ch44_Status c ⟨ball, need, str, par, nxt⟩ _ _ _ _ W (HM.out.below hW)
  have k7 := fun W (hW : Below w.heap.size w W) => ch44_Moves c ⟨ball, need, str, par, nxt⟩ _ _ _ _ W (HM.out.below hW)
  have k8 := fun o W (hW : Below w.heap.size w W) => ch44_Step c ⟨ball, need, str, par, nxt⟩ o _ _ _ _ W (HM.out.below hW)
  have k9 := fun m (hm : n = m + 1) t (ht : leftC c t = m) (ht0 : chstC c t = 0) W (hW : Below w.heap.size w W) => ih m hm t ht ht0 _ _ _ _ W (HM.out.below hW)
  unfold chV stV at k6 k7 k8 k9
  dsimp only at k6 k7 k8
  have hrun := fun h1 => run44 (c := c) (s := ⟨ball, need, str, par, nxt⟩) h0 h1
  obtain ⟨hc0, hc, hso⟩ := chst_ok h0
  have hleft : stC c ⟨ball, need, str, par, nxt⟩ = 1 → ∃ m, n = m + 1 ∧ ∀ o : Otc, 0 ≤ o.runs → leftC c (stepC c ⟨ball, need, str, par, nxt⟩ o) = m := fun h1 => by
    refine ⟨n - 1, ?_, fun o ho => ?_⟩
    · have := left_step hc hso h1 (o := ⟨0, false, 0⟩) (by decide); omega
    · have := left_step hc hso h1 (o := o) ho; omega
  have tok0 : True := trivial
  have b1 := hso.ball
  have b2 := hso.need
  have b3 := hc.need
  have b4 := hc.nb
  dsimp only at b1 b2
  have hst0 : statusC c ⟨ball, need, str, par, nxt⟩ = stC c ⟨ball, need, str, par, nxt⟩ := by unfold statusC; rw [if_neg (by omega)]
  have hbd := valS_bd hc hso
  have hle : leftC c ⟨ball, need, str, par, nxt⟩ ≤ 12 := left_le hc hso
  have hlc : (c.bows.length : Int) - ball = (leftC c ⟨ball, need, str, par, nxt⟩ : Int) := by unfold leftC; dsimp only; omega
  have k5 := fun W => ch_Unit ((c.bows.length : Int) - ball) W
  have hun : unitS ((c.bows.length : Int) - ball) = (pow16 (leftC c ⟨ball, need, str, par, nxt⟩), 0) := by rw [hlc, unitS_ok hle, pow16_unit]
  have hp16 := pow16_le hle
  have hwon := valS_won (c := c) (s := ⟨ball, need, str, par, nxt⟩)
  have hlost := valS_lost (c := c) (s := ⟨ball, need, str, par, nxt⟩) hso
  have hbs := stC_bd c ⟨ball, need, str, par, nxt⟩
  rw [hst0] at k6
  rw [hun] at k5
  obtain ⟨a, ha⟩ : ∃ x, x = valS c ⟨ball, need, str, par, nxt⟩ := ⟨_, rfl⟩
  obtain ⟨p, hp⟩ : ∃ x, x = pow16 (leftC c ⟨ball, need, str, par, nxt⟩) := ⟨_, rfl⟩
  obtain ⟨st, hst⟩ : ∃ x, x = stC c ⟨ball, need, str, par, nxt⟩ := ⟨_, rfl⟩
  rw [← ha] at hbd hwon hlost hrun ⊢
  rw [← hp] at k5 hbd hwon hp16
  rw [← hst] at k6 hwon hlost hbs hrun hleft
  dsimp only at k5 k6
  obtain ⟨q1, q2⟩ := hbd
  obtain ⟨q3, q4⟩ := hp16
  have K5 := Lib.hid k5
  have K6 := Lib.hid k6
  clear k5 k6 h0 hc0 hc hso hst0 hle hlc hun ha hp hst ih hn hx h
  obtain ⟨b5, b6⟩ := b1
  obtain ⟨b7, b8⟩ := b2
  obtain ⟨b9, b10⟩ := b3
  obtain ⟨b11, b12⟩ := b4
  by_cases s2 : st = 2
  · obtain rfl := hwon s2
    subst s2
    clear hlost hrun hwon hleft k7 k8 k9 hbs HM
    go_enter Tryz.func15, Tryz.ntmps15
    go_wp2_with (first
      | (clear tok0; go_at_call 43; refine (K6.out _ HX0.out.bel).mono ?_; rintro e w1 ⟨rfl, hb⟩; have HX1 := Lib.hid (HX0.out.below hb); obtain ⟨x0, x1, x2, x3, x4, x5, x6, y0, y1, y2, y3, y4⟩ := HX1.out.cells; dsimp only at y0 y1 y2 y3 y4; clear hb; have tok1 : True := trivial)
      | (clear tok1; go_at_call 44; refine (K5.out _).mono ?_; rintro e w2 ⟨rfl, rfl⟩; have HX2 := Lib.hid HX1.out; have tok2 : True := trivial))
    go_ret2
    exact ⟨rfl, HX2.out.bel⟩
  by_cases s3 : st = 3
  · obtain rfl := hlost s3
    subst s3
    clear hlost hrun hwon hleft k7 k8 k9 hbs HM s2
    go_enter Tryz.func15, Tryz.ntmps15
    go_wp2_with (first
      | (clear tok0; go_at_call 43; refine (K6.out _ HX0.out.bel).mono ?_; rintro e w1 ⟨rfl, hb⟩; have HX1 := Lib.hid (HX0.out.below hb); obtain ⟨x0, x1, x2, x3, x4, x5, x6, y0, y1, y2, y3, y4⟩ := HX1.out.cells; dsimp only at y0 y1 y2 y3 y4; clear hb; have tok1 : True := trivial))
    go_ret2
    exact ⟨rfl, HX1.out.bel⟩
  obtain rfl : st = 1 := by omega
  obtain ⟨l, hl, hlen, _, hsum, hel⟩ := hrun rfl
  obtain ⟨m, hm, hlm⟩ := hleft rfl
  have k7' := fun W (hW : Below w.heap.size w W) => (k7 W hW).mono fun e w' h => by rw [hl] at h; exact otc_exC h
  have k8' := fun (k : Nat) (hk : k < l.length) W (hW : Below w.heap.size w W) => k8 l[k] W hW
  have k9' := fun (k : Nat) (hk : k < l.length) W (hW : Below w.heap.size w W) => k9 m hm (stepC c ⟨ball, need, str, par, nxt⟩ l[k]) (hlm _ (hel k hk).1.1) (hel k hk).2.2.1 W hW
  have hgt : ¬ (16 < (l.length : Int)) := by omega
  have K7 := Lib.hid k7'
  have K8 := Lib.hid k8'
  have K9 := Lib.hid k9'
  have HSUM := Lib.hid hsum
  have HEL := Lib.hid hel
  clear hl hsum hel hlost hrun hwon hleft k7 k7' k8 k8' k9 k9' hbs s2 s3 HM hm hlm
  go_enter Tryz.func15, Tryz.ntmps15
  go_wp2_with (first
    | (clear tok0; go_at_call 43; refine (K6.out _ HX0.out.bel).mono ?_; rintro e w1 ⟨rfl, hb⟩; have HX1 := Lib.hid (HX0.out.below hb); obtain ⟨x0, x1, x2, x3, x4, x5, x6, y0, y1, y2, y3, y4⟩ := HX1.out.cells; dsimp only at y0 y1 y2 y3 y4; clear hb; have tok1 : True := trivial)
    | (clear tok1; go_at_call 17; refine (K7.out _ HX1.out.bel).mono ?_; rintro e w7 ⟨A7, c7, rfl, hb, hs7⟩; have HL7 := Lib.hid hs7; have HX7 := Lib.hid (HX1.out.below hb); clear x0 x1 x2 x3 x4 x5 x6 y0 y1 y2 y3 y4; obtain ⟨x0, x1, x2, x3, x4, x5, x6, y0, y1, y2, y3, y4⟩ := HX7.out.cells; dsimp only at y0 y1 y2 y3 y4; clear hb hs7; have tok7 : True := trivial))
  go_loopw [10, 54] (fun v i wr => ∃ (k : Nat) (sm : Int), k ≤ l.length ∧ i = .int .i64 k ∧ v = .int .i64 sm ∧ 0 ≤ sm ∧ sm ≤ 281474976710656 * k ∧ Hid (Below w7.heap.size w7 wr) ∧ Hid (sm = sumI ((l.take k).map fun o => o.wt * valS c (stepC c ⟨ball, need, str, par, nxt⟩ o)))) (fun _ i _ => l.length - (intOf i).toNat)
  case atStart => exact ⟨0, 0, Nat.zero_le _, rfl, rfl, by omega, by omega, Lib.hid (Below.refl _ _), Lib.hid rfl⟩
  case round =>
    clear x0 x1 x2 x3 x4 x5 x6 y0 y1 y2 y3 y4
    obtain ⟨k, sm, hk, rfl, rfl, hs0, hs1, HB, hss⟩ := hrel
    have HXR := Lib.hid (HX7.out.below HB.out)
    by_cases hlt : k < l.length
    · obtain ⟨b0, o, rfl, hbl, j0, j1, j2⟩ := otc_at HL7.out hlt
      have g0 := (HB.out.cell (p := ⟨b0, o + k * 3, none⟩) hbl).trans j0
      have g1 := (HB.out.cell (p := ⟨b0, o + k * 3 + 1, none⟩) hbl).trans j1
      have g2 := (HB.out.cell (p := ⟨b0, o + k * 3 + 2, none⟩) hbl).trans j2
      obtain ⟨⟨r0, r7⟩, e1, e2, e3, ⟨e4, e5⟩, e6, e7⟩ := HEL.out k hlt
      have hst : sm + l[k].wt * valS c (stepC c ⟨ball, need, str, par, nxt⟩ l[k]) = sumI ((l.take (k + 1)).map fun o => o.wt * valS c (stepC c ⟨ball, need, str, par, nxt⟩ o)) := by rw [hss.out, sum_take (fun o : Otc => o.wt * valS c (stepC c ⟨ball, need, str, par, nxt⟩ o)) hlt]
      have kS := fun W hW => K8.out k hlt W hW
      rw [e1] at kS
      have kV := fun W hW => K9.out k hlt W hW
      obtain ⟨⟨t0, t1, t2, t3, t4⟩, hs'⟩ : ∃ x, x = stepC c ⟨ball, need, str, par, nxt⟩ l[k] := ⟨_, rfl⟩
      rw [← hs'] at hst e4 e5 e6 e7 kS kV
      obtain ⟨vv, hvv⟩ : ∃ x, x = valS c ⟨t0, t1, t2, t3, t4⟩ := ⟨_, rfl⟩
      rw [← hvv] at hst e6 e7 kV
      obtain ⟨⟨pr, pw, pt⟩, hp'⟩ : ∃ p, p = l[k] := ⟨_, rfl⟩
      rw [← hp'] at g0 g1 g2 hst e5 e6 e7 r0 r7 kS
      dsimp only at g0 g1 g2 hst e4 e5 e6 e7 r0 r7 kS kV
      subst e4
      clear e5
      have HST := Lib.hid hst
      have KS := Lib.hid kS
      have KV := Lib.hid kV
      clear hst kS kV hs' hvv hp' hss j0 j1 j2 e1 e2 e3
      have HXO := Lib.hid (⟨HXR.out.below (Below.alloc (Below.refl wr.heap.size wr) (Nat.le_refl _) (.cells #[.int .i64 pr, .bool pw, .int .i64 pt] 46)), Blk.new wr 46 #[.int .i64 pr, .bool pw, .int .i64 pt], Below.alloc HB.out HB.out.size _⟩ : CsO w w7 (wr.alloc (.cells #[.int .i64 pr, .bool pw, .int .i64 pt] 46)) w.heap.size wr.heap.size c (.slice A c.mdl.bats.length ca) (.slice A1 c.mdl.bows.length ca1) (.slice A2 c.bows.length ca2) (.slice A3 c.ord.length ca3) ⟨ball, need, str, par, nxt⟩ pr pw pt)
      obtain ⟨x0, x1, x2, x3, x4, x5, x6, y0, y1, y2, y3, y4⟩ := HXR.out.cells; dsimp only at y0 y1 y2 y3 y4
      have hl1 := HXR.out.box.lt
      have hl2 := HXR.out.st.lt
      have hball : ¬ (ball + 1 ≤ ball) := by omega
      have tok20 : True := trivial
      go_wp2_with (first
        | (clear tok20; go_at_call 18; refine (KS.out _ HXO.out.base.bel).mono ?_; rintro e w5 ⟨rfl, hb⟩; have HO5' := HXO.out.below hb; clear x0 x1 x2 x3 x4 x5 x6 y0 y1 y2 y3 y4; obtain ⟨x0, x1, x2, x3, x4, x5, x6, y0, y1, y2, y3, y4⟩ := HO5'.base.cells; dsimp only at y0 y1 y2 y3 y4; obtain ⟨u0, u1, u2⟩ := HO5'.three; clear hl1 hl2; have hl1 := HO5'.base.box.lt; have hl2 := HO5'.base.st.lt; have hl3 := HO5'.ob.lt; have HO5 := Lib.hid (HO5'.below (Below.alloc (Below.refl w5.heap.size w5) (Nat.le_refl _) (.cells #[.int .i64 (ball + 1), .int .i64 t1, .int .i64 t2, .int .i64 t3, .int .i64 t4] 33))); have HT5 := Lib.hid (Blk.new w5 33 #[.int .i64 (ball + 1), .int .i64 t1, .int .i64 t2, .int .i64 t3, .int .i64 t4]); clear HO5' hb; have tok21 : True := trivial)
        | (clear tok21; go_at_call 15; refine (KV.out _ HO5.out.base.bel).mono ?_; rintro e w6 ⟨rfl, hb⟩; have HO6 := Lib.hid (HO5.out.below hb); obtain ⟨z0, z1, z2, z3, z4⟩ := blk_five (HT5.out.below hb HT5.out.lt); clear x0 x1 x2 x3 x4 x5 x6 y0 y1 y2 y3 y4; clear u0 u1 u2; obtain ⟨x0, x1, x2, x3, x4, x5, x6, y0, y1, y2, y3, y4⟩ := HO6.out.base.cells; dsimp only at y0 y1 y2 y3 y4; obtain ⟨u0, u1, u2⟩ := HO6.out.three; clear hb hl1 hl2 hl3; have tok22 : True := trivial))
      go_roundw
      case rel => exact ⟨k + 1, sm + pt * vv, by omega, by go_num, by first | rfl | rw [IntWalk.i64_in (pt * vv) (by omega), IntWalk.i64_in (sm + pt * vv) (by omega)], by omega, by push_cast; omega, Lib.hid HO6.out.seven, HST⟩
      case measure => simp [intOf]; omega
    · obtain rfl : k = l.length := by omega
      have hs2 := hss.out
      rw [List.take_of_length_le (Nat.le_refl _), ← HSUM.out] at hs2
      subst hs2
      clear hss
      go_wp2
      go_ret2
      exact ⟨rfl, HXR.out.bel⟩
theorem top_chaseWins (c : Chs) : ∀ n, WinsAt c n
  | 0 => top_chaseWins_at c 0 (fun k h => by omega)
  | n + 1 => top_chaseWins_at c (n + 1) fun k h => by
      obtain rfl : n = k := by omega
      exact top_chaseWins c n
end Go.Proofs.YtfnfbojaiikigaaGreatDoor
