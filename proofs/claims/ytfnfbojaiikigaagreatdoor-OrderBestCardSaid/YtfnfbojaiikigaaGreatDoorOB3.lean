/- Several texts of this family in one: Z3 Z4 Z5 Z6 Z7 Z8 Z9 Z10 Z11 Z12 Z13 Z15 Z16 W11. -/
import Derived.Test.YtfnfbojaiikigaaGreatDoorOB2
import Derived.Test.YtfnfbojaiikigaaGreatDoorYM1
import Derived.Laws.EntriesVeiled
set_option linter.unusedSimpArgs false
set_option linter.unusedVariables false
namespace Go.Proofs.YtfnfbojaiikigaaGreatDoor
open Go.RowKit

theorem oblk_r (w : World) (o1 o2 o3 : Obj) : Blk ((((w.alloc o1).alloc o2).alloc o3).alloc (.cells #[.int .i64 0, .int .i64 0, .int .i64 0, .int .i64 0, .int .u16 0] 53)) (w.heap.size + 1 + 1 + 1) 53 #[.int .i64 0, .int .i64 0, .int .i64 0, .int .i64 0, .int .u16 0] := by
  have h := Blk.new (((w.alloc o1).alloc o2).alloc o3) 53 #[.int .i64 0, .int .i64 0, .int .i64 0, .int .i64 0, .int .u16 0]
  rwa [World.size_alloc, World.size_alloc, World.size_alloc] at h
theorem oblk_rv (w : World) (o1 o2 o3 : Obj) (x0 x1 x2 x3 x4 : Value) : Blk ((((w.alloc o1).alloc o2).alloc o3).alloc (.cells #[x0, x1, x2, x3, x4] 53)) (w.heap.size + 1 + 1 + 1) 53 #[x0, x1, x2, x3, x4] := by
  have h := Blk.new (((w.alloc o1).alloc o2).alloc o3) 53 #[x0, x1, x2, x3, x4]
  rwa [World.size_alloc, World.size_alloc, World.size_alloc] at h
theorem or_send_ret {R' : Ending → World → Prop} {a : Act} {w : World} {x0 x1 x2 x3 x4 : Value} {g : Nat} (h2 : a.tmps[4]? = some (.pointer (some ⟨g, 0, none⟩))) (hb : Blk w g 53 #[x0, x1, x2, x3, x4])
    (hd : a.defers = []) (hR : R' (.returned (.agg #[x0, x1, x2, x3, x4])) w) : bodyPost Tryz.prog Tryz.f62 R' .ret a w := by
  have r0 := hb.cell 0
  have r1 := hb.cell 1
  have r2 := hb.cell 2
  have r3 := hb.cell 3
  have r4 := hb.cell 4
  simp only [List.getElem?_toArray, List.getElem?_cons_zero, List.getElem?_cons_succ] at r0 r1 r2 r3 r4
  refine bodyPost_ret (v := .agg #[x0, x1, x2, x3, x4]) (by simp [results, Tryz.results62, go_sem, h2, r0, r1, r2, r3, r4]) hd hR
set_option maxRecDepth 100000 in
set_option maxHeartbeats 4000000 in
theorem or_send (s : Ost) (i : Int) (w : World) (hw : 0 ≤ s.wait ∧ s.wait < 65536) (hi : 0 ≤ i ∧ i < 16) :
    Calls Tryz.prog 62 #[osV s, .int .i64 i] w fun e w' => e = .returned (osV (sendO s i)) ∧ Below w.heap.size w w' := by
  obtain ⟨z, hz⟩ : ∃ z, z = sendO s i := ⟨_, rfl⟩
  rw [← hz]
  unfold sendO clrW at hz
  obtain ⟨a, b, c, d, wt⟩ := s
  obtain ⟨hi1, hi2⟩ := hi
  obtain ⟨hw1, hw2⟩ := hw
  unfold osV
  dsimp only at hw1 hw2 hz ⊢
  by_cases h1 : c < 0
  · rw [if_pos h1] at hz
    have HZ := Lib.hid hz
    clear hz
    go_enter Tryz.func62, Tryz.ntmps62
    go_wp2
    all_goals go_region
    all_goals go_wp2
    all_goals
      apply or_send_ret (g := w.heap.size + 1) (h2 := rfl) (hd := rfl)
      case hb =>
        repeat (with_reducible refine Blk.drewNB ?_ _)
        first | exact blk_two _ _ _ _ | exact (blk_two _ _ _ _).drew
      case hR =>
        refine ⟨by rw [HZ.out] <;> rfl, ?_⟩
        repeat (with_reducible refine Below.drewN_ ?_ _)
        first | exact below_two _ _ _ | exact Below.drew (below_two _ _ _)
  · rw [if_neg h1] at hz
    have HZ := Lib.hid hz
    clear hz
    go_enter Tryz.func62, Tryz.ntmps62
    go_wp2
    all_goals go_region
    all_goals go_wp2
    all_goals
      apply or_send_ret (g := w.heap.size + 1) (h2 := rfl) (hd := rfl)
      case hb =>
        repeat (with_reducible refine Blk.drewNB ?_ _)
        first | exact blk_two _ _ _ _ | exact (blk_two _ _ _ _).drew
      case hR =>
        refine ⟨by rw [HZ.out] <;> rfl, ?_⟩
        repeat (with_reducible refine Below.drewN_ ?_ _)
        first | exact below_two _ _ _ | exact Below.drew (below_two _ _ _)
theorem r45_send_ret {R' : Ending → World → Prop} {a : Act} {w : World} {x0 x1 x2 x3 x4 : Value} {g : Nat} (h2 : a.tmps[4]? = some (.pointer (some ⟨g, 0, none⟩))) (hb : Blk w g 53 #[x0, x1, x2, x3, x4])
    (hd : a.defers = []) (hR : R' (.returned (.agg #[x0, x1, x2, x3, x4])) w) : bodyPost Tryz.prog Tryz.f64 R' .ret a w := by
  have r0 := hb.cell 0
  have r1 := hb.cell 1
  have r2 := hb.cell 2
  have r3 := hb.cell 3
  have r4 := hb.cell 4
  simp only [List.getElem?_toArray, List.getElem?_cons_zero, List.getElem?_cons_succ] at r0 r1 r2 r3 r4
  refine bodyPost_ret (v := .agg #[x0, x1, x2, x3, x4]) (by simp [results, Tryz.results64, go_sem, h2, r0, r1, r2, r3, r4]) hd hR
set_option maxRecDepth 100000 in
set_option maxHeartbeats 4000000 in
theorem r45_send (s : Ost) (i : Int) (w : World) (hw : 0 ≤ s.wait ∧ s.wait < 65536) (hi : 0 ≤ i ∧ i < 16) :
    Calls Tryz.prog 64 #[osV s, .int .i64 i] w fun e w' => e = .returned (osV (sendO s i)) ∧ Below w.heap.size w w' := by
  obtain ⟨z, hz⟩ : ∃ z, z = sendO s i := ⟨_, rfl⟩
  rw [← hz]
  unfold sendO clrW at hz
  obtain ⟨a, b, c, d, wt⟩ := s
  obtain ⟨hi1, hi2⟩ := hi
  obtain ⟨hw1, hw2⟩ := hw
  unfold osV
  dsimp only at hw1 hw2 hz ⊢
  by_cases h1 : c < 0
  · rw [if_pos h1] at hz
    have HZ := Lib.hid hz
    clear hz
    go_enter Tryz.func64, Tryz.ntmps64
    go_wp2
    all_goals go_region
    all_goals go_wp2
    all_goals
      apply r45_send_ret (g := w.heap.size + 1) (h2 := rfl) (hd := rfl)
      case hb =>
        repeat (with_reducible refine Blk.drewNB ?_ _)
        first | exact blk_two _ _ _ _ | exact (blk_two _ _ _ _).drew
      case hR =>
        refine ⟨by rw [HZ.out] <;> rfl, ?_⟩
        repeat (with_reducible refine Below.drewN_ ?_ _)
        first | exact below_two _ _ _ | exact Below.drew (below_two _ _ _)
  · rw [if_neg h1] at hz
    have HZ := Lib.hid hz
    clear hz
    go_enter Tryz.func64, Tryz.ntmps64
    go_wp2
    all_goals go_region
    all_goals go_wp2
    all_goals
      apply r45_send_ret (g := w.heap.size + 1) (h2 := rfl) (hd := rfl)
      case hb =>
        repeat (with_reducible refine Blk.drewNB ?_ _)
        first | exact blk_two _ _ _ _ | exact (blk_two _ _ _ _).drew
      case hR =>
        refine ⟨by rw [HZ.out] <;> rfl, ?_⟩
        repeat (with_reducible refine Below.drewN_ ?_ _)
        first | exact below_two _ _ _ | exact Below.drew (below_two _ _ _)
set_option maxRecDepth 100000 in
set_option maxHeartbeats 4000000 in
theorem or_moves (c : Chs) (s : Ost) (bv wv pv ov : Value) (w : World) (h : ChAt w (· < w.heap.size) bv wv pv ov c) (hc : OkC c) (hs : OkOs c s) (h1 : s.ball ≠ c.bows.length) (h2 : vacO s = false) :
    Calls Tryz.prog 105 #[chV c bv wv pv ov, osV s] w fun e w' => ∃ A n k, e = .returned (.slice A n k) ∧ Below w.heap.size w w' ∧ Sl 3 elOtc w' (fun b => w.heap.size ≤ b ∧ b < w'.heap.size) (.slice A n k) (mvO c s) := by
  unfold chV osV
  obtain ⟨ball, need, str, par, wait⟩ := s
  obtain ⟨A, ca, rfl, hc1, hc2⟩ := h.mdl.bat.shape
  obtain ⟨A1, ca1, rfl, hc3, hc4⟩ := h.mdl.bow.shape
  obtain ⟨A2, ca2, rfl, hc5, hc6⟩ := h.bow.shape
  obtain ⟨A3, ca3, rfl, hc7, hc8⟩ := h.ord.shape
  have hx := OSB.new w c (.slice A c.mdl.bats.length ca) (.slice A1 c.mdl.bows.length ca1) (.slice A2 c.bows.length ca2) (.slice A3 c.ord.length ca3) ⟨ball, need, str, par, wait⟩
  have HX := Lib.hid hx
  have HM := Lib.hid h
  obtain ⟨i, j, bt, bw, e1, e2, s0, s1, i0, i1, j0, j1, f1, f2, hsh, hq5⟩ := mvO_at hc hs h1 h2
  have sn := hs.str.2
  have sb := hs.ball.1
  dsimp only at e1 e2 s0 s1 sn sb
  obtain ⟨a, rfl⟩ : ∃ a : Nat, str = (a : Int) := ⟨str.toNat, by omega⟩
  obtain ⟨e, rfl⟩ : ∃ a : Nat, ball = (a : Int) := ⟨ball.toNat, by omega⟩
  obtain ⟨i, rfl⟩ : ∃ a : Nat, i = (a : Int) := ⟨i.toNat, by omega⟩
  obtain ⟨j, rfl⟩ : ∃ a : Nat, j = (a : Int) := ⟨j.toNat, by omega⟩
  rw [Int.toNat_natCast] at e1 e2 f1 f2
  have la : a < c.ord.length := by omega
  have le : e < c.bows.length := by omega
  have li : i < c.mdl.bats.length := by omega
  have lj : j < c.mdl.bows.length := by omega
  have ga : c.ord[a] = (i : Int) := by rw [List.getElem?_eq_getElem la] at e1; exact Option.some.inj e1
  have ge : c.bows[e] = (j : Int) := by rw [List.getElem?_eq_getElem le] at e2; exact Option.some.inj e2
  have gi : c.mdl.bats[i] = bt := by rw [List.getElem?_eq_getElem li] at f1; exact Option.some.inj f1
  have gj : c.mdl.bows[j] = bw := by rw [List.getElem?_eq_getElem lj] at f2; exact Option.some.inj f2
  obtain ⟨b0, o0, rfl, hb0, z0⟩ := int_at h.ord la
  obtain ⟨b1, o1, rfl, hb1, z1⟩ := int_at h.bow le
  obtain ⟨b2, o2, v, rfl, hb2, hq3, z2, hv, hq1⟩ := bat_at h.mdl.bat li
  obtain ⟨b3, o3, rfl, hb3, hq4, z3, hq2⟩ := bow_at h.mdl.bow lj
  rw [ga] at z0
  rw [ge] at z1
  rw [gi] at hv
  rw [gj] at z3
  have ks := fun W (hW : Below w.heap.size w W) => m_Shift bt.dist v bw.shift W (hv.keep elOtc_good (Same.of_below hW) fun b h => Nat.lt_of_lt_of_le h hW.size)
  rw [hsh] at ks
  obtain ⟨n, hn⟩ : ∃ n, n = bw.shift := ⟨_, rfl⟩
  rw [← hn] at ks z3
  obtain ⟨l, hl⟩ : ∃ l, l = mvO c ⟨(e : Int), need, (a : Int), par, wait⟩ := ⟨_, rfl⟩
  rw [← hl] at ks ⊢
  have KS := Lib.hid ks
  obtain ⟨W, hW⟩ : ∃ W, W = (w.alloc (.cells (chC c (.slice (some ⟨b2, o2, none⟩) c.mdl.bats.length ca) (.slice (some ⟨b3, o3, none⟩) c.mdl.bows.length ca1) (.slice (some ⟨b1, o1, none⟩) c.bows.length ca2) (.slice (some ⟨b0, o0, none⟩) c.ord.length ca3)) 50)).alloc (.cells #[.int .i64 (e : Int), .int .i64 need, .int .i64 (a : Int), .int .i64 par, .int .u16 wait] 53) := ⟨_, rfl⟩
  have hx2 : OSB w W w.heap.size c (.slice (some ⟨b2, o2, none⟩) c.mdl.bats.length ca) (.slice (some ⟨b3, o3, none⟩) c.mdl.bows.length ca1) (.slice (some ⟨b1, o1, none⟩) c.bows.length ca2) (.slice (some ⟨b0, o0, none⟩) c.ord.length ca3) ⟨(e : Int), need, (a : Int), par, wait⟩ := by rw [hW]; exact hx
  have y0 : W.cell? ⟨b0, o0 + a, none⟩ = some (.int .i64 (i : Int)) := (hx2.bel.cell (p := ⟨b0, o0 + a, none⟩) hb0).trans z0
  have y1 : W.cell? ⟨b1, o1 + e, none⟩ = some (.int .i64 (j : Int)) := (hx2.bel.cell (p := ⟨b1, o1 + e, none⟩) hb1).trans z1
  have y2 : W.cell? ⟨b2, o2 + i * 2 + 1, none⟩ = some v := (hx2.bel.cell (p := ⟨b2, o2 + i * 2 + 1, none⟩) hb2).trans z2
  have y3 : W.cell? ⟨b3, o3 + j * 2 + 1, none⟩ = some (.int .i64 n) := (hx2.bel.cell (p := ⟨b3, o3 + j * 2 + 1, none⟩) hb3).trans z3
  have HX2 := Lib.hid hx2
  have Z0 := Lib.hid z0
  have Z1 := Lib.hid z1
  have Z2 := Lib.hid z2
  have Z3 := Lib.hid z3
  have B0 := Lib.hid hb0
  have B1 := Lib.hid hb1
  have B2 := Lib.hid hb2
  have B3 := Lib.hid hb3
  have HW := Lib.hid hW
  have p1 : (0 : Int) ≤ (a : Int) := by omega
  have p2 : (a : Int) < (c.ord.length : Int) := by omega
  have p3 : (0 : Int) ≤ (e : Int) := by omega
  have p4 : (e : Int) < (c.bows.length : Int) := by omega
  have p5 : (0 : Int) ≤ (i : Int) := by omega
  have p6 : (i : Int) < (c.mdl.bats.length : Int) := by omega
  have p7 : (0 : Int) ≤ (j : Int) := by omega
  have p8 : (j : Int) < (c.mdl.bows.length : Int) := by omega
  clear hq1 hq2 hq3 hq4 hq5 ks hn hl hsh hv z0 z1 z2 z3 hb0 hb1 hb2 hb3 ga ge gi gj la le li lj e1 e2 f1 f2 s0 s1 i0 i1 j0 j1 sn sb h1 h2 hs hc hx h HM HX hx2 hW y0 y1 y2 y3
  go_enter Tryz.func105, Tryz.ntmps105
  go_wp2
  unfold chC at HW
  rw [← HW.out]
  clear HW
  have y0 : W.cell? ⟨b0, o0 + a, none⟩ = some (.int .i64 (i : Int)) := (HX2.out.bel.cell (p := ⟨b0, o0 + a, none⟩) B0.out).trans Z0.out
  have y1 : W.cell? ⟨b1, o1 + e, none⟩ = some (.int .i64 (j : Int)) := (HX2.out.bel.cell (p := ⟨b1, o1 + e, none⟩) B1.out).trans Z1.out
  have y2 : W.cell? ⟨b2, o2 + i * 2 + 1, none⟩ = some v := (HX2.out.bel.cell (p := ⟨b2, o2 + i * 2 + 1, none⟩) B2.out).trans Z2.out
  have y3 : W.cell? ⟨b3, o3 + j * 2 + 1, none⟩ = some (.int .i64 n) := (HX2.out.bel.cell (p := ⟨b3, o3 + j * 2 + 1, none⟩) B3.out).trans Z3.out
  obtain ⟨x0, x1, x2, x3, x4, x5, x6, t0, t1, t2, t3, t4⟩ := HX2.out.cells
  dsimp only at t0 t1 t2 t3 t4
  have HXD := Lib.hid HX2.out.drew
  go_region_held3 (fun w' => w'.cell? ⟨w.heap.size, 0, none⟩ = some (.slice (some ⟨b2, o2, none⟩) c.mdl.bats.length ca) ∧ w'.cell? ⟨w.heap.size, 1, none⟩ = some (.slice (some ⟨b3, o3, none⟩) c.mdl.bows.length ca1) ∧ w'.cell? ⟨w.heap.size, 2, none⟩ = some (.slice (some ⟨b1, o1, none⟩) c.bows.length ca2) ∧ w'.cell? ⟨w.heap.size, 6, none⟩ = some (.slice (some ⟨b0, o0, none⟩) c.ord.length ca3) ∧ w'.cell? ⟨w.heap.size + 1, 0, none⟩ = some (.int .i64 (e : Int)) ∧ w'.cell? ⟨w.heap.size + 1, 2, none⟩ = some (.int .i64 (a : Int)) ∧ w'.cell? ⟨b0, o0 + a, none⟩ = some (.int .i64 (i : Int)) ∧ w'.cell? ⟨b1, o1 + e, none⟩ = some (.int .i64 (j : Int)) ∧ w'.cell? ⟨b2, o2 + i * 2 + 1, none⟩ = some v ∧ w'.cell? ⟨b3, o3 + j * 2 + 1, none⟩ = some (.int .i64 n)) (first | exact ⟨x0, x1, x2, x6, t0, t2, u0, u1, u2, u3⟩ | exact ⟨x0, x1, x2, x6, t0, t2, y0, y1, y2, y3⟩ | go_keep) ((go_at_call 90; refine (KS.out _ HXD.out.bel).mono ?_; rintro e4 w4 ⟨v4, rfl, hs4, hb4⟩; obtain ⟨A4, c4, rfl, hc41, hc42⟩ := hs4.shape; have HX4 := Lib.hid (HXD.out.below hb4); obtain ⟨x0, x1, x2, x3, x4, x5, x6, t0, t1, t2, t3, t4⟩ := HX4.out.cells; dsimp only at t0 t1 t2 t3 t4; have u0 := (hb4.cell (p := ⟨b0, o0 + a, none⟩) (Nat.lt_of_lt_of_le B0.out HXD.out.bel.size)).trans y0; have u1 := (hb4.cell (p := ⟨b1, o1 + e, none⟩) (Nat.lt_of_lt_of_le B1.out HXD.out.bel.size)).trans y1; have u2 := (hb4.cell (p := ⟨b2, o2 + i * 2 + 1, none⟩) (Nat.lt_of_lt_of_le B2.out HXD.out.bel.size)).trans y2; have u3 := (hb4.cell (p := ⟨b3, o3 + j * 2 + 1, none⟩) (Nat.lt_of_lt_of_le B3.out HXD.out.bel.size)).trans y3; have HS4 := Lib.hid hs4; clear hs4 hb4))
  all_goals go_wp2
  go_ret
  exact ⟨_, _, _, rfl, HX4.out.bel, HS4.out.keep elOtc_good (Same.refl _ _) fun b h => ⟨Nat.le_trans HXD.out.bel.size h.1, h.2⟩⟩
set_option maxRecDepth 100000 in
set_option maxHeartbeats 4000000 in
theorem r45_moves (c : Chs) (s : Ost) (bv wv pv ov : Value) (w : World) (h : ChAt w (· < w.heap.size) bv wv pv ov c) (hc : OkC c) (hs : OkOs c s) (h1 : s.ball ≠ c.bows.length) (h2 : vacO s = false) :
    Calls Tryz.prog 130 #[chV c bv wv pv ov, osV s] w fun e w' => ∃ A n k, e = .returned (.slice A n k) ∧ Below w.heap.size w w' ∧ Sl 3 elOtc w' (fun b => w.heap.size ≤ b ∧ b < w'.heap.size) (.slice A n k) (mvO c s) := by
  unfold chV osV
  obtain ⟨ball, need, str, par, wait⟩ := s
  obtain ⟨A, ca, rfl, hc1, hc2⟩ := h.mdl.bat.shape
  obtain ⟨A1, ca1, rfl, hc3, hc4⟩ := h.mdl.bow.shape
  obtain ⟨A2, ca2, rfl, hc5, hc6⟩ := h.bow.shape
  obtain ⟨A3, ca3, rfl, hc7, hc8⟩ := h.ord.shape
  have hx := OSB.new w c (.slice A c.mdl.bats.length ca) (.slice A1 c.mdl.bows.length ca1) (.slice A2 c.bows.length ca2) (.slice A3 c.ord.length ca3) ⟨ball, need, str, par, wait⟩
  have HX := Lib.hid hx
  have HM := Lib.hid h
  obtain ⟨i, j, bt, bw, e1, e2, s0, s1, i0, i1, j0, j1, f1, f2, hsh, hq5⟩ := mvO_at hc hs h1 h2
  have sn := hs.str.2
  have sb := hs.ball.1
  dsimp only at e1 e2 s0 s1 sn sb
  obtain ⟨a, rfl⟩ : ∃ a : Nat, str = (a : Int) := ⟨str.toNat, by omega⟩
  obtain ⟨e, rfl⟩ : ∃ a : Nat, ball = (a : Int) := ⟨ball.toNat, by omega⟩
  obtain ⟨i, rfl⟩ : ∃ a : Nat, i = (a : Int) := ⟨i.toNat, by omega⟩
  obtain ⟨j, rfl⟩ : ∃ a : Nat, j = (a : Int) := ⟨j.toNat, by omega⟩
  rw [Int.toNat_natCast] at e1 e2 f1 f2
  have la : a < c.ord.length := by omega
  have le : e < c.bows.length := by omega
  have li : i < c.mdl.bats.length := by omega
  have lj : j < c.mdl.bows.length := by omega
  have ga : c.ord[a] = (i : Int) := by rw [List.getElem?_eq_getElem la] at e1; exact Option.some.inj e1
  have ge : c.bows[e] = (j : Int) := by rw [List.getElem?_eq_getElem le] at e2; exact Option.some.inj e2
  have gi : c.mdl.bats[i] = bt := by rw [List.getElem?_eq_getElem li] at f1; exact Option.some.inj f1
  have gj : c.mdl.bows[j] = bw := by rw [List.getElem?_eq_getElem lj] at f2; exact Option.some.inj f2
  obtain ⟨b0, o0, rfl, hb0, z0⟩ := int_at h.ord la
  obtain ⟨b1, o1, rfl, hb1, z1⟩ := int_at h.bow le
  obtain ⟨b2, o2, v, rfl, hb2, hq3, z2, hv, hq1⟩ := bat_at h.mdl.bat li
  obtain ⟨b3, o3, rfl, hb3, hq4, z3, hq2⟩ := bow_at h.mdl.bow lj
  rw [ga] at z0
  rw [ge] at z1
  rw [gi] at hv
  rw [gj] at z3
  have ks := fun W (hW : Below w.heap.size w W) => r_Shift bt.dist v bw.shift W (hv.keep elOtc_good (Same.of_below hW) fun b h => Nat.lt_of_lt_of_le h hW.size)
  rw [hsh] at ks
  obtain ⟨n, hn⟩ : ∃ n, n = bw.shift := ⟨_, rfl⟩
  rw [← hn] at ks z3
  obtain ⟨l, hl⟩ : ∃ l, l = mvO c ⟨(e : Int), need, (a : Int), par, wait⟩ := ⟨_, rfl⟩
  rw [← hl] at ks ⊢
  have KS := Lib.hid ks
  obtain ⟨W, hW⟩ : ∃ W, W = (w.alloc (.cells (chC c (.slice (some ⟨b2, o2, none⟩) c.mdl.bats.length ca) (.slice (some ⟨b3, o3, none⟩) c.mdl.bows.length ca1) (.slice (some ⟨b1, o1, none⟩) c.bows.length ca2) (.slice (some ⟨b0, o0, none⟩) c.ord.length ca3)) 50)).alloc (.cells #[.int .i64 (e : Int), .int .i64 need, .int .i64 (a : Int), .int .i64 par, .int .u16 wait] 53) := ⟨_, rfl⟩
  have hx2 : OSB w W w.heap.size c (.slice (some ⟨b2, o2, none⟩) c.mdl.bats.length ca) (.slice (some ⟨b3, o3, none⟩) c.mdl.bows.length ca1) (.slice (some ⟨b1, o1, none⟩) c.bows.length ca2) (.slice (some ⟨b0, o0, none⟩) c.ord.length ca3) ⟨(e : Int), need, (a : Int), par, wait⟩ := by rw [hW]; exact hx
  have y0 : W.cell? ⟨b0, o0 + a, none⟩ = some (.int .i64 (i : Int)) := (hx2.bel.cell (p := ⟨b0, o0 + a, none⟩) hb0).trans z0
  have y1 : W.cell? ⟨b1, o1 + e, none⟩ = some (.int .i64 (j : Int)) := (hx2.bel.cell (p := ⟨b1, o1 + e, none⟩) hb1).trans z1
  have y2 : W.cell? ⟨b2, o2 + i * 2 + 1, none⟩ = some v := (hx2.bel.cell (p := ⟨b2, o2 + i * 2 + 1, none⟩) hb2).trans z2
  have y3 : W.cell? ⟨b3, o3 + j * 2 + 1, none⟩ = some (.int .i64 n) := (hx2.bel.cell (p := ⟨b3, o3 + j * 2 + 1, none⟩) hb3).trans z3
  have HX2 := Lib.hid hx2
  have Z0 := Lib.hid z0
  have Z1 := Lib.hid z1
  have Z2 := Lib.hid z2
  have Z3 := Lib.hid z3
  have B0 := Lib.hid hb0
  have B1 := Lib.hid hb1
  have B2 := Lib.hid hb2
  have B3 := Lib.hid hb3
  have HW := Lib.hid hW
  have p1 : (0 : Int) ≤ (a : Int) := by omega
  have p2 : (a : Int) < (c.ord.length : Int) := by omega
  have p3 : (0 : Int) ≤ (e : Int) := by omega
  have p4 : (e : Int) < (c.bows.length : Int) := by omega
  have p5 : (0 : Int) ≤ (i : Int) := by omega
  have p6 : (i : Int) < (c.mdl.bats.length : Int) := by omega
  have p7 : (0 : Int) ≤ (j : Int) := by omega
  have p8 : (j : Int) < (c.mdl.bows.length : Int) := by omega
  clear hq1 hq2 hq3 hq4 hq5 ks hn hl hsh hv z0 z1 z2 z3 hb0 hb1 hb2 hb3 ga ge gi gj la le li lj e1 e2 f1 f2 s0 s1 i0 i1 j0 j1 sn sb h1 h2 hs hc hx h HM HX hx2 hW y0 y1 y2 y3
  go_enter Tryz.func130, Tryz.ntmps130
  go_wp2
  unfold chC at HW
  rw [← HW.out]
  clear HW
  have y0 : W.cell? ⟨b0, o0 + a, none⟩ = some (.int .i64 (i : Int)) := (HX2.out.bel.cell (p := ⟨b0, o0 + a, none⟩) B0.out).trans Z0.out
  have y1 : W.cell? ⟨b1, o1 + e, none⟩ = some (.int .i64 (j : Int)) := (HX2.out.bel.cell (p := ⟨b1, o1 + e, none⟩) B1.out).trans Z1.out
  have y2 : W.cell? ⟨b2, o2 + i * 2 + 1, none⟩ = some v := (HX2.out.bel.cell (p := ⟨b2, o2 + i * 2 + 1, none⟩) B2.out).trans Z2.out
  have y3 : W.cell? ⟨b3, o3 + j * 2 + 1, none⟩ = some (.int .i64 n) := (HX2.out.bel.cell (p := ⟨b3, o3 + j * 2 + 1, none⟩) B3.out).trans Z3.out
  obtain ⟨x0, x1, x2, x3, x4, x5, x6, t0, t1, t2, t3, t4⟩ := HX2.out.cells
  dsimp only at t0 t1 t2 t3 t4
  have HXD := Lib.hid HX2.out.drew
  go_region_held3 (fun w' => w'.cell? ⟨w.heap.size, 0, none⟩ = some (.slice (some ⟨b2, o2, none⟩) c.mdl.bats.length ca) ∧ w'.cell? ⟨w.heap.size, 1, none⟩ = some (.slice (some ⟨b3, o3, none⟩) c.mdl.bows.length ca1) ∧ w'.cell? ⟨w.heap.size, 2, none⟩ = some (.slice (some ⟨b1, o1, none⟩) c.bows.length ca2) ∧ w'.cell? ⟨w.heap.size, 6, none⟩ = some (.slice (some ⟨b0, o0, none⟩) c.ord.length ca3) ∧ w'.cell? ⟨w.heap.size + 1, 0, none⟩ = some (.int .i64 (e : Int)) ∧ w'.cell? ⟨w.heap.size + 1, 2, none⟩ = some (.int .i64 (a : Int)) ∧ w'.cell? ⟨b0, o0 + a, none⟩ = some (.int .i64 (i : Int)) ∧ w'.cell? ⟨b1, o1 + e, none⟩ = some (.int .i64 (j : Int)) ∧ w'.cell? ⟨b2, o2 + i * 2 + 1, none⟩ = some v ∧ w'.cell? ⟨b3, o3 + j * 2 + 1, none⟩ = some (.int .i64 n)) (first | exact ⟨x0, x1, x2, x6, t0, t2, u0, u1, u2, u3⟩ | exact ⟨x0, x1, x2, x6, t0, t2, y0, y1, y2, y3⟩ | go_keep) ((go_at_call 157; refine (KS.out _ HXD.out.bel).mono ?_; rintro e4 w4 ⟨v4, rfl, hs4, hb4⟩; obtain ⟨A4, c4, rfl, hc41, hc42⟩ := hs4.shape; have HX4 := Lib.hid (HXD.out.below hb4); obtain ⟨x0, x1, x2, x3, x4, x5, x6, t0, t1, t2, t3, t4⟩ := HX4.out.cells; dsimp only at t0 t1 t2 t3 t4; have u0 := (hb4.cell (p := ⟨b0, o0 + a, none⟩) (Nat.lt_of_lt_of_le B0.out HXD.out.bel.size)).trans y0; have u1 := (hb4.cell (p := ⟨b1, o1 + e, none⟩) (Nat.lt_of_lt_of_le B1.out HXD.out.bel.size)).trans y1; have u2 := (hb4.cell (p := ⟨b2, o2 + i * 2 + 1, none⟩) (Nat.lt_of_lt_of_le B2.out HXD.out.bel.size)).trans y2; have u3 := (hb4.cell (p := ⟨b3, o3 + j * 2 + 1, none⟩) (Nat.lt_of_lt_of_le B3.out HXD.out.bel.size)).trans y3; have HS4 := Lib.hid hs4; clear hs4 hb4))
  all_goals go_wp2
  go_ret
  exact ⟨_, _, _, rfl, HX4.out.bel, HS4.out.keep elOtc_good (Same.refl _ _) fun b h => ⟨Nat.le_trans HXD.out.bel.size h.1, h.2⟩⟩
theorem leftO_le {c : Chs} {s : Ost} (hc : OkT c) (hs : OkOs c s) : leftO c s ≤ 12 := by
  have := hc.nb; have := hs.ball
  unfold leftO; omega
set_option maxRecDepth 100000 in
set_option maxHeartbeats 4000000 in
theorem or_power (c : Chs) (s : Ost) (bv wv pv ov : Value) (w : World) (h : ChAt w (· < w.heap.size) bv wv pv ov c) (hc : OkT c) (hs : OkOs c s) :
    Calls Tryz.prog 104 #[chV c bv wv pv ov, osV s] w fun e w' => e = .returned (.int .i64 (pow16 (leftO c s))) ∧ Below w.heap.size w w' := by
  unfold chV osV
  obtain ⟨ball, need, str, par, wait⟩ := s
  obtain ⟨A, ca, rfl, hc1, hc2⟩ := h.mdl.bat.shape
  obtain ⟨A1, ca1, rfl, hc3, hc4⟩ := h.mdl.bow.shape
  obtain ⟨A2, ca2, rfl, hc5, hc6⟩ := h.bow.shape
  obtain ⟨A3, ca3, rfl, hc7, hc8⟩ := h.ord.shape
  have hx := OSB.new w c (.slice A c.mdl.bats.length ca) (.slice A1 c.mdl.bows.length ca1) (.slice A2 c.bows.length ca2) (.slice A3 c.ord.length ca3) ⟨ball, need, str, par, wait⟩
  have HX := Lib.hid hx
  have HM := Lib.hid h
  obtain ⟨n, hn⟩ : ∃ n, n = leftO c ⟨ball, need, str, par, wait⟩ := ⟨_, rfl⟩
  have hn12 := leftO_le hc hs
  rw [← hn] at hn12
  have hb := hs.ball
  dsimp only at hb
  have hbn : (c.bows.length : Int) - ball = (n : Int) := by rw [hn]; unfold leftO; dsimp only; omega
  rw [← hn]
  obtain ⟨z, hz⟩ : ∃ z, z = pow16 n := ⟨_, rfl⟩
  rw [← hz]
  have hnb := hc.ok.nb
  obtain ⟨hb1, hb2⟩ := hb
  obtain ⟨hnb1, hnb2⟩ := hnb
  clear hs hc hn hx h
  have hcase : n = 0 ∨ n = 1 ∨ n = 2 ∨ n = 3 ∨ n = 4 ∨ n = 5 ∨ n = 6 ∨ n = 7 ∨ n = 8 ∨ n = 9 ∨ n = 10 ∨ n = 11 ∨ n = 12 := by omega
  clear hn12
  rcases hcase with rfl | rfl | rfl | rfl | rfl | rfl | rfl | rfl | rfl | rfl | rfl | rfl | rfl
  all_goals
    have HZ := Lib.hid hz
    have hq := hbn
    simp only [Int.natCast_zero, Int.natCast_one, Int.cast_ofNat_Int] at hq
    clear hz hbn
    go_enter Tryz.func104, Tryz.ntmps104
    go_wp2
    go_ret
    exact ⟨ret_i (by rw [HZ.out]; first | rfl | decide), HX.out.bel⟩
theorem or_step_ret {R' : Ending → World → Prop} {a : Act} {w : World} {x0 x1 x2 x3 x4 : Value} {g : Nat} (h2 : a.tmps[6]? = some (.pointer (some ⟨g, 0, none⟩))) (hb : Blk w g 53 #[x0, x1, x2, x3, x4])
    (hd : a.defers = []) (hR : R' (.returned (.agg #[x0, x1, x2, x3, x4])) w) : bodyPost Tryz.prog Tryz.f106 R' .ret a w := by
  have r0 := hb.cell 0
  have r1 := hb.cell 1
  have r2 := hb.cell 2
  have r3 := hb.cell 3
  have r4 := hb.cell 4
  simp only [List.getElem?_toArray, List.getElem?_cons_zero, List.getElem?_cons_succ] at r0 r1 r2 r3 r4
  refine bodyPost_ret (v := .agg #[x0, x1, x2, x3, x4]) (by simp [results, Tryz.results106, go_sem, h2, r0, r1, r2, r3, r4]) hd hR
set_option maxRecDepth 100000 in
set_option maxHeartbeats 4000000 in
theorem or_step (c : Chs) (s : Ost) (o : Otc) (A A1 A2 A3 : Option Addr) (ca ca1 ca2 ca3 : Nat) (w : World) (hc : OkT c) (hs : OkOs c s) (h1 : s.ball ≠ c.bows.length) (h2 : vacO s = false) (hr : 0 ≤ o.runs ∧ o.runs ≤ 7) :
    Calls Tryz.prog 106 #[.agg #[.slice A c.mdl.bats.length ca, .slice A1 c.mdl.bows.length ca1, .slice A2 c.bows.length ca2, .int .i64 c.over, .int .i64 c.done, .int .i64 c.need, .slice A3 c.ord.length ca3], osV s, .agg #[.int .i64 o.runs, .bool o.wick, .int .i64 o.wt]] w fun e w' => e = .returned (osV (stepO c s o)) ∧ Below w.heap.size w w' := by
  obtain ⟨z, hz⟩ : ∃ z, z = stepO c s o := ⟨_, rfl⟩
  rw [← hz]
  unfold stepO at hz
  obtain ⟨ball, need, str, par, wait⟩ := s
  obtain ⟨pr, pw, pt⟩ := o
  unfold osV
  dsimp only at hr hz ⊢
  have b1 := hs.ball
  have b2 := hs.need
  have b4 := hs.str
  have b5 := hs.par
  have b6 := hc.ok.nb
  have b7 := hc.ok.need
  have b8 := hc.np
  have b9 := hc.ok.over
  have b10 := hc.ok.done
  have b11 := hs.w16
  dsimp only at b1 b2 b4 b5 b11 h1
  obtain ⟨m, hm⟩ : ∃ m, max (need - pr) 0 = m := ⟨_, rfl⟩
  have hm2 : max 0 (need - pr) = m := by rw [← hm]; omega
  have hm3 : 0 ≤ m ∧ m ≤ 84 := by omega
  rw [hm] at hz
  have hsw : swapC c (ball + 1) ⟨pr, pw, pt⟩ = (decide (pr % 2 = 1) != decide ((c.done + (ball + 1)) % c.over = 0)) := rfl
  have e1 : (pr % 2 == 1) = decide (pr % 2 = 1) := by by_cases h : pr % 2 = 1 <;> simp [h]
  have e2 : ((c.done + (ball + 1)) % c.over == 0) = decide ((c.done + (ball + 1)) % c.over = 0) := by by_cases h : (c.done + (ball + 1)) % c.over = 0 <;> simp [h]
  rw [hsw] at hz
  obtain ⟨x1, hx1⟩ : ∃ x, x = decide (pr % 2 = 1) := ⟨_, rfl⟩
  obtain ⟨x2, hx2⟩ : ∃ x, x = decide ((c.done + (ball + 1)) % c.over = 0) := ⟨_, rfl⟩
  rw [← hx1] at e1 hz
  rw [← hx2] at e2 hz
  obtain ⟨over, hov⟩ : ∃ x, x = c.over := ⟨_, rfl⟩
  obtain ⟨done, hdo⟩ : ∃ x, x = c.done := ⟨_, rfl⟩
  rw [← hov, ← hdo] at e2 ⊢
  rw [← hov] at b9
  rw [← hdo, ← hov] at b10
  obtain ⟨c1, c2⟩ := b1
  obtain ⟨c3, c4⟩ := b2
  obtain ⟨c7, c8⟩ := b4
  obtain ⟨c9, c10⟩ := b5
  obtain ⟨c11, c12⟩ := b6
  obtain ⟨c13, c14⟩ := b7
  obtain ⟨c15, c16⟩ := b8
  obtain ⟨c17, c18⟩ := b9
  obtain ⟨c19, c20⟩ := b10
  obtain ⟨c21, c22⟩ := hr
  obtain ⟨c23, c24⟩ := hm3
  obtain ⟨c25, c26⟩ := b11
  clear hx1 hx2 hov hdo hsw hs hc h1 h2
  cases pw
  all_goals
    simp only [Bool.false_eq_true, if_true, if_false] at hz
    cases x1 <;> cases x2 <;> simp only [bne_self_eq_false, if_true, if_false, Bool.false_eq_true, Bool.bne_false, Bool.bne_true, Bool.not_false, Bool.not_true] at hz
    all_goals
      have HZ := Lib.hid hz
      clear hz
      go_enter Tryz.func106, Tryz.ntmps106
      go_wp2
      go_quiet (fail)
      go_wp2
      apply or_step_ret (g := w.heap.size + 1 + 1 + 1) (h2 := rfl) (hd := rfl)
      case hb =>
        first
          | with_reducible exact oblk_rv _ _ _ _ _ _ _ _ _
          | (with_reducible apply Blk.put5
             repeat (first | with_reducible refine Blk.drewNB ?_ _ | with_reducible refine blk_far1 ?_ _ _)
             with_reducible exact oblk_r _ _ _ _)
      case hR =>
        refine ⟨by rw [HZ.out] <;> rfl, ?_⟩
        first
          | with_reducible exact below_r _ _ _ _ _
          | (with_reducible refine below_set5 ?_ (le3 _) _ _ _ _ _
             repeat (first | with_reducible refine Below.drewN_ ?_ _ | with_reducible refine below_far1 ?_ _ _)
             with_reducible exact below_r _ _ _ _ _)
theorem r45_after_ret {R' : Ending → World → Prop} {a : Act} {w : World} {x0 x1 x2 x3 x4 : Value} {g : Nat} (h2 : a.tmps[6]? = some (.pointer (some ⟨g, 0, none⟩))) (hb : Blk w g 53 #[x0, x1, x2, x3, x4])
    (hd : a.defers = []) (hR : R' (.returned (.agg #[x0, x1, x2, x3, x4])) w) : bodyPost Tryz.prog Tryz.f131 R' .ret a w := by
  have r0 := hb.cell 0
  have r1 := hb.cell 1
  have r2 := hb.cell 2
  have r3 := hb.cell 3
  have r4 := hb.cell 4
  simp only [List.getElem?_toArray, List.getElem?_cons_zero, List.getElem?_cons_succ] at r0 r1 r2 r3 r4
  refine bodyPost_ret (v := .agg #[x0, x1, x2, x3, x4]) (by simp [results, Tryz.results131, go_sem, h2, r0, r1, r2, r3, r4]) hd hR
set_option maxRecDepth 100000 in
set_option maxHeartbeats 4000000 in
theorem r45_after (c : Chs) (s : Ost) (o : Otc) (A A1 A2 A3 : Option Addr) (ca ca1 ca2 ca3 : Nat) (w : World) (hc : OkT c) (hs : OkOs c s) (h1 : s.ball ≠ c.bows.length) (h2 : vacO s = false) (hr : 0 ≤ o.runs ∧ o.runs ≤ 7) :
    Calls Tryz.prog 131 #[.agg #[.slice A c.mdl.bats.length ca, .slice A1 c.mdl.bows.length ca1, .slice A2 c.bows.length ca2, .int .i64 c.over, .int .i64 c.done, .int .i64 c.need, .slice A3 c.ord.length ca3], osV s, .agg #[.int .i64 o.runs, .bool o.wick, .int .i64 o.wt]] w fun e w' => e = .returned (osV (stepO c s o)) ∧ Below w.heap.size w w' := by
  obtain ⟨z, hz⟩ : ∃ z, z = stepO c s o := ⟨_, rfl⟩
  rw [← hz]
  unfold stepO at hz
  obtain ⟨ball, need, str, par, wait⟩ := s
  obtain ⟨pr, pw, pt⟩ := o
  unfold osV
  dsimp only at hr hz ⊢
  have b1 := hs.ball
  have b2 := hs.need
  have b4 := hs.str
  have b5 := hs.par
  have b6 := hc.ok.nb
  have b7 := hc.ok.need
  have b8 := hc.np
  have b9 := hc.ok.over
  have b10 := hc.ok.done
  have b11 := hs.w16
  dsimp only at b1 b2 b4 b5 b11 h1
  obtain ⟨m, hm⟩ : ∃ m, max (need - pr) 0 = m := ⟨_, rfl⟩
  have hm2 : max 0 (need - pr) = m := by rw [← hm]; omega
  have hm3 : 0 ≤ m ∧ m ≤ 84 := by omega
  rw [hm] at hz
  have hsw : swapC c (ball + 1) ⟨pr, pw, pt⟩ = (decide (pr % 2 = 1) != decide ((c.done + (ball + 1)) % c.over = 0)) := rfl
  have e1 : (pr % 2 == 1) = decide (pr % 2 = 1) := by by_cases h : pr % 2 = 1 <;> simp [h]
  have e2 : ((c.done + (ball + 1)) % c.over == 0) = decide ((c.done + (ball + 1)) % c.over = 0) := by by_cases h : (c.done + (ball + 1)) % c.over = 0 <;> simp [h]
  rw [hsw] at hz
  obtain ⟨x1, hx1⟩ : ∃ x, x = decide (pr % 2 = 1) := ⟨_, rfl⟩
  obtain ⟨x2, hx2⟩ : ∃ x, x = decide ((c.done + (ball + 1)) % c.over = 0) := ⟨_, rfl⟩
  rw [← hx1] at e1 hz
  rw [← hx2] at e2 hz
  obtain ⟨over, hov⟩ : ∃ x, x = c.over := ⟨_, rfl⟩
  obtain ⟨done, hdo⟩ : ∃ x, x = c.done := ⟨_, rfl⟩
  rw [← hov, ← hdo] at e2 ⊢
  rw [← hov] at b9
  rw [← hdo, ← hov] at b10
  obtain ⟨c1, c2⟩ := b1
  obtain ⟨c3, c4⟩ := b2
  obtain ⟨c7, c8⟩ := b4
  obtain ⟨c9, c10⟩ := b5
  obtain ⟨c11, c12⟩ := b6
  obtain ⟨c13, c14⟩ := b7
  obtain ⟨c15, c16⟩ := b8
  obtain ⟨c17, c18⟩ := b9
  obtain ⟨c19, c20⟩ := b10
  obtain ⟨c21, c22⟩ := hr
  obtain ⟨c23, c24⟩ := hm3
  obtain ⟨c25, c26⟩ := b11
  clear hx1 hx2 hov hdo hsw hs hc h1 h2
  cases pw
  all_goals
    simp only [Bool.false_eq_true, if_true, if_false] at hz
    cases x1 <;> cases x2 <;> simp only [bne_self_eq_false, if_true, if_false, Bool.false_eq_true, Bool.bne_false, Bool.bne_true, Bool.not_false, Bool.not_true] at hz
    all_goals
      have HZ := Lib.hid hz
      clear hz
      go_enter Tryz.func131, Tryz.ntmps131
      go_wp2
      apply r45_after_ret (g := w.heap.size + 1 + 1 + 1) (h2 := rfl) (hd := rfl)
      case hb =>
        first
          | with_reducible exact oblk_rv _ _ _ _ _ _ _ _ _
          | (with_reducible apply Blk.put5
             repeat (first | with_reducible refine Blk.drewNB ?_ _ | with_reducible refine blk_far1 ?_ _ _)
             with_reducible exact oblk_r _ _ _ _)
      case hR =>
        refine ⟨by rw [HZ.out] <;> rfl, ?_⟩
        first
          | with_reducible exact below_r _ _ _ _ _
          | (with_reducible refine below_set5 ?_ (le3 _) _ _ _ _ _
             repeat (first | with_reducible refine Below.drewN_ ?_ _ | with_reducible refine below_far1 ?_ _ _)
             with_reducible exact below_r _ _ _ _ _)
theorem or_opened_ret {R' : Ending → World → Prop} {a : Act} {w : World} {x0 x1 x2 x3 x4 : Value} {g : Nat} (h2 : a.tmps[6]? = some (.pointer (some ⟨g, 0, none⟩))) (hb : Blk w g 53 #[x0, x1, x2, x3, x4])
    (hd : a.defers = []) (hR : R' (.returned (.agg #[x0, x1, x2, x3, x4])) w) : bodyPost Tryz.prog Tryz.f69 R' .ret a w := by
  have r0 := hb.cell 0
  have r1 := hb.cell 1
  have r2 := hb.cell 2
  have r3 := hb.cell 3
  have r4 := hb.cell 4
  simp only [List.getElem?_toArray, List.getElem?_cons_zero, List.getElem?_cons_succ] at r0 r1 r2 r3 r4
  refine bodyPost_ret (v := .agg #[x0, x1, x2, x3, x4]) (by simp [results, Tryz.results69, go_sem, h2, r0, r1, r2, r3, r4]) hd hR
set_option maxRecDepth 100000 in
set_option maxHeartbeats 4000000 in
theorem or_opened (c : Chs) (a b : Nat) (bv wv pv ov : Value) (w : World) (h : ChAt w (· < w.heap.size) bv wv pv ov c) (ht : OkT c) (ha : a < c.ord.length) (hb : b < c.ord.length) :
    Calls Tryz.prog 69 #[chV c bv wv pv ov, .int .i64 (a : Int), .int .i64 (b : Int)] w fun e w' => e = .returned (osV (openO c a b)) ∧ Below w.heap.size w w' := by
  unfold chV
  obtain ⟨A, ca, rfl, hc1, hc2⟩ := h.mdl.bat.shape
  obtain ⟨A1, ca1, rfl, hc3, hc4⟩ := h.mdl.bow.shape
  obtain ⟨A2, ca2, rfl, hc5, hc6⟩ := h.bow.shape
  obtain ⟨A3, ca3, rfl, hc7, hc8⟩ := h.ord.shape
  obtain ⟨z, hz⟩ : ∃ z, z = openO c a b := ⟨_, rfl⟩
  rw [← hz]
  unfold openO lessW allW oneW at hz
  have hnp := ht.np
  unfold osV
  obtain ⟨hnp1, hnp2⟩ := hnp
  obtain ⟨n, hn⟩ : ∃ n, n = c.ord.length := ⟨_, rfl⟩
  rw [← hn] at hz hnp1 hnp2 ha hb ⊢
  have g1 : (0 : Int) ≤ (n : Int) := by omega
  have g2 : (n : Int) < 16 := by omega
  have g3 : (0 : Int) ≤ (a : Int) := by omega
  have g4 : (a : Int) < 16 := by omega
  have g5 : (0 : Int) ≤ (b : Int) := by omega
  have g6 : (b : Int) < 16 := by omega
  have HZ := Lib.hid hz
  clear hz h ht hn
  go_enter Tryz.func69, Tryz.ntmps69
  go_wp2
  all_goals go_region
  all_goals go_wp2
  all_goals
    apply or_opened_ret (g := w.heap.size + 1) (h2 := rfl) (hd := rfl)
    case hb =>
      repeat (with_reducible refine Blk.drewNB ?_ _)
      first | exact blk_two _ _ _ _ | exact (blk_two _ _ _ _).drew
    case hR =>
      refine ⟨by rw [HZ.out] <;> rfl, ?_⟩
      repeat (with_reducible refine Below.drewN_ ?_ _)
      first | exact below_two _ _ _ | exact Below.drew (below_two _ _ _)
theorem r45_opening_ret {R' : Ending → World → Prop} {a : Act} {w : World} {x0 x1 x2 x3 x4 : Value} {g : Nat} (h2 : a.tmps[6]? = some (.pointer (some ⟨g, 0, none⟩))) (hb : Blk w g 53 #[x0, x1, x2, x3, x4])
    (hd : a.defers = []) (hR : R' (.returned (.agg #[x0, x1, x2, x3, x4])) w) : bodyPost Tryz.prog Tryz.f65 R' .ret a w := by
  have r0 := hb.cell 0
  have r1 := hb.cell 1
  have r2 := hb.cell 2
  have r3 := hb.cell 3
  have r4 := hb.cell 4
  simp only [List.getElem?_toArray, List.getElem?_cons_zero, List.getElem?_cons_succ] at r0 r1 r2 r3 r4
  refine bodyPost_ret (v := .agg #[x0, x1, x2, x3, x4]) (by simp [results, Tryz.results65, go_sem, h2, r0, r1, r2, r3, r4]) hd hR
set_option maxRecDepth 100000 in
set_option maxHeartbeats 4000000 in
theorem r45_opening (c : Chs) (a b : Nat) (bv wv pv ov : Value) (w : World) (h : ChAt w (· < w.heap.size) bv wv pv ov c) (ht : OkT c) (ha : a < c.ord.length) (hb : b < c.ord.length) :
    Calls Tryz.prog 65 #[chV c bv wv pv ov, .int .i64 (a : Int), .int .i64 (b : Int)] w fun e w' => e = .returned (osV (openO c a b)) ∧ Below w.heap.size w w' := by
  unfold chV
  obtain ⟨A, ca, rfl, hc1, hc2⟩ := h.mdl.bat.shape
  obtain ⟨A1, ca1, rfl, hc3, hc4⟩ := h.mdl.bow.shape
  obtain ⟨A2, ca2, rfl, hc5, hc6⟩ := h.bow.shape
  obtain ⟨A3, ca3, rfl, hc7, hc8⟩ := h.ord.shape
  obtain ⟨z, hz⟩ : ∃ z, z = openO c a b := ⟨_, rfl⟩
  rw [← hz]
  unfold openO lessW allW oneW at hz
  have hnp := ht.np
  unfold osV
  obtain ⟨hnp1, hnp2⟩ := hnp
  obtain ⟨n, hn⟩ : ∃ n, n = c.ord.length := ⟨_, rfl⟩
  rw [← hn] at hz hnp1 hnp2 ha hb ⊢
  have g1 : (0 : Int) ≤ (n : Int) := by omega
  have g2 : (n : Int) < 16 := by omega
  have g3 : (0 : Int) ≤ (a : Int) := by omega
  have g4 : (a : Int) < 16 := by omega
  have g5 : (0 : Int) ≤ (b : Int) := by omega
  have g6 : (b : Int) < 16 := by omega
  have HZ := Lib.hid hz
  clear hz h ht hn
  go_enter Tryz.func65, Tryz.ntmps65
  go_wp2
  all_goals go_region
  all_goals go_wp2
  all_goals
    apply r45_opening_ret (g := w.heap.size + 1) (h2 := rfl) (hd := rfl)
    case hb =>
      repeat (with_reducible refine Blk.drewNB ?_ _)
      first | exact blk_two _ _ _ _ | exact (blk_two _ _ _ _).drew
    case hR =>
      refine ⟨by rw [HZ.out] <;> rfl, ?_⟩
      repeat (with_reducible refine Below.drewN_ ?_ _)
      first | exact below_two _ _ _ | exact Below.drew (below_two _ _ _)
end Go.Proofs.YtfnfbojaiikigaaGreatDoor

namespace Go.Proofs.YtfnfbojaiikigaaGreatDoor
open Go.RowKit Go.Maps

def keyOs (s : Ost) : Lit := .string (keyBytes [.int .i64 s.ball, .int .i64 s.need, .int .i64 s.str, .int .i64 s.par, .int .u16 s.wait])
structure SmolO (s : Ost) : Prop where
  ball : -1000 ≤ s.ball ∧ s.ball ≤ 1000
  need : -1000 ≤ s.need ∧ s.need ≤ 1000
  str : -1000 ≤ s.str ∧ s.str ≤ 1000
  par : -1000 ≤ s.par ∧ s.par ≤ 1000
  w16 : 0 ≤ s.wait ∧ s.wait < 65536
theorem OkOs.smol {c : Chs} {s : Ost} (hc : OkT c) (h : OkOs c s) : SmolO s := by
  have := hc.nb; have := hc.ok.need; have := hc.np; have := h.ball; have := h.need; have := h.str; have := h.par
  exact ⟨by omega, by omega, by omega, by omega, h.w16⟩
theorem law45 : Keyed Tryz.prog 53 := Keyed.of_law (deep_law_gate (by kernel_rfl) (of_decide_eq_true (by kernel_rfl)) (of_decide_eq_true (by kernel_rfl)) (by kernel_rfl) (by kernel_rfl))
theorem okey_of {s : Ost} (h : SmolO s) : keyOf Tryz.prog 53 (osV s) = some (keyOs s) := by
  have hkt : Tryz.prog.keyType 53 = true := by kernel_rfl
  have hce : Tryz.prog.cellsOf 53 = 5 := by kernel_rfl
  have hci : Tryz.prog.cellsOf 3 = 1 := by kernel_rfl
  have hcu : Tryz.prog.cellsOf 51 = 1 := by kernel_rfl
  obtain ⟨m, hm⟩ : ∃ m, Tryz.prog.types.size = m + 1 := ⟨Tryz.prog.types.size - 1, by kernel_rfl⟩
  have w0 := wf_small h.ball
  have w1 := wf_small h.need
  have w2 := wf_small h.str
  have w3 := wf_small h.par
  have w4 : (Lit.int .u16 s.wait).wf = true := WalkArith.wf_u16 (by have := h.w16; omega)
  unfold keyOf osV keyOs
  simp only [Tryz.underlying53]
  rw [if_pos (by simp [hkt, Value.formed, Tryz.underlying53, hce]), hm]
  unfold Program.keyLits
  simp only [Tryz.underlying53, Value.cells]
  rw [if_pos ⟨by rw [hce]; rfl, by kernel_rfl⟩]
  simp [hci, hcu, Program.keyLits, Tryz.underlying3, Tryz.underlying51, w0, w1, w2, w3, w4]
theorem okey_inj {s t : Ost} (hs : SmolO s) (ht : SmolO t) (h : keyOs s = keyOs t) : s = t := by
  have e := keyOf_inj_deep (P := Tryz.prog) (m := Tryz.prog.types.size + 1) (k := 53) (by kernel_rfl) (by kernel_rfl) (okey_of hs) (h ▸ okey_of ht)
  obtain ⟨a1, a2, a3, a4, a5⟩ := s
  obtain ⟨b1, b2, b3, b4, b5⟩ := t
  unfold osV at e
  simp at e
  obtain ⟨rfl, rfl, rfl, rfl, rfl⟩ := e
  rfl
theorem okey_lit (s : Ost) : WideAt.IsKeyLit (keyOs s) := by unfold keyOs; trivial
/-- Every state of the map has its value. -/
def KnownO (c : Chs) (D : DataW Unit) : Prop := ∀ s, OkOs c s → Maps.has D (keyOs s) = true → D.atKey (keyOs s) (.lit (.int .i64 0)) = .lit (.int .i64 (vO c s))
theorem KnownO.none (c : Chs) : KnownO c (.map []) := fun s _ h => by cases h
theorem KnownO.put {c : Chs} {D : DataW Unit} (h : KnownO c D) (hD : IsMap D) (hc : OkT c) {s : Ost} (hs : OkOs c s) : KnownO c (D.put (keyOs s) (.lit (.int .i64 (vO c s)))) := fun t ht hh => by
  by_cases e : keyOs t = keyOs s
  · have := okey_inj (ht.smol hc) (hs.smol hc) e
    subst this
    exact atKey_put_same hD (okey_lit _) _ _
  · rw [has_put_other e] at hh
    rw [atKey_put_other e]
    exact h t ht hh
/-- Nothing is taken out. -/
def GrewO (D D' : DataW Unit) : Prop := ∀ s, Maps.has D (keyOs s) = true → Maps.has D' (keyOs s) = true
theorem GrewO.refl (D : DataW Unit) : GrewO D D := fun _ h => h
theorem GrewO.trans {A B C : DataW Unit} (h : GrewO A B) (k : GrewO B C) : GrewO A C := fun s x => k s (h s x)
theorem GrewO.put {D : DataW Unit} (hD : IsMap D) (s : Ost) (v : DataW Unit) : GrewO D (D.put (keyOs s) v) := fun t h => by
  by_cases e : keyOs t = keyOs s
  · rw [e]; exact has_put_same hD (okey_lit _) _
  · rw [has_put_other e]; exact h
abbrev ValsO (w : World) (b N : Nat) (D : DataW Unit) : Prop := w.ownsMap Tryz.prog 53 (plainElem Tryz.prog 2) b N D
def rankO (c : Chs) (s : Ost) : Nat := 2 * leftO c s + (if vacO s = true then 1 else 0)
def cntR : Nat → Nat
  | 0 => 1
  | m + 1 => 1 + (if m % 2 = 0 then 6 else 16) * cntR m
theorem cntR_step (m : Nat) : cntR m ≤ cntR (m + 1) := by
  rw [cntR]; split <;> omega
theorem cntR_mono {k m : Nat} (h : k ≤ m) : cntR k ≤ cntR m := by
  induction m with
  | zero => obtain rfl : k = 0 := by omega
            exact Nat.le_refl _
  | succ m ih =>
    by_cases e : k = m + 1
    · subst e; exact Nat.le_refl _
    · exact Nat.le_trans (ih (by omega)) (cntR_step m)
/-- What a function that values states of an order does. -/
def SolveO (f : FuncId) (c : Chs) (m : Nat) : Prop := ∀ (s : Ost), rankO c s = m → OkOs c s → ∀ (bv wv pv ov : Value) (F : Nat → Prop) (b N : Nat) (D : DataW Unit) (w : World), ChAt w F bv wv pv ov c → (∀ x, F x → x < w.heap.size ∧ x ≠ b) → ValsO w b N D → KnownO c D → N + cntR m ≤ 2000000000000000000 →
  Calls Tryz.prog f #[chV c bv wv pv ov, osV s, .map (some b)] w fun e w' => e = .returned (.int .i64 (vO c s)) ∧ Only b w w' ∧ ∃ D', ValsO w' b (N + cntR m) D' ∧ KnownO c D' ∧ GrewO D D' ∧ Maps.has D' (keyOs s) = true
/-- The states that follow have a lesser rank. -/
theorem rank_send {c : Chs} {s : Ost} {i : Int} (ht : OkT c) (h : OkOs c s) (hv : vacO s = true) (hi : 0 ≤ i ∧ i < c.ord.length) (hb : bitW s.wait i = true) : OkOs c (sendO s i) ∧ rankO c (sendO s i) + 1 = rankO c s := by
  obtain ⟨k1, k2, k3, k4⟩ := sendO_ok ht h hv hi hb
  refine ⟨k1, ?_⟩
  unfold rankO leftO
  rw [k2, hv, k3]; simp
theorem rank_step {c : Chs} {s : Ost} {o : Otc} (h : OkOs c s) (h2 : s.ball ≠ c.bows.length) (hv : vacO s = false) (ho : 0 ≤ o.runs) : OkOs c (stepO c s o) ∧ rankO c (stepO c s o) + 1 ≤ rankO c s := by
  obtain ⟨k1, k2, k3⟩ := stepO_ok h h2 hv ho
  have := h.ball
  refine ⟨k1, ?_⟩
  unfold rankO leftO
  rw [hv, k2]
  split
  · simp; omega
  · simp; omega
/-- A box of a task, a box of a map's variable, beside a map. -/
structure EnvO (W : World) (F : Nat → Prop) (b g0 g2 : Nat) (c : Chs) (bv wv pv ov : Value) : Prop where
  ch : ChAt W F bv wv pv ov c
  hF : ∀ x, F x → x < W.heap.size ∧ x ≠ b
  t0 : Blk W g0 50 #[bv, wv, pv, .int .i64 c.over, .int .i64 c.done, .int .i64 c.need, ov]
  m2 : Blk W g2 93 #[.map (some b)]
  n0 : g0 ≠ b
  n2 : g2 ≠ b
theorem EnvO.only {W W' : World} {F : Nat → Prop} {b g0 g2 : Nat} {c : Chs} {bv wv pv ov : Value} (h : EnvO W F b g0 g2 c bv wv pv ov) (ho : Only b W W') : EnvO W' F b g0 g2 c bv wv pv ov :=
  ⟨h.ch.keep (ho.same h.hF) fun _ h => h, fun x hx => ⟨Nat.lt_of_lt_of_le (h.hF x hx).1 ho.size, (h.hF x hx).2⟩, h.t0.grown ho (by intro e; injection e with e; exact h.n0 e.symm), h.m2.grown ho (by intro e; injection e with e; exact h.n2 e.symm), h.n0, h.n2⟩
theorem ovals_below {W W' : World} {b N : Nat} {D : DataW Unit} (h : ValsO W b N D) (hb : Below W.heap.size W W') : ValsO W' b N D := h.kept (Only.of_below (g := b + 1) hb) (by simp)
end Go.Proofs.YtfnfbojaiikigaaGreatDoor

namespace Go.Proofs.YtfnfbojaiikigaaGreatDoor
open Go.RowKit Go.Maps

/-- A task and a state boxed in value's frame, the maker's boxes and the map beside them. -/
structure SolV (w W : World) (F : Nat → Prop) (b g0 g2 N : Nat) (D0 : DataW Unit) (c : Chs) (bv wv pv ov : Value) (s : Ost) : Prop where
  only : Only b w W
  box : Blk W w.heap.size 50 #[bv, wv, pv, .int .i64 c.over, .int .i64 c.done, .int .i64 c.need, ov]
  st : Blk W (w.heap.size + 1) 53 #[.int .i64 s.ball, .int .i64 s.need, .int .i64 s.str, .int .i64 s.par, .int .u16 s.wait]
  blt : b < w.heap.size
  env : EnvO W F b g0 g2 c bv wv pv ov
  vals : ∃ D, ValsO W b N D ∧ KnownO c D ∧ GrewO D0 D
section
variable {w W W' : World} {F : Nat → Prop} {b g0 g2 N N' : Nat} {D0 : DataW Unit} {c : Chs} {bv wv pv ov : Value} {s : Ost}
theorem SolV.below (h : SolV w W F b g0 g2 N D0 c bv wv pv ov s) (hb : Below W.heap.size W W') : SolV w W' F b g0 g2 N D0 c bv wv pv ov s :=
  ⟨h.only.trans (Only.of_below hb), h.box.below hb h.box.lt, h.st.below hb h.st.lt, h.blt, h.env.only (Only.of_below hb), let ⟨D, h1, h2, h3⟩ := h.vals; ⟨D, ovals_below h1 hb, h2, h3⟩⟩
theorem SolV.alloc (h : SolV w W F b g0 g2 N D0 c bv wv pv ov s) (o : Obj) : SolV w (W.alloc o) F b g0 g2 N D0 c bv wv pv ov s := h.below (Below.alloc (Below.refl _ _) (Nat.le_refl _) o)
theorem SolV.into (h : SolV w W F b g0 g2 N D0 c bv wv pv ov s) (ho : Only b W W') (hv : ∃ D, ValsO W' b N' D ∧ KnownO c D ∧ GrewO D0 D) : SolV w W' F b g0 g2 N' D0 c bv wv pv ov s :=
  ⟨h.only.trans ho, h.box.grown ho (by intro e; injection e with e; have := h.blt; omega), h.st.grown ho (by intro e; injection e with e; have := h.blt; omega), h.blt, h.env.only ho, hv⟩
theorem SolV.cells (h : SolV w W F b g0 g2 N D0 c bv wv pv ov s) : W.cell? ⟨w.heap.size, 0, none⟩ = some bv ∧ W.cell? ⟨w.heap.size, 1, none⟩ = some wv ∧ W.cell? ⟨w.heap.size, 2, none⟩ = some pv ∧ W.cell? ⟨w.heap.size, 3, none⟩ = some (.int .i64 c.over) ∧ W.cell? ⟨w.heap.size, 4, none⟩ = some (.int .i64 c.done) ∧ W.cell? ⟨w.heap.size, 5, none⟩ = some (.int .i64 c.need) ∧ W.cell? ⟨w.heap.size, 6, none⟩ = some ov ∧
    W.cell? ⟨w.heap.size + 1, 0, none⟩ = some (.int .i64 s.ball) ∧ W.cell? ⟨w.heap.size + 1, 1, none⟩ = some (.int .i64 s.need) ∧ W.cell? ⟨w.heap.size + 1, 2, none⟩ = some (.int .i64 s.str) ∧ W.cell? ⟨w.heap.size + 1, 3, none⟩ = some (.int .i64 s.par) ∧ W.cell? ⟨w.heap.size + 1, 4, none⟩ = some (.int .u16 s.wait) :=
  ⟨h.box.cell 0, h.box.cell 1, h.box.cell 2, h.box.cell 3, h.box.cell 4, h.box.cell 5, h.box.cell 6, h.st.cell 0, h.st.cell 1, h.st.cell 2, h.st.cell 3, h.st.cell 4⟩
theorem SolV.new {D : DataW Unit} (he : EnvO w F b g0 g2 c bv wv pv ov) (h1 : ValsO w b N D) (h2 : KnownO c D) : SolV w ((w.alloc (.cells #[bv, wv, pv, .int .i64 c.over, .int .i64 c.done, .int .i64 c.need, ov] 50)).alloc (.cells #[.int .i64 s.ball, .int .i64 s.need, .int .i64 s.str, .int .i64 s.par, .int .u16 s.wait] 53)) F b g0 g2 N D c bv wv pv ov s :=
  let hx := OSB.new w c bv wv pv ov s
  ⟨Only.of_below hx.bel, hx.box, hx.st, h1.lt, he.only (Only.of_below hx.bel), D, ovals_below h1 hx.bel, h2, GrewO.refl _⟩
/-- The chase lies still. -/
theorem SolV.chb (h : SolV w W F b g0 g2 N D0 c bv wv pv ov s) : ChAt W (· < W.heap.size) bv wv pv ov c := h.env.ch.keep (Same.refl _ _) fun x hx => (h.env.hF x hx).1
end
/-- What the function handed to value does. -/
def LookO (f : FuncId) (F : Nat → Prop) (b g0 g2 K m : Nat) (c : Chs) (bv wv pv ov : Value) : Prop := ∀ (x : Ost), OkOs c x → rankO c x < m → ∀ (N : Nat) (D : DataW Unit) (W : World), EnvO W F b g0 g2 c bv wv pv ov → ValsO W b N D → KnownO c D → N + K ≤ 2000000000000000000 →
  Calls Tryz.prog f #[osV x, .pointer (some ⟨g0, 0, none⟩), .pointer (some ⟨g2, 0, none⟩)] W fun e W' => e = .returned (.tuple #[.int .i64 (vO c x), .bool true]) ∧ Only b W W' ∧ ∃ D', ValsO W' b (N + K) D' ∧ KnownO c D' ∧ GrewO D D'
theorem bestF_at {f : Int → Int} {w : Int} {k : Nat} (h : bitW w k = true) : bestF f w (k + 1) = max (bestF f w k) (f k) := by rw [bestF, if_pos h]
theorem bestF_not {f : Int → Int} {w : Int} {k : Nat} (h : bitW w k = false) : bestF f w (k + 1) = bestF f w k := by rw [bestF, if_neg (by simp [h])]
set_option maxRecDepth 100000 in
set_option maxHeartbeats 8000000 in
theorem or_value (c : Chs) (ht : OkT c) (s : Ost) (hs : OkOs c s) (F : Nat → Prop) (b g0 g2 K N : Nat) (D : DataW Unit) (bv wv pv ov : Value) (w : World) (hlook : LookO 97 F b g0 g2 K (rankO c s) c bv wv pv ov) (henv : EnvO w F b g0 g2 c bv wv pv ov) (hown : ValsO w b N D) (hkn : KnownO c D) (hN : N + (if rankO c s % 2 = 1 then 6 else 16) * K ≤ 2000000000000000000) :
    Calls Tryz.prog 70 #[chV c bv wv pv ov, osV s, .func (.func 97) #[] #[.pointer (some ⟨g0, 0, none⟩), .pointer (some ⟨g2, 0, none⟩)]] w fun e w' => e = .returned (.tuple #[.int .i64 (vO c s), .bool true]) ∧ Only b w w' ∧ ∃ D', ValsO w' b (N + (if rankO c s % 2 = 1 then 6 else 16) * K) D' ∧ KnownO c D' ∧ GrewO D D' := by
  obtain ⟨z, hz⟩ : ∃ z, z = vO c s := ⟨_, rfl⟩
  have hbd := vO_bd ht _ s hs rfl
  have hp16 := pow16_le (leftO_le ht hs)
  have hz0 : 0 ≤ z ∧ z ≤ 281474976710656 := by rw [hz]; omega
  have hnp := ht.np
  have hch := henv.ch
  have hFF := henv.hF
  rw [← hz]
  obtain ⟨A, ca, rfl, hc1, hc2⟩ := hch.mdl.bat.shape
  obtain ⟨A1, ca1, rfl, hc3, hc4⟩ := hch.mdl.bow.shape
  obtain ⟨A2, ca2, rfl, hc5, hc6⟩ := hch.bow.shape
  obtain ⟨A3, ca3, rfl, hc7, hc8⟩ := hch.ord.shape
  have hsol := SolV.new (s := s) henv hown hkn
  have HSOL := Lib.hid hsol
  have kend := fun W (hW : ChAt W (· < W.heap.size) (.slice A c.mdl.bats.length ca) (.slice A1 c.mdl.bows.length ca1) (.slice A2 c.bows.length ca2) (.slice A3 c.ord.length ca3) c) => or_ended c s _ _ _ _ W hW
  have kvac := fun W => or_vacant s W
  have kpow := fun W (hW : ChAt W (· < W.heap.size) (.slice A c.mdl.bats.length ca) (.slice A1 c.mdl.bows.length ca1) (.slice A2 c.bows.length ca2) (.slice A3 c.ord.length ca3) c) => or_power c s _ _ _ _ W hW ht hs
  unfold chV at kend kpow ⊢
  have hwon := fun h => vO_won (c := c) (s := s) h
  have hlost := fun h h2 => vO_lost (c := c) (s := s) h h2
  obtain ⟨Q, hQ⟩ : ∃ q, q = (if rankO c s % 2 = 1 then 6 else 16) * K := ⟨_, rfl⟩
  rw [← hQ] at hN ⊢
  have tok0 : True := trivial
  by_cases h0 : s.need = 0
  · have hw0 := hwon h0
    rw [← hz] at hw0
    rw [← hw0] at kpow
    have KP := Lib.hid kpow
    have e0 : (s.need == 0) = true := beq_iff_eq.2 h0
    obtain ⟨ball, need, str, par, wait⟩ := s
    unfold osV at KP ⊢
    dsimp only at e0
    obtain ⟨y0, y1, y2, y3, y4, y5, y6, t0, t1, t2, t3, t4⟩ := HSOL.out.cells
    dsimp only at KP t0 t1 t2 t3 t4
    clear kend kvac kpow hwon hlost hw0 h0 hz hbd hp16 hlook henv hown hkn hs hch hFF hQ hsol ht y0 y1 y2 y3 y4 y5 y6 t0 t1 t2 t3 t4
    go_enter Tryz.func70, Tryz.ntmps70
    go_wp2_with (clear tok0; go_at_call 104; refine (KP.out _ HSOL.out.chb).mono ?_; rintro e w2 ⟨rfl, hb2⟩; have HS2 := Lib.hid (HSOL.out.below hb2); clear hb2; have tok1 : True := trivial)
    go_ret2
    exact ⟨rfl, HS2.out.only, by obtain ⟨D2, h1, h2, h3⟩ := HS2.out.vals; exact ⟨D2, h1.mono (by omega), h2, h3⟩⟩
  have e0 : (s.need == 0) = false := beq_eq_false_iff_ne.2 h0
  by_cases h1 : s.ball = c.bows.length
  · have hl := hlost h0 h1
    rw [← hz] at hl
    have hend : endO c s = true := by unfold endO; simp [h1]
    rw [hend] at kend
    have KE := Lib.hid kend
    obtain ⟨ball, need, str, par, wait⟩ := s
    unfold osV at KE ⊢
    dsimp only at e0 KE
    subst hl
    clear kend kvac kpow hwon hlost h0 h1 hz hbd hp16 hlook henv hown hkn hs hch hFF hQ hsol ht hend
    go_enter Tryz.func70, Tryz.ntmps70
    go_wp2_with (clear tok0; go_at_call 61; refine (KE.out _ HSOL.out.chb).mono ?_; rintro e w2 ⟨rfl, hb2⟩; have HS2 := Lib.hid (HSOL.out.below hb2); clear hb2; have tok1 : True := trivial)
    go_ret2
    exact ⟨rfl, HS2.out.only, by obtain ⟨D2, h1, h2, h3⟩ := HS2.out.vals; exact ⟨D2, h1.mono (by omega), h2, h3⟩⟩
  have hend : endO c s = false := by unfold endO; simp [h0, h1]
  rw [hend] at kend
  have KE := Lib.hid kend
  clear hwon hlost kpow
  cases hv : vacO s
  · -- a ball is bowled
    rw [hv] at kvac
    have KV := Lib.hid kvac
    have kmv := fun W (hW : ChAt W (· < W.heap.size) (.slice A c.mdl.bats.length ca) (.slice A1 c.mdl.bows.length ca1) (.slice A2 c.bows.length ca2) (.slice A3 c.ord.length ca3) c) => or_moves c s _ _ _ _ W hW ht.ok hs h1 hv
    obtain ⟨_, _, _, _, _, _, _, _, _, _, _, _, _, _, _, hd⟩ := mvO_at ht.ok hs h1 hv
    have hrun := vO_run ht.ok hs h0 h1 hv
    rw [← hz] at hrun
    obtain ⟨l, hle⟩ : ∃ l, mvO c s = l := ⟨_, rfl⟩
    rw [hle] at hd hrun kmv
    have hok := checkD_ok hd
    have hlen : l.length ≤ 16 := hok.len.2
    have hoe : ∀ (k : Nat) (hk : k < l.length), OkO l[k] := fun k hk => hok.each _ (List.getElem_mem hk)
    have kstep := fun k (hk : k < l.length) W => or_step c s l[k] A A1 A2 A3 ca ca1 ca2 ca3 W ht hs h1 hv ⟨(hoe k hk).r0, (hoe k hk).r7⟩
    have krec := fun k (hk : k < l.length) N' D' W => hlook (stepO c s l[k]) (rank_step hs h1 hv (hoe k hk).r0).1 (by have := (rank_step hs h1 hv (hoe k hk).r0).2; omega) N' D' W
    have hprod : ∀ (k : Nat) (hk : k < l.length), 0 ≤ l[k].wt * vO c (stepO c s l[k]) ∧ l[k].wt * vO c (stepO c s l[k]) ≤ 281474976710656 := fun k hk => by
      obtain ⟨k1, k2, _⟩ := stepO_ok hs h1 hv (hoe k hk).r0
      have h8 := ht.nb
      have h9 := hs.ball
      exact prod_bd (n := leftO c (stepO c s l[k])) (by unfold leftO; rw [k2]; omega) ⟨(hoe k hk).w1, (hoe k hk).w16⟩ (vO_bd ht _ _ k1 rfl)
    have hsum : ∀ (k : Nat) (hk : k < l.length) (sm : Int), sm = sumI ((l.take k).map fun o => o.wt * vO c (stepO c s o)) → sm + l[k].wt * vO c (stepO c s l[k]) = sumI ((l.take (k + 1)).map fun o => o.wt * vO c (stepO c s o)) := fun k hk sm h => by
      rw [h, sum_take (fun o : Otc => o.wt * vO c (stepO c s o)) hk]
    have hK : 16 * K ≤ Q := by
      have hpar : rankO c s % 2 = 0 := by unfold rankO; rw [hv]; simp
      rw [hQ, if_neg (by omega)]; exact Nat.le_refl _
    have KMV := Lib.hid kmv
    have KSTEP := Lib.hid kstep
    have KREC := Lib.hid krec
    have HPR := Lib.hid hprod
    have HSUM := Lib.hid hsum
    have HFIN := Lib.hid hrun.symm
    obtain ⟨ball, need, str, par, wait⟩ := s
    unfold osV at KE KV KMV KSTEP KREC ⊢
    dsimp only at e0 KE KV KMV KSTEP KREC
    clear kend kvac kmv kstep krec hprod hsum hrun hd hok hoe hle h0 h1 hz hbd hp16 hlook henv hown hkn hs hch hFF hQ hsol ht hend hv
    go_enter Tryz.func70, Tryz.ntmps70
    go_wp2_with (first
      | (clear tok0; go_at_call 61; refine (KE.out _ HSOL.out.chb).mono ?_; rintro e w2 ⟨rfl, hb2⟩; have HS2 := Lib.hid (HSOL.out.below hb2); obtain ⟨y0, y1, y2, y3, y4, y5, y6, t0, t1, t2, t3, t4⟩ := HS2.out.cells; dsimp only at t0 t1 t2 t3 t4; clear hb2; have tok1 : True := trivial)
      | (clear tok1; go_at_call 60; refine (KV.out _).mono ?_; rintro e w3 ⟨rfl, hb2⟩; have HS3 := Lib.hid (HS2.out.below hb2); clear y0 y1 y2 y3 y4 y5 y6 t0 t1 t2 t3 t4; obtain ⟨y0, y1, y2, y3, y4, y5, y6, t0, t1, t2, t3, t4⟩ := HS3.out.cells; dsimp only at t0 t1 t2 t3 t4; clear hb2; have tok2 : True := trivial)
      | (clear tok2; go_at_call 105; refine (KMV.out _ HS3.out.chb).mono ?_; rintro e w4 ⟨A4, n4, k4, rfl, hb3, hs3⟩; obtain ⟨Az, kz, hze, hz1, hz2⟩ := hs3.shape; have hn4 : n4 = l.length := (by injection hze); subst hn4; have HS4 := Lib.hid (HS3.out.below hb3); have HL4 := Lib.hid (hs3.keep (G := fun x => x < w4.heap.size ∧ x ≠ b) elOtc_good (Same.refl _ _) fun x hx => ⟨hx.2, by have := HS3.out.blt; have := HS3.out.only.size; omega⟩); clear y0 y1 y2 y3 y4 y5 y6 t0 t1 t2 t3 t4; obtain ⟨y0, y1, y2, y3, y4, y5, y6, t0, t1, t2, t3, t4⟩ := HS4.out.cells; dsimp only at t0 t1 t2 t3 t4; clear hb3 hs3 hze hz1 hz2; have tok3 : True := trivial))
    go_loopw [8, 61] (fun v i wr => ∃ (k : Nat) (sm : Int), k ≤ l.length ∧ i = .int .i64 k ∧ v = .int .i64 sm ∧ 0 ≤ sm ∧ sm ≤ 281474976710656 * k ∧ Hid (SolV w wr F b g0 g2 (N + k * K) D c (.slice A c.mdl.bats.length ca) (.slice A1 c.mdl.bows.length ca1) (.slice A2 c.bows.length ca2) (.slice A3 c.ord.length ca3) ⟨ball, need, str, par, wait⟩) ∧ Hid (Sl 3 elOtc wr (fun x => x < wr.heap.size ∧ x ≠ b) (.slice A4 l.length k4) l) ∧ Hid (sm = sumI ((l.take k).map fun o => o.wt * vO c (stepO c ⟨ball, need, str, par, wait⟩ o)))) (fun _ i _ => l.length - (intOf i).toNat)
    case atStart => exact ⟨0, 0, Nat.zero_le _, rfl, rfl, by omega, by omega, Lib.hid (by rw [Nat.zero_mul]; exact HS4.out), HL4, Lib.hid rfl⟩
    case round =>
      clear HS2 HS3 HS4 HL4 y0 y1 y2 y3 y4 y5 y6 t0 t1 t2 t3 t4
      obtain ⟨k, sm, hk, rfl, rfl, hs0, hs1, HS, HL, hss⟩ := hrel
      by_cases hlt : k < l.length
      · obtain ⟨b0, o, rfl, hbl, j0, j1, j2⟩ := otc_at HL.out hlt
        have hp := HPR.out k hlt
        have hst := HSUM.out k hlt sm hss.out
        have kS := KSTEP.out k hlt
        have kR := KREC.out k hlt
        obtain ⟨s', hs'⟩ : ∃ x, x = stepO c ⟨ball, need, str, par, wait⟩ l[k] := ⟨_, rfl⟩
        rw [← hs'] at hp hst
        simp only [← hs'] at kS kR
        obtain ⟨vv, hvv⟩ : ∃ x, x = vO c s' := ⟨_, rfl⟩
        rw [← hvv] at hp hst
        simp only [← hvv] at kR
        obtain ⟨⟨pr, pw, pt⟩, hp'⟩ : ∃ p, p = l[k] := ⟨_, rfl⟩
        rw [← hp'] at j0 j1 j2 hp hst
        simp only [← hp'] at kS
        dsimp only at j0 j1 j2 hp hst kS
        obtain ⟨hp0, hp1⟩ := hp
        have hkq : k * K + K ≤ Q := by have := Nat.mul_le_mul_right K (show k + 1 ≤ 16 by omega); rw [Nat.add_mul, Nat.one_mul] at this; omega
        have HST := Lib.hid hst
        have KS := Lib.hid kS
        have KR := Lib.hid kR
        have HKQ := Lib.hid hkq
        clear hst kS kR hs' hvv hp' hss hkq
        have HSA := Lib.hid (HS.out.alloc (.cells #[.int .i64 pr, .bool pw, .int .i64 pt] 46))
        have HLA := Lib.hid (sl_only HL.out (Only.of_below (g := b) (Below.alloc (Below.refl wr.heap.size wr) (Nat.le_refl _) (.cells #[.int .i64 pr, .bool pw, .int .i64 pt] 46))))
        have HCA := Lib.hid (Blk.new wr 46 #[.int .i64 pr, .bool pw, .int .i64 pt])
        obtain ⟨y0, y1, y2, y3, y4, y5, y6, t0, t1, t2, t3, t4⟩ := HS.out.cells; dsimp only at t0 t1 t2 t3 t4
        have hl1 := HS.out.box.lt
        have hl2 := HS.out.st.lt
        have hwb : b < wr.heap.size := by have := HS.out.blt; have := HS.out.only.size; omega
        have tok5 : True := trivial
        go_wp2_with (first
          | (clear tok5; go_at_call 106; refine (KS.out _).mono ?_; rintro e w5 ⟨rfl, hb5⟩; have HS5 := Lib.hid (HSA.out.below hb5); have HL5 := Lib.hid (sl_only HLA.out (Only.of_below hb5)); have HC5 := Lib.hid (HCA.out.below hb5 HCA.out.lt); clear y0 y1 y2 y3 y4 y5 y6 t0 t1 t2 t3 t4; obtain ⟨y0, y1, y2, y3, y4, y5, y6, t0, t1, t2, t3, t4⟩ := HS5.out.cells; dsimp only at t0 t1 t2 t3 t4; have u0 := HC5.out.cell 0; have u1 := HC5.out.cell 1; have u2 := HC5.out.cell 2; clear hb5 hl1 hl2; have tok6 : True := trivial)
          | (clear tok6; go_at_call 97; obtain ⟨D5, hv5, hk5, hg5⟩ := HS5.out.vals; refine (KR.out _ D5 _ HS5.out.env hv5 hk5 (by have := HKQ.out; omega)).mono ?_; rintro e w6 ⟨rfl, ho6, hv6⟩; have HS6 := Lib.hid (show SolV w w6 F b g0 g2 (N + (k + 1) * K) D c (.slice A c.mdl.bats.length ca) (.slice A1 c.mdl.bows.length ca1) (.slice A2 c.bows.length ca2) (.slice A3 c.ord.length ca3) ⟨ball, need, str, par, wait⟩ from HS5.out.into ho6 (by obtain ⟨D7, h1, h2, h3⟩ := hv6; exact ⟨D7, h1.mono (by rw [Nat.add_mul]; omega), h2, hg5.trans h3⟩)); have HL6 := Lib.hid (sl_only HL5.out ho6); have HC6 := Lib.hid (HC5.out.grown ho6 (by intro e; injection e with e; omega)); clear y0 y1 y2 y3 y4 y5 y6 t0 t1 t2 t3 t4; clear u0 u1 u2; obtain ⟨y0, y1, y2, y3, y4, y5, y6, t0, t1, t2, t3, t4⟩ := HS6.out.cells; dsimp only at t0 t1 t2 t3 t4; have u0 := HC6.out.cell 0; have u1 := HC6.out.cell 1; have u2 := HC6.out.cell 2; clear ho6 hv6 hv5 hk5 hg5; have tok7 : True := trivial))
        go_roundw
        case rel => exact ⟨k + 1, sm + pt * vv, by omega, by go_num, by first | rfl | rw [IntWalk.i64_in (pt * vv) (by omega), IntWalk.i64_in (sm + pt * vv) (by omega)], by omega, by push_cast; omega, HS6, HL6, HST⟩
        case measure => simp [intOf]; omega
      · obtain rfl : k = l.length := by omega
        have hs2 := hss.out
        rw [List.take_of_length_le (Nat.le_refl _), HFIN.out] at hs2
        subst hs2
        have hlq : l.length * K ≤ 16 * K := Nat.mul_le_mul_right K hlen
        clear hss
        go_wp2
        go_ret2
        exact ⟨rfl, HS.out.only, by obtain ⟨D2, h1, h2, h3⟩ := HS.out.vals; exact ⟨D2, h1.mono (by omega), h2, h3⟩⟩
  · -- somebody has to be sent
    rw [hv] at kvac
    have KV := Lib.hid kvac
    have hvc := vO_vac ht hs h0 h1 hv
    rw [← hz] at hvc
    have h16 := hs.w16
    have ksend := fun (i : Nat) (hi : i < c.ord.length) W => or_send s (i : Int) W h16 ⟨by omega, by omega⟩
    have krec := fun (i : Nat) (hi : i < c.ord.length) (hb : bitW s.wait i = true) N' D' W => hlook (sendO s i) (rank_send ht hs hv (i := i) ⟨by omega, by omega⟩ hb).1 (by have := (rank_send ht hs hv (i := i) ⟨by omega, by omega⟩ hb).2; omega) N' D' W
    have hvb : ∀ (i : Nat) (hi : i < c.ord.length) (hb : bitW s.wait i = true), 0 ≤ vO c (sendO s i) ∧ vO c (sendO s i) ≤ 281474976710656 := fun i hi hb => by
      obtain ⟨k1, _⟩ := sendO_ok ht hs hv (i := i) ⟨by omega, by omega⟩ hb
      have h5 := vO_bd ht _ _ k1 rfl
      have h6 := pow16_le (leftO_le ht k1)
      omega
    have hat := fun (i : Nat) (hb : bitW s.wait i = true) => bestF_at (f := fun i => vO c (sendO s i)) hb
    have hnt := fun (i : Nat) (hb : bitW s.wait i = false) => bestF_not (f := fun i => vO c (sendO s i)) hb
    have hK : 6 * K ≤ Q := by
      have hpar : rankO c s % 2 = 1 := by unfold rankO; rw [hv]; simp
      rw [hQ, if_pos hpar]; exact Nat.le_refl _
    obtain ⟨n, hn⟩ : ∃ n, n = c.ord.length := ⟨_, rfl⟩
    have HAT := Lib.hid hat
    have HNT := Lib.hid hnt
    have HVB := Lib.hid hvb
    have KSEND := Lib.hid ksend
    have KREC := Lib.hid krec
    have HFIN := Lib.hid hvc.symm
    obtain ⟨ball, need, str, par, wait⟩ := s
    unfold osV at KE KV KSEND KREC ⊢
    dsimp only at e0 KE KV KSEND KREC HAT HNT HVB h16
    obtain ⟨h16a, h16b⟩ := h16
    clear kend kvac ksend krec hat hnt hvb hvc h0 h1 hz hbd hp16 hlook henv hown hkn hs hch hFF hQ hsol ht hend hv
    go_enter Tryz.func70, Tryz.ntmps70
    go_wp2_with (first
      | (clear tok0; go_at_call 61; refine (KE.out _ HSOL.out.chb).mono ?_; rintro e w2 ⟨rfl, hb2⟩; have HS2 := Lib.hid (HSOL.out.below hb2); obtain ⟨y0, y1, y2, y3, y4, y5, y6, t0, t1, t2, t3, t4⟩ := HS2.out.cells; dsimp only at t0 t1 t2 t3 t4; clear hb2; have tok1 : True := trivial)
      | (clear tok1; go_at_call 60; refine (KV.out _).mono ?_; rintro e w3 ⟨rfl, hb2⟩; have HS3 := Lib.hid (HS2.out.below hb2); clear y0 y1 y2 y3 y4 y5 y6 t0 t1 t2 t3 t4; obtain ⟨y0, y1, y2, y3, y4, y5, y6, t0, t1, t2, t3, t4⟩ := HS3.out.cells; dsimp only at t0 t1 t2 t3 t4; clear hb2; have tok2 : True := trivial))
    go_loopw [8, 33] (fun v i wr => ∃ (k : Nat) (sm : Int), k ≤ c.ord.length ∧ i = .int .i64 k ∧ v = .int .i64 sm ∧ 0 ≤ sm ∧ sm ≤ 281474976710656 ∧ Hid (SolV w wr F b g0 g2 (N + k * K) D c (.slice A c.mdl.bats.length ca) (.slice A1 c.mdl.bows.length ca1) (.slice A2 c.bows.length ca2) (.slice A3 c.ord.length ca3) ⟨ball, need, str, par, wait⟩) ∧ Hid (sm = bestF (fun i => vO c (sendO ⟨ball, need, str, par, wait⟩ i)) wait k)) (fun _ i _ => c.ord.length - (intOf i).toNat)
    case atStart => exact ⟨0, 0, Nat.zero_le _, rfl, rfl, by omega, by omega, Lib.hid (by rw [Nat.zero_mul]; exact HS3.out), Lib.hid rfl⟩
    case round =>
      clear HS2 HS3 y0 y1 y2 y3 y4 y5 y6 t0 t1 t2 t3 t4
      obtain ⟨k, sm, hk, rfl, rfl, hs0, hs1, HS, hss⟩ := hrel
      obtain ⟨y0, y1, y2, y3, y4, y5, y6, t0, t1, t2, t3, t4⟩ := HS.out.cells; dsimp only at t0 t1 t2 t3 t4
      by_cases hlt : k < c.ord.length
      · have hk0 : (0 : Int) ≤ (k : Int) := by omega
        have hk16 : (k : Int) < 16 := by omega
        cases hbit : bitW wait k
        · have hst := HNT.out k hbit
          rw [← hss.out] at hst
          have HST := Lib.hid hst.symm
          have f1 : (bits .and .u16 (wait / 2 ^ k) 1 == 1) = false := hbit
          clear hst hss hbit
          go_wp2
          go_roundw
          case rel => exact ⟨k + 1, sm, by omega, by go_num, rfl, by omega, by omega, Lib.hid (HS.out.into (Only.refl _ _) (by obtain ⟨D7, h1, h2, h3⟩ := HS.out.vals; exact ⟨D7, h1.mono (by rw [Nat.add_mul]; omega), h2, h3⟩)), HST⟩
          case measure => simp [intOf]; omega
        · have hst := HAT.out k hbit
          rw [← hss.out] at hst
          have kS := KSEND.out k hlt
          have kR := KREC.out k hlt hbit
          have hp := HVB.out k hlt hbit
          obtain ⟨s', hs'⟩ : ∃ x, x = sendO ⟨ball, need, str, par, wait⟩ k := ⟨_, rfl⟩
          rw [← hs'] at hp hst
          simp only [← hs'] at kS kR
          obtain ⟨vv, hvv⟩ : ∃ x, x = vO c s' := ⟨_, rfl⟩
          rw [← hvv] at hp hst
          simp only [← hvv] at kR
          obtain ⟨hp0, hp1⟩ := hp
          have hkq : k * K + K ≤ Q := by have := Nat.mul_le_mul_right K (show k + 1 ≤ 6 by omega); rw [Nat.add_mul, Nat.one_mul] at this; omega
          have HST := Lib.hid hst.symm
          have KS := Lib.hid kS
          have KR := Lib.hid kR
          have HKQ := Lib.hid hkq
          have f1 : (bits .and .u16 (wait / 2 ^ k) 1 == 1) = true := hbit
          have hwb : b < wr.heap.size := by have := HS.out.blt; have := HS.out.only.size; omega
          clear hst kS kR hs' hvv hss hkq hbit
          have tok5 : True := trivial
          go_wp2_with (first
            | (clear tok5; go_at_call 62; refine (KS.out _).mono ?_; rintro e w5 ⟨rfl, hb5⟩; have HS5 := Lib.hid (HS.out.below hb5); clear y0 y1 y2 y3 y4 y5 y6 t0 t1 t2 t3 t4; obtain ⟨y0, y1, y2, y3, y4, y5, y6, t0, t1, t2, t3, t4⟩ := HS5.out.cells; dsimp only at t0 t1 t2 t3 t4; clear hb5; have tok6 : True := trivial)
            | (clear tok6; go_at_call 97; obtain ⟨D5, hv5, hk5, hg5⟩ := HS5.out.vals; refine (KR.out _ D5 _ HS5.out.env hv5 hk5 (by have := HKQ.out; omega)).mono ?_; rintro e w6 ⟨rfl, ho6, hv6⟩; have HS6 := Lib.hid (show SolV w w6 F b g0 g2 (N + (k + 1) * K) D c (.slice A c.mdl.bats.length ca) (.slice A1 c.mdl.bows.length ca1) (.slice A2 c.bows.length ca2) (.slice A3 c.ord.length ca3) ⟨ball, need, str, par, wait⟩ from HS5.out.into ho6 (by obtain ⟨D7, h1, h2, h3⟩ := hv6; exact ⟨D7, h1.mono (by rw [Nat.add_mul]; omega), h2, hg5.trans h3⟩)); clear y0 y1 y2 y3 y4 y5 y6 t0 t1 t2 t3 t4; obtain ⟨y0, y1, y2, y3, y4, y5, y6, t0, t1, t2, t3, t4⟩ := HS6.out.cells; dsimp only at t0 t1 t2 t3 t4; clear ho6 hv6 hv5 hk5 hg5; have tok7 : True := trivial))
          go_roundw
          case rel => exact ⟨k + 1, max sm vv, by omega, by go_num, by first | rfl | (rw [Int.max_comm]), by omega, by omega, HS6, HST⟩
          case measure => simp [intOf]; omega
      · obtain rfl : k = c.ord.length := by omega
        have hs2 := hss.out
        rw [HFIN.out] at hs2
        subst hs2
        have hlq : c.ord.length * K ≤ 6 * K := Nat.mul_le_mul_right K (by omega)
        clear hss
        go_wp2
        go_ret2
        exact ⟨rfl, HS.out.only, by obtain ⟨D2, h1, h2, h3⟩ := HS.out.vals; exact ⟨D2, h1.mono (by omega), h2, h3⟩⟩
end Go.Proofs.YtfnfbojaiikigaaGreatDoor

namespace Go.Proofs.YtfnfbojaiikigaaGreatDoor
open Go.RowKit Go.Maps

set_option maxRecDepth 100000 in
set_option maxHeartbeats 4000000 in
theorem or_look (c : Chs) (m K : Nat) (ih : ∀ k, k < m → SolveO 58 c k) (hK : ∀ k, k < m → cntR k ≤ K) (F : Nat → Prop) (b g0 g2 : Nat) (bv wv pv ov : Value) : LookO 97 F b g0 g2 K m c bv wv pv ov := by
  intro x hx hr N D W henv hown hkn hN
  have hch := henv.ch
  obtain ⟨A, ca, rfl, hc1, hc2⟩ := hch.mdl.bat.shape
  obtain ⟨A1, ca1, rfl, hc3, hc4⟩ := hch.mdl.bow.shape
  obtain ⟨A2, ca2, rfl, hc5, hc6⟩ := hch.bow.shape
  obtain ⟨A3, ca3, rfl, hc7, hc8⟩ := hch.ord.shape
  have hb1 : Below W.heap.size W (W.alloc (.cells #[.int .i64 x.ball, .int .i64 x.need, .int .i64 x.str, .int .i64 x.par, .int .u16 x.wait] 53)) := Below.alloc (Below.refl _ _) (Nat.le_refl _) _
  have he1 := henv.only (Only.of_below (g := b) hb1)
  have hKx := hK _ hr
  have kS := (ih (rankO c x) hr x rfl hx _ _ _ _ F b N D _ he1.ch he1.hF (ovals_below hown hb1) hkn (by omega)).mono fun e w2 ⟨h1, h2, D', h3, h4, h5, h6⟩ => (⟨h1, (Only.of_below hb1).trans h2, D', h3.mono (show N + cntR (rankO c x) ≤ N + K by omega), h4, h5⟩ : e = Ending.returned (.int .i64 (vO c x)) ∧ Only b W w2 ∧ ∃ D', ValsO w2 b (N + K) D' ∧ KnownO c D' ∧ GrewO D D')
  unfold chV osV at kS
  unfold osV
  have hl0 := henv.t0.lt
  have hl2 := henv.m2.lt
  have y0 : W.cell? ⟨g0, 0, none⟩ = some (.slice A c.mdl.bats.length ca) := henv.t0.cell 0
  have y1 : W.cell? ⟨g0, 1, none⟩ = some (.slice A1 c.mdl.bows.length ca1) := henv.t0.cell 1
  have y2 : W.cell? ⟨g0, 2, none⟩ = some (.slice A2 c.bows.length ca2) := henv.t0.cell 2
  have y3 : W.cell? ⟨g0, 3, none⟩ = some (.int .i64 c.over) := henv.t0.cell 3
  have y4 : W.cell? ⟨g0, 4, none⟩ = some (.int .i64 c.done) := henv.t0.cell 4
  have y5 : W.cell? ⟨g0, 5, none⟩ = some (.int .i64 c.need) := henv.t0.cell 5
  have y6 : W.cell? ⟨g0, 6, none⟩ = some (.slice A3 c.ord.length ca3) := henv.t0.cell 6
  have y7 : W.cell? ⟨g2, 0, none⟩ = some (.map (some b)) := henv.m2.cell 0
  obtain ⟨v, hv⟩ : ∃ v, v = vO c x := ⟨_, rfl⟩
  rw [← hv] at kS ⊢
  obtain ⟨x0, x1, x2, x3, x4⟩ := x
  dsimp only at kS ⊢
  have KS := Lib.hid kS
  clear kS hv hb1 he1 hKx hch henv hown hkn hN hr hx ih hK
  go_enter Tryz.func97, Tryz.ntmps97
  go_wp2_with (go_at_call 58; refine KS.out.mono ?_; rintro e w2 ⟨rfl, h2, h3⟩; have H2 := Lib.hid h2; have H3 := Lib.hid h3; clear h2 h3)
  go_ret2
  exact ⟨rfl, H2.out, H3.out⟩
/-- A task, a state and a map's variable boxed in solve's frame, the map beside them. -/
structure SolW (w W : World) (F : Nat → Prop) (b N : Nat) (D0 : DataW Unit) (c : Chs) (bv wv pv ov : Value) (s : Ost) : Prop where
  only : Only b w W
  st : Blk W (w.heap.size + 1) 53 #[.int .i64 s.ball, .int .i64 s.need, .int .i64 s.str, .int .i64 s.par, .int .u16 s.wait]
  blt : b < w.heap.size
  env : EnvO W F b w.heap.size (w.heap.size + 1 + 1) c bv wv pv ov
  vals : ∃ D, ValsO W b N D ∧ KnownO c D ∧ GrewO D0 D
section
variable {w W W' : World} {F : Nat → Prop} {b N N' : Nat} {D0 : DataW Unit} {c : Chs} {bv wv pv ov : Value} {s : Ost}
theorem SolW.into (h : SolW w W F b N D0 c bv wv pv ov s) (ho : Only b W W') (hv : ∃ D, ValsO W' b N' D ∧ KnownO c D ∧ GrewO D0 D) : SolW w W' F b N' D0 c bv wv pv ov s :=
  ⟨h.only.trans ho, h.st.grown ho (by intro e; injection e with e; have := h.blt; omega), h.blt, h.env.only ho, hv⟩
theorem SolW.cells (h : SolW w W F b N D0 c bv wv pv ov s) : W.cell? ⟨w.heap.size, 0, none⟩ = some bv ∧ W.cell? ⟨w.heap.size, 1, none⟩ = some wv ∧ W.cell? ⟨w.heap.size, 2, none⟩ = some pv ∧ W.cell? ⟨w.heap.size, 3, none⟩ = some (.int .i64 c.over) ∧ W.cell? ⟨w.heap.size, 4, none⟩ = some (.int .i64 c.done) ∧ W.cell? ⟨w.heap.size, 5, none⟩ = some (.int .i64 c.need) ∧ W.cell? ⟨w.heap.size, 6, none⟩ = some ov ∧
    W.cell? ⟨w.heap.size + 1, 0, none⟩ = some (.int .i64 s.ball) ∧ W.cell? ⟨w.heap.size + 1, 1, none⟩ = some (.int .i64 s.need) ∧ W.cell? ⟨w.heap.size + 1, 2, none⟩ = some (.int .i64 s.str) ∧ W.cell? ⟨w.heap.size + 1, 3, none⟩ = some (.int .i64 s.par) ∧ W.cell? ⟨w.heap.size + 1, 4, none⟩ = some (.int .u16 s.wait) ∧ W.cell? ⟨w.heap.size + 1 + 1, 0, none⟩ = some (.map (some b)) :=
  ⟨h.env.t0.cell 0, h.env.t0.cell 1, h.env.t0.cell 2, h.env.t0.cell 3, h.env.t0.cell 4, h.env.t0.cell 5, h.env.t0.cell 6, h.st.cell 0, h.st.cell 1, h.st.cell 2, h.st.cell 3, h.st.cell 4, h.env.m2.cell 0⟩
theorem SolW.new {D : DataW Unit} (hch : ChAt w F bv wv pv ov c) (hF : ∀ x, F x → x < w.heap.size ∧ x ≠ b) (h1 : ValsO w b N D) (h2 : KnownO c D) : SolW w (((w.alloc (.cells #[bv, wv, pv, .int .i64 c.over, .int .i64 c.done, .int .i64 c.need, ov] 50)).alloc (.cells #[.int .i64 s.ball, .int .i64 s.need, .int .i64 s.str, .int .i64 s.par, .int .u16 s.wait] 53)).alloc (.cells #[.map (some b)] 93)) F b N D c bv wv pv ov s ∧ ValsO (((w.alloc (.cells #[bv, wv, pv, .int .i64 c.over, .int .i64 c.done, .int .i64 c.need, ov] 50)).alloc (.cells #[.int .i64 s.ball, .int .i64 s.need, .int .i64 s.str, .int .i64 s.par, .int .u16 s.wait] 53)).alloc (.cells #[.map (some b)] 93)) b N D := by
  have hx := OSB.new w c bv wv pv ov s
  have hb := hx.bel.alloc hx.bel.size (.cells #[.map (some b)] 93)
  have hm := Blk.new ((w.alloc (.cells #[bv, wv, pv, .int .i64 c.over, .int .i64 c.done, .int .i64 c.need, ov] 50)).alloc (.cells #[.int .i64 s.ball, .int .i64 s.need, .int .i64 s.str, .int .i64 s.par, .int .u16 s.wait] 53)) 93 #[.map (some b)]
  rw [World.size_alloc, World.size_alloc] at hm
  have ho := Only.of_below (g := b) hb
  have hlt := h1.lt
  have hv := ovals_below h1 hb
  exact ⟨⟨ho, hx.st.alloc _, hlt, ⟨hch.keep (ho.same hF) fun _ h => h, fun x hx => ⟨Nat.lt_of_lt_of_le (hF x hx).1 ho.size, (hF x hx).2⟩, hx.box.alloc _, hm, by omega, by omega⟩, D, hv, h2, GrewO.refl _⟩, hv⟩
end
theorem cnt_fit {m K N : Nat} (h : (m = 0 ∧ K = 0) ∨ (∃ k, m = k + 1 ∧ K = cntR k)) : (if m % 2 = 1 then 6 else 16) * K + 1 ≤ cntR m := by
  rcases h with ⟨rfl, rfl⟩ | ⟨k, rfl, rfl⟩
  · exact Nat.le_refl _
  · rw [cntR]
    by_cases h : k % 2 = 0
    · rw [if_pos h, if_pos (by omega)]; omega
    · rw [if_neg h, if_neg (by omega)]; omega
set_option maxRecDepth 100000 in
set_option maxHeartbeats 4000000 in
theorem or_solve_at (c : Chs) (ht : OkT c) (m : Nat) (ih : ∀ k, k < m → SolveO 58 c k) : SolveO 58 c m := by
  intro s hm hs bv wv pv ov F b N D w h hF hown hkn hN
  have hkey := okey_of (hs.smol ht)
  obtain ⟨z, hz⟩ : ∃ z, z = vO c s := ⟨_, rfl⟩
  have hbd := vO_bd ht _ s hs rfl
  have hp16 := pow16_le (leftO_le ht hs)
  have hz0 : 0 ≤ z ∧ z ≤ 281474976710656 := by rw [hz]; omega
  have hit : Maps.has D (keyOs s) = true → D.atKey (keyOs s) (.lit (.int .i64 0)) = .lit (.int .i64 z) := fun hh => by rw [hz]; exact hkn s hs hh
  have hput : ∀ (D2 : DataW Unit), KnownO c D2 → IsMap D2 → GrewO D D2 → KnownO c (D2.put (keyOs s) (.lit (.int .i64 z))) ∧ GrewO D (D2.put (keyOs s) (.lit (.int .i64 z))) ∧ Maps.has (D2.put (keyOs s) (.lit (.int .i64 z))) (keyOs s) = true := fun D2 h1 h2 h3 => ⟨by rw [hz]; exact h1.put h2 ht hs, h3.trans (GrewO.put h2 s _), has_put_same h2 (okey_lit s) _⟩
  obtain ⟨K, hK1, hK2⟩ : ∃ K, ((m = 0 ∧ K = 0) ∨ (∃ k, m = k + 1 ∧ K = cntR k)) ∧ ∀ k, k < m → cntR k ≤ K := by
    cases m with
    | zero => exact ⟨0, .inl ⟨rfl, rfl⟩, fun k hk => by omega⟩
    | succ k => exact ⟨cntR k, .inr ⟨k, rfl, rfl⟩, fun j hj => cntR_mono (by omega)⟩
  have hfit := cnt_fit (N := N) hK1
  obtain ⟨A, ca, rfl, hc1, hc2⟩ := h.mdl.bat.shape
  obtain ⟨A1, ca1, rfl, hc3, hc4⟩ := h.mdl.bow.shape
  obtain ⟨A2, ca2, rfl, hc5, hc6⟩ := h.bow.shape
  obtain ⟨A3, ca3, rfl, hc7, hc8⟩ := h.ord.shape
  obtain ⟨hsw, hv0⟩ := SolW.new (s := s) h hF hown hkn
  have hval := fun W (he : EnvO W F b w.heap.size (w.heap.size + 1 + 1) c (.slice A c.mdl.bats.length ca) (.slice A1 c.mdl.bows.length ca1) (.slice A2 c.bows.length ca2) (.slice A3 c.ord.length ca3)) D2 (h1 : ValsO W b N D2) (h2 : KnownO c D2) => or_value c ht s hs F b w.heap.size (w.heap.size + 1 + 1) K N D2 _ _ _ _ W (by rw [hm]; exact or_look c m K ih hK2 F b _ _ _ _ _ _) he h1 h2 (by rw [hm]; omega)
  rw [hm, ← hz] at hval
  obtain ⟨Q, hQ⟩ : ∃ q, q = (if m % 2 = 1 then 6 else 16) * K := ⟨_, rfl⟩
  rw [← hQ] at hfit hval
  obtain ⟨CC, hCC⟩ : ∃ q, q = cntR m := ⟨_, rfl⟩
  rw [← hCC] at hfit hN ⊢
  obtain ⟨NN, hNN⟩ : ∃ q, q = N + Q := ⟨_, rfl⟩
  rw [← hNN] at hval
  have hN9 : NN + 1 ≤ N + CC := by omega
  have hN8 : NN < 2000000000000000000 := by omega
  have hN7 : N ≤ N + CC := by omega
  rw [← hz]
  unfold chV at hval ⊢
  have HW := Lib.hid hsw
  have HV0 := Lib.hid hv0
  have HPUT := Lib.hid hput
  have HKN := Lib.hid hkn
  cases hh : Maps.has D (keyOs s)
  case true =>
    have HIT := Lib.hid (hit hh)
    have HH := Lib.hid hh
    obtain ⟨ball, need, str, par, wait⟩ := s
    unfold osV at hkey ⊢
    dsimp only at hkey ⊢
    have HKEY := Lib.hid hkey
    clear hkey hit hput hkn hval ih hz hbd hp16 hs hm hK1 hK2 hfit hQ hCC hNN hsw hv0 hown h hF ht hN hN8 hN9
    go_enter Tryz.func58, Tryz.ntmps58
    go_wp2_with (at_lookup; refine wpList_lookup_own_ok_int _ rfl _ _ 93 rfl 53 2 .i64 law45 Tryz.underlying93 Tryz.underlying2 (zero_i64 _) b N D rfl HV0.out _ _ rfl HKEY.out ?_; intro cc hat hwc; have HC := Lib.hid (show cc = z from by have := hat.symm.trans HIT.out; injection this with this; injection this); clear hat hwc)
    go_ret
    exact ⟨ret_i HC.out, HW.out.only, D, HV0.out.mono hN7, HKN.out, GrewO.refl _, HH.out⟩
  case false =>
    obtain ⟨ball, need, str, par, wait⟩ := s
    unfold osV at hkey hval ⊢
    dsimp only at hkey hval ⊢
    have HKEY := Lib.hid hkey
    have HVAL := Lib.hid hval
    obtain ⟨y0, y1, y2, y3, y4, y5, y6, t0, t1, t2, t3, t4, t5⟩ := HW.out.cells
    dsimp only at t0 t1 t2 t3 t4
    have tok0 : True := trivial
    clear hkey hit hput hkn hval ih hz hbd hp16 hs hm hK1 hK2 hfit hQ hCC hNN hsw hv0 hown h hF ht hN hN7 y0 y1 y2 y3 y4 y5 y6 t0 t1 t2 t3 t4 t5
    go_enter Tryz.func58, Tryz.ntmps58
    go_wp2_with (first
      | (at_lookup; refine wpList_lookup_own_ok_int _ rfl _ _ 93 rfl 53 2 .i64 law45 Tryz.underlying93 Tryz.underlying2 (zero_i64 _) b N D rfl HV0.out _ _ rfl HKEY.out ?_; intro cc hat hwc; clear hat hwc)
      | (clear tok0; go_at_call 70; refine (HVAL.out _ HW.out.env D HV0.out HKN.out).mono ?_; rintro e w2 ⟨rfl, ho2, hv2⟩; have HW2 := Lib.hid (show SolW w w2 F b NN D c (.slice A c.mdl.bats.length ca) (.slice A1 c.mdl.bows.length ca1) (.slice A2 c.bows.length ca2) (.slice A3 c.ord.length ca3) ⟨ball, need, str, par, wait⟩ from HW.out.into ho2 hv2); obtain ⟨y0, y1, y2, y3, y4, y5, y6, t0, t1, t2, t3, t4, t5⟩ := HW2.out.cells; dsimp only at t0 t1 t2 t3 t4; obtain ⟨D2, hv9, hk9, hg9⟩ := HW2.out.vals; have HV9 := Lib.hid hv9; have HK9 := Lib.hid hk9; have HG8 := Lib.hid hg9; clear ho2 hv2 hv9 hk9 hg9; have tok1 : True := trivial)
      | (at_mapUpdate; refine wpList_mapUpdate_own _ rfl _ _ _ 93 rfl 53 2 law45 Tryz.underlying93 _ b NN D2 rfl HV9.out (by unfold maxLen; omega) _ _ _ rfl rfl HKEY.out _ [] (plainElem_int Tryz.underlying2 (WalkArith.wf_i64 (by omega))) ?_; intro w9 hown9 hgrow9; have HG9 := Lib.hid hgrow9; have HO9 := Lib.hid hown9; clear hgrow9 hown9))
    go_ret
    exact ⟨rfl, HW2.out.only.trans HG9.out, _, HO9.out.mono hN9, HPUT.out _ HK9.out HV9.out.isMap HG8.out⟩
theorem or_solve (c : Chs) (ht : OkT c) (m : Nat) : SolveO 58 c m :=
  Nat.strongRecOn m fun m ih => or_solve_at c ht m ih
end Go.Proofs.YtfnfbojaiikigaaGreatDoor

namespace Go.Proofs.YtfnfbojaiikigaaGreatDoor
open Go.RowKit Go.Maps

def elOst (_ : World) (_ : Nat → Prop) (cs : List Value) (s : Ost) : Prop := cs = [.int .i64 s.ball, .int .i64 s.need, .int .i64 s.str, .int .i64 s.par, .int .u16 s.wait]
theorem elOst_good : Good elOst := ⟨fun h _ _ => h⟩
theorem E_ost : ElemOf Tryz.prog 105 53 5 40 := ElemOf.mk (z := .agg #[.int .i64 0, .int .i64 0, .int .i64 0, .int .i64 0, .int .u16 0]) Tryz.underlying105 (by kernel_rfl) rfl (by decide)
theorem E_i64o : ElemOf Tryz.prog 127 2 1 8 := ElemOf.mk (z := .int .i64 0) Tryz.underlying127 (by kernel_rfl) rfl (by decide)
theorem ost_at {w : World} {F : Nat → Prop} {A : Option Addr} {n c : Nat} {l : List Ost} (h : Sl 5 elOst w F (.slice A n c) l) {k : Nat} (hk : k < l.length) :
    ∃ b o, A = some ⟨b, o, none⟩ ∧ F b ∧ w.cell? ⟨b, o + k * 5, none⟩ = some (.int .i64 l[k].ball) ∧ w.cell? ⟨b, o + k * 5 + 1, none⟩ = some (.int .i64 l[k].need) ∧ w.cell? ⟨b, o + k * 5 + 2, none⟩ = some (.int .i64 l[k].str) ∧ w.cell? ⟨b, o + k * 5 + 3, none⟩ = some (.int .i64 l[k].par) ∧ w.cell? ⟨b, o + k * 5 + 4, none⟩ = some (.int .u16 l[k].wait) := by
  obtain ⟨b, o, cs, h1, h2, h3, h4, h5⟩ := h.at hk
  have h5 : cs = _ := h5
  subst h5
  exact ⟨b, o, h1, h2, h4 0 _ rfl, h4 1 _ rfl, h4 2 _ rfl, h4 3 _ rfl, h4 4 _ rfl⟩
/-- The states that follow where somebody has to be sent. -/
def sendsL (s : Ost) : Nat → List Ost
  | 0 => []
  | k + 1 => if bitW s.wait k = true then sendsL s k ++ [sendO s k] else sendsL s k
theorem sendsL_len (s : Ost) : ∀ k, (sendsL s k).length ≤ k
  | 0 => Nat.le_refl _
  | k + 1 => by
    have := sendsL_len s k
    rw [sendsL]; split
    · simp; omega
    · omega
theorem sendsL_mem {s x : Ost} : ∀ {k : Nat}, x ∈ sendsL s k → ∃ i : Nat, i < k ∧ bitW s.wait i = true ∧ x = sendO s i
  | 0, h => by cases h
  | k + 1, h => by
    rw [sendsL] at h
    by_cases hb : bitW s.wait k = true
    · rw [if_pos hb] at h
      rcases List.mem_append.1 h with h | h
      · obtain ⟨i, h1, h2, h3⟩ := sendsL_mem h
        exact ⟨i, by omega, h2, h3⟩
      · simp at h; exact ⟨k, by omega, hb, h⟩
    · rw [if_neg hb] at h
      obtain ⟨i, h1, h2, h3⟩ := sendsL_mem h
      exact ⟨i, by omega, h2, h3⟩
def nextsO (c : Chs) (s : Ost) : List Ost × List Int :=
  if endO c s = true then ([], []) else if vacO s = true then (sendsL s c.ord.length, List.replicate (sendsL s c.ord.length).length 0) else ((mvO c s).map (stepO c s), (mvO c s).map (·.wt))
theorem rep_snoc {α : Type} (n : Nat) (a : α) : List.replicate n a ++ [a] = List.replicate (n + 1) a := by
  induction n with
  | zero => rfl
  | succ n ih => rw [List.replicate_succ, List.cons_append, ih]; rfl
/-- The reference's sum over the states that follow. -/
def accF (f : Ost → Int) : List Ost → List Int → Int → Int
  | x :: l, y :: w, v => accF f l w (if y = 0 then max v (f x) else v + y * f x)
  | _, _, v => v
theorem accF_snoc (f : Ost → Int) (x : Ost) (y : Int) : ∀ (l : List Ost) (w : List Int) (v : Int), l.length = w.length → accF f (l ++ [x]) (w ++ [y]) v = if y = 0 then max (accF f l w v) (f x) else accF f l w v + y * f x
  | [], [], v, _ => rfl
  | a :: l, b :: w, v, h => by
    rw [List.cons_append, List.cons_append, accF, accF_snoc f x y l w _ (by simpa using h), accF]
  | [], _ :: _, _, h => by simp at h
  | _ :: _, [], _, h => by simp at h
theorem accF_vac (f : Ost → Int) (s : Ost) : ∀ k, accF f (sendsL s k) (List.replicate (sendsL s k).length 0) 0 = bestF (fun i => f (sendO s i)) s.wait k
  | 0 => rfl
  | k + 1 => by
    rw [sendsL, bestF]
    by_cases hb : bitW s.wait k = true
    · rw [if_pos hb, if_pos hb, List.length_append, List.length_singleton, ← rep_snoc, accF_snoc f _ _ _ _ _ (by simp), accF_vac f s k, if_pos rfl]
    · rw [if_neg hb, if_neg hb, accF_vac f s k]
theorem accF_run (f : Ost → Int) (g : Otc → Ost) : ∀ (l : List Otc) (v : Int), (∀ o ∈ l, o.wt ≠ 0) → accF f (l.map g) (l.map (·.wt)) v = v + sumI (l.map fun o => o.wt * f (g o))
  | [], v, _ => by show v = v + sumI []; rw [sumI_nil, Int.add_zero]
  | o :: l, v, h => by
    rw [List.map_cons, List.map_cons, List.map_cons, accF, if_neg (h o (by simp)), accF_run f g l _ fun x hx => h x (by simp [hx]), sumI_cons, Int.add_assoc]
theorem accF_at (f : Ost → Int) {l : List Ost} {w : List Int} {k : Nat} (h1 : k < l.length) (h2 : k < w.length) (v : Int) : accF f (l.drop k) (w.drop k) v = accF f (l.drop (k + 1)) (w.drop (k + 1)) (if w[k] = 0 then max v (f l[k]) else v + w[k] * f l[k]) := by
  rw [List.drop_eq_getElem_cons h1, List.drop_eq_getElem_cons h2, accF]
/-- What holds of the states that follow. -/
structure NextOk (c : Chs) (s x : Ost) (y : Int) : Prop where
  ok : OkOs c x
  rank : rankO c x < rankO c s
  v0 : 0 ≤ vO c x ∧ vO c x ≤ 281474976710656
  p0 : 0 ≤ y * vO c x ∧ y * vO c x ≤ 281474976710656
theorem vO_48 {c : Chs} (ht : OkT c) {x : Ost} (hx : OkOs c x) : 0 ≤ vO c x ∧ vO c x ≤ 281474976710656 := by
  have h1 := vO_bd ht _ x hx rfl
  have h2 := pow16_le (leftO_le ht hx)
  omega
theorem nexts_law {c : Chs} (ht : OkT c) {s : Ost} (hs : OkOs c s) : (nextsO c s).1.length = (nextsO c s).2.length ∧ (nextsO c s).1.length ≤ 16 ∧ (∀ (k : Nat) (h1 : k < (nextsO c s).1.length) (h2 : k < (nextsO c s).2.length), NextOk c s (nextsO c s).1[k] (nextsO c s).2[k]) ∧
    (s.need ≠ 0 → accF (vO c) (nextsO c s).1 (nextsO c s).2 0 = vO c s) := by
  unfold nextsO
  by_cases he : endO c s = true
  · simp only [if_pos he]
    refine ⟨rfl, by simp, fun k h1 => by simp at h1, fun hn => ?_⟩
    unfold endO at he
    simp [hn] at he
    rw [vO_lost hn he]; rfl
  · simp only [if_neg he]
    have he2 : s.need ≠ 0 ∧ s.ball ≠ c.bows.length := by unfold endO at he; simpa using he
    have hp := ht.np
    cases hv : vacO s
    · simp only [Bool.false_eq_true, if_false]
      obtain ⟨_, _, _, _, _, _, _, _, _, _, _, _, _, _, _, hd⟩ := mvO_at ht.ok hs he2.2 hv
      have hok := checkD_ok hd
      refine ⟨by simp, by simp; exact hok.len.2, fun k h1 h2 => ?_, fun hn => ?_⟩
      · simp only [List.length_map] at h1
        simp only [List.getElem_map]
        have ho := hok.each _ (List.getElem_mem h1)
        obtain ⟨k1, k2⟩ := rank_step hs he2.2 hv ho.r0
        obtain ⟨_, k4, _⟩ := stepO_ok hs he2.2 hv ho.r0
        have h8 := ht.nb
        have h9 := hs.ball
        exact ⟨k1, by omega, vO_48 ht k1, prod_bd (n := leftO c (stepO c s (mvO c s)[k])) (by unfold leftO; rw [k4]; omega) ⟨ho.w1, ho.w16⟩ (vO_bd ht _ _ k1 rfl)⟩
      · rw [accF_run (vO c) (stepO c s) _ _ fun o ho => by have := (hok.each o ho).w1; omega, Int.zero_add, vO_run ht.ok hs he2.1 he2.2 hv]
    · simp only [if_true]
      refine ⟨by simp, by have := sendsL_len s c.ord.length; omega, fun k h1 h2 => ?_, fun hn => ?_⟩
      · obtain ⟨i, h3, h4, h5⟩ := sendsL_mem (List.getElem_mem h1)
        obtain ⟨k1, k2⟩ := rank_send ht hs hv (i := i) ⟨by omega, by omega⟩ h4
        have hz : (List.replicate (sendsL s c.ord.length).length (0 : Int))[k] = 0 := by simp
        rw [hz, h5]
        exact ⟨k1, by omega, vO_48 ht k1, by rw [Int.zero_mul]; omega⟩
      · rw [accF_vac, vO_vac ht hs he2.1 he2.2 hv]
/-- The rows under way; they lie behind the world wB. -/
structure NxO (w wB W : World) (c : Chs) (bv wv pv ov : Value) (s : Ost) (v1 v2 : Value) (l1 : List Ost) (l2 : List Int) (n : Nat) : Prop where
  b0 : OSB w wB w.heap.size c bv wv pv ov s
  o1 : OwnSl 5 elOst 53 wB.heap.size W v1 l1
  o2 : OwnSl 1 elInt 2 wB.heap.size W v2 l2
  sb : Below wB.heap.size wB W
  n1 : l1.length ≤ n
  n2 : l2.length ≤ n
section
variable {w wB W W' : World} {c : Chs} {bv wv pv ov v1 v2 v' : Value} {s : Ost} {l1 : List Ost} {l2 : List Int} {n : Nat}
theorem NxO.base (h : NxO w wB W c bv wv pv ov s v1 v2 l1 l2 n) : OSB w W w.heap.size c bv wv pv ov s := h.b0.below h.sb
theorem NxO.below (h : NxO w wB W c bv wv pv ov s v1 v2 l1 l2 n) (hb : Below W.heap.size W W') : NxO w wB W' c bv wv pv ov s v1 v2 l1 l2 n := ⟨h.b0, h.o1.below elOst_good hb, h.o2.below elInt_good hb, h.sb.trans (hb.mono h.sb.size), h.n1, h.n2⟩
theorem NxO.alloc (h : NxO w wB W c bv wv pv ov s v1 v2 l1 l2 n) (o : Obj) : NxO w wB (W.alloc o) c bv wv pv ov s v1 v2 l1 l2 n := h.below (Below.alloc (Below.refl _ _) (Nat.le_refl _) o)
theorem NxO.app1 {x : Ost} (h : NxO w wB W c bv wv pv ov s v1 v2 l1 l2 n) (ho : OwnSl 5 elOst 53 wB.heap.size W' v' (l1 ++ [x])) (hg : W.grownBy W' v1.ownBlock) : NxO w wB W' c bv wv pv ov s v' v2 (l1 ++ [x]) l2 (n + 1) := by
  have hap := OwnG.apart h.o1 h.o2 (by decide)
  exact ⟨h.b0, ho, h.o2.grown elInt_good hg fun b hb e => hap b e hb, below_own h.sb h.o1 hg (Nat.le_refl _) h.sb.size, by simp; exact h.n1, Nat.le_succ_of_le h.n2⟩
theorem NxO.app2 {x : Int} {m : Nat} (h : NxO w wB W c bv wv pv ov s v1 v2 l1 l2 n) (ho : OwnSl 1 elInt 2 wB.heap.size W' v' (l2 ++ [x])) (hg : W.grownBy W' v2.ownBlock) (hm1 : l1.length ≤ m) (hm2 : l2.length + 1 ≤ m) : NxO w wB W' c bv wv pv ov s v1 v' l1 (l2 ++ [x]) m := by
  have hap := OwnG.apart h.o1 h.o2 (by decide)
  exact ⟨h.b0, h.o1.grown elOst_good hg fun b hb e => hap b hb e, ho, below_own h.sb h.o2 hg (Nat.le_refl _) h.sb.size, hm1, by simp; exact hm2⟩
theorem NxO.le {m : Nat} (h : NxO w wB W c bv wv pv ov s v1 v2 l1 l2 n) (hm : n ≤ m) : NxO w wB W c bv wv pv ov s v1 v2 l1 l2 m := ⟨h.b0, h.o1, h.o2, h.sb, Nat.le_trans h.n1 hm, Nat.le_trans h.n2 hm⟩
theorem NxO.start (h : OSB w W w.heap.size c bv wv pv ov s) : NxO w W W c bv wv pv ov s (.slice none 0 0) (.slice none 0 0) [] [] 0 := ⟨h, OwnSl.nil _, OwnSl.nil _, Below.refl _ _, Nat.le_refl _, Nat.le_refl _⟩
theorem NxO.otc {v : Value} {l : List Otc} (h : NxO w wB W c bv wv pv ov s v1 v2 l1 l2 n) (hl : Sl 3 elOtc wB (· < wB.heap.size) v l) : Sl 3 elOtc W (· < wB.heap.size) v l := hl.keep elOtc_good (Same.of_below h.sb) fun _ h => h
end
theorem roomO {k n : Nat} (h : n ≤ k) (hk : k < 1000) : n + 1 ≤ maxLen ∧ (n + 1) * 40 ≤ 140737488355328 := by simp only [maxLen]; omega
theorem room8 {k n : Nat} (h : n ≤ k) (hk : k < 1000) : n + 1 ≤ maxLen ∧ (n + 1) * 8 ≤ 140737488355328 := by simp only [maxLen]; omega
theorem base2 {B : Nat} {W : World} (h : B ≤ W.heap.size) (o : Obj) : B ≤ (W.alloc o).heap.size := by simp; omega
theorem own_neq {α : Type} {size e base : Nat} {R : World → (Nat → Prop) → List Value → α → Prop} {W : World} {v : Value} {l : List α} (h : OwnSl size R e base W v l) : v.ownBlock ≠ some W.heap.size := fun e => by have := (OwnSl.block h _ e).2; omega
/-- What nexts hands back. -/
def NxPost (w : World) (r : List Ost × List Int) (e : Ending) (w' : World) : Prop :=
  ∃ A n k A2 n2 k2, e = .returned (.tuple #[.slice A n k, .slice A2 n2 k2]) ∧ Below w.heap.size w w' ∧ Sl 5 elOst w' (fun b => w.heap.size ≤ b ∧ b < w'.heap.size) (.slice A n k) r.1 ∧ Sl 1 elInt w' (fun b => w.heap.size ≤ b ∧ b < w'.heap.size) (.slice A2 n2 k2) r.2
theorem NxO.post {w wB W : World} {c : Chs} {bv wv pv ov : Value} {s : Ost} {A A2 : Option Addr} {n k n2 k2 : Nat} {l1 : List Ost} {l2 : List Int} {m : Nat} (h : NxO w wB W c bv wv pv ov s (.slice A n k) (.slice A2 n2 k2) l1 l2 m) : NxPost w (l1, l2) (.returned (.tuple #[.slice A n k, .slice A2 n2 k2])) W :=
  ⟨_, _, _, _, _, _, rfl, h.base.bel, (h.o1.sl elOst_good).keep elOst_good (Same.refl _ _) fun b hb => ⟨Nat.le_trans h.b0.bel.size hb.1, hb.2⟩, (h.o2.sl elInt_good).keep elInt_good (Same.refl _ _) fun b hb => ⟨Nat.le_trans h.b0.bel.size hb.1, hb.2⟩⟩
set_option maxRecDepth 100000 in
set_option maxHeartbeats 8000000 in
theorem r45_nexts (c : Chs) (ht : OkT c) (s : Ost) (hs : OkOs c s) (bv wv pv ov : Value) (w : World) (h : ChAt w (· < w.heap.size) bv wv pv ov c) :
    Calls Tryz.prog 98 #[chV c bv wv pv ov, osV s] w (NxPost w (nextsO c s)) := by
  unfold chV osV
  have hnp := ht.np
  obtain ⟨A, ca, rfl, hc1, hc2⟩ := h.mdl.bat.shape
  obtain ⟨A1, ca1, rfl, hc3, hc4⟩ := h.mdl.bow.shape
  obtain ⟨A2, ca2, rfl, hc5, hc6⟩ := h.bow.shape
  obtain ⟨A3, ca3, rfl, hc7, hc8⟩ := h.ord.shape
  have HX0 := Lib.hid (NxO.start (OSB.new w c (.slice A c.mdl.bats.length ca) (.slice A1 c.mdl.bows.length ca1) (.slice A2 c.bows.length ca2) (.slice A3 c.ord.length ca3) s))
  have HM := Lib.hid h
  obtain ⟨z, hz⟩ : ∃ z, z = nextsO c s := ⟨_, rfl⟩
  rw [← hz]
  unfold nextsO at hz
  have tok0 : True := trivial
  by_cases h0 : s.need = 0
  · have he : endO c s = true := by unfold endO; simp [h0]
    rw [if_pos he] at hz
    have HZ := Lib.hid hz
    have e0 : (s.need == 0) = true := beq_iff_eq.2 h0
    obtain ⟨ball, need, str, par, wait⟩ := s
    dsimp only at e0 ⊢
    clear hz h0 he hs ht h
    go_enter Tryz.func98, Tryz.ntmps98
    go_wp2
    go_ret2
    rw [HZ.out]; exact HX0.out.post
  have e0 : (s.need == 0) = false := beq_eq_false_iff_ne.2 h0
  by_cases h1 : s.ball = c.bows.length
  · have he : endO c s = true := by unfold endO; simp [h1]
    rw [if_pos he] at hz
    have HZ := Lib.hid hz
    have e1 : (s.ball == (c.bows.length : Int)) = true := beq_iff_eq.2 h1
    obtain ⟨ball, need, str, par, wait⟩ := s
    dsimp only at e0 e1 ⊢
    clear hz h0 h1 he hs ht h
    go_enter Tryz.func98, Tryz.ntmps98
    go_wp2
    go_ret2
    rw [HZ.out]; exact HX0.out.post
  have e1 : (s.ball == (c.bows.length : Int)) = false := beq_eq_false_iff_ne.2 h1
  have he : endO c s = false := by unfold endO; simp [h0, h1]
  rw [he, if_neg (by decide)] at hz
  cases hv : vacO s
  · -- a ball
    rw [hv, if_neg (by decide)] at hz
    obtain ⟨_, _, _, _, _, _, _, _, _, _, _, _, _, _, _, hd⟩ := mvO_at ht.ok hs h1 hv
    have kmv := fun W (hW : Below w.heap.size w W) => r45_moves c s _ _ _ _ W (HM.out.below hW) ht.ok hs h1 hv
    obtain ⟨l, hle⟩ : ∃ l, mvO c s = l := ⟨_, rfl⟩
    rw [hle] at hd kmv hz
    have hok := checkD_ok hd
    have hlen : l.length ≤ 16 := hok.len.2
    have hoe : ∀ (k : Nat) (hk : k < l.length), OkO l[k] := fun k hk => hok.each _ (List.getElem_mem hk)
    have kstep := fun k (hk : k < l.length) W => r45_after c s l[k] A A1 A2 A3 ca ca1 ca2 ca3 W ht hs h1 hv ⟨(hoe k hk).r0, (hoe k hk).r7⟩
    have htk : ∀ (k : Nat) (hk : k < l.length), (l.take (k + 1)).map (stepO c s) = (l.take k).map (stepO c s) ++ [stepO c s l[k]] ∧ (l.take (k + 1)).map (·.wt) = (l.take k).map (·.wt) ++ [l[k].wt] := fun k hk => by
      rw [List.take_add_one, List.getElem?_eq_getElem hk, List.map_append, List.map_append]; exact ⟨rfl, rfl⟩
    have hvv : ¬ s.str < 0 ∧ ¬ s.par < 0 := by unfold vacO at hv; simpa using hv
    obtain ⟨hv1, hv2⟩ := hvv
    have HTK := Lib.hid htk
    have KMV := Lib.hid kmv
    have KST := Lib.hid kstep
    have HZ := Lib.hid hz
    obtain ⟨ball, need, str, par, wait⟩ := s
    unfold chV osV at KMV
    unfold osV at KST
    dsimp only at e0 e1 KMV KST hv1 hv2 ⊢
    clear hz h0 h1 he hs ht h kmv kstep hd hok hoe hle hv htk
    go_enter Tryz.func98, Tryz.ntmps98
    go_wp2_with (clear tok0; go_at_call 130; refine (KMV.out _ HX0.out.base.bel).mono ?_; rintro e w4 ⟨A4, n4, k4, rfl, hb3, hs3⟩; obtain ⟨Az, kz, hze, hz1, hz2⟩ := hs3.shape; have hn4 : n4 = l.length := (by injection hze); subst hn4; have HX4 := Lib.hid (HX0.out.base.below hb3); have HL4 := Lib.hid (hs3.keep (G := fun x => x < w4.heap.size) elOtc_good (Same.refl _ _) fun x hx => hx.2); obtain ⟨x0, x1, x2, x3, x4, x5, x6, y0, y1, y2, y3, y4⟩ := HX4.out.cells; dsimp only at y0 y1 y2 y3 y4; clear hb3 hs3 hze hz1 hz2; have tok1 : True := trivial)
    go_loopw [6, 7, 15] (fun v1 v2 i wr => ∃ (k : Nat) (l1 : List Ost) (l2 : List Int) (A1' A2' : Option Addr) (m1 m2 q1 q2 : Nat), k ≤ l.length ∧ i = .int .i64 k ∧ v1 = .slice A1' m1 q1 ∧ v2 = .slice A2' m2 q2 ∧ Hid (NxO w w4 wr c (.slice A c.mdl.bats.length ca) (.slice A1 c.mdl.bows.length ca1) (.slice A2 c.bows.length ca2) (.slice A3 c.ord.length ca3) ⟨ball, need, str, par, wait⟩ v1 v2 l1 l2 k) ∧ Hid (l1 = (l.take k).map (stepO c ⟨ball, need, str, par, wait⟩)) ∧ Hid (l2 = (l.take k).map (·.wt))) (fun _ _ i _ => l.length - (intOf i).toNat)
    case atStart => exact ⟨0, [], [], none, none, 0, 0, 0, 0, Nat.zero_le _, rfl, rfl, rfl, Lib.hid (NxO.start HX4.out), Lib.hid rfl, Lib.hid rfl⟩
    case round =>
      clear x0 x1 x2 x3 x4 x5 x6 y0 y1 y2 y3 y4 HX4
      obtain ⟨k, l1, l2, A1', A2', m1, m2, q1, q2, hk, rfl, rfl, rfl, HN, HE1, HE2⟩ := hrel
      obtain ⟨x0, x1, x2, x3, x4, x5, x6, y0, y1, y2, y3, y4⟩ := HN.out.base.cells; dsimp only at y0 y1 y2 y3 y4; 
      by_cases hlt : k < l.length
      · obtain ⟨b0, o, rfl, hbl, g0, g1, g2⟩ := otc_at (HN.out.otc HL4.out) hlt
        have hk17 : k < 1000 := by omega
        have hk18 : k + 1 < 1000 := by omega
        have HLEN1 : (l1 ++ [stepO c ⟨ball, need, str, par, wait⟩ l[k]]).length ≤ k + 1 := by have := HN.out.n1; simp; omega
        have HLEN2 : l2.length + 1 ≤ k + 1 := by have := HN.out.n2; omega
        obtain ⟨ht1, ht2⟩ := HTK.out k hlt
        rw [← HE1.out] at ht1
        rw [← HE2.out] at ht2
        have kS := KST.out k hlt
        obtain ⟨⟨t0, t1, t2, t3, t4⟩, hs'⟩ : ∃ x, x = stepO c ⟨ball, need, str, par, wait⟩ l[k] := ⟨_, rfl⟩
        rw [← hs'] at ht1 HLEN1
        simp only [← hs'] at kS
        obtain ⟨⟨pr, pw, pt⟩, hp'⟩ : ∃ p, p = l[k] := ⟨_, rfl⟩
        rw [← hp'] at g0 g1 g2 ht2
        simp only [← hp'] at kS
        dsimp only at g0 g1 g2 ht2 kS
        have KS := Lib.hid kS
        have HT1 := Lib.hid ht1
        have HT2 := Lib.hid ht2
        have HNA := Lib.hid (HN.out.alloc (.cells #[.int .i64 pr, .bool pw, .int .i64 pt] 46))
        have HCA := Lib.hid (Blk.new wr 46 #[.int .i64 pr, .bool pw, .int .i64 pt])
        have hl1 := HN.out.base.box.lt
        have hl2 := HN.out.base.st.lt
        clear kS ht1 ht2 hs' hp'
        have tok5 : True := trivial
        go_wp2_with (first
          | (clear tok5; go_at_call 131; refine (KS.out _).mono ?_; rintro e w5 ⟨rfl, hb5⟩; have HN5 := Lib.hid (HNA.out.below hb5); have HC5 := Lib.hid (HCA.out.below hb5 HCA.out.lt); clear x0 x1 x2 x3 x4 x5 x6 y0 y1 y2 y3 y4; obtain ⟨x0, x1, x2, x3, x4, x5, x6, y0, y1, y2, y3, y4⟩ := HN5.out.base.cells; dsimp only at y0 y1 y2 y3 y4; have u0 := HC5.out.cell 0; have u1 := HC5.out.cell 1; have u2 := HC5.out.cell 2; have hl3 := HC5.out.lt; clear hb5; have tok6 : True := trivial)
          | (clear tok6; at_builtin; refine wpList_append_sl _ rfl (.tmp 19) (.tmp 24) _ rfl E_ost elOst_good _ _ l1 rfl (HN5.out.o1.alloc elOst_good _) ⟨w5.heap.size, 0, none⟩ 1 [.int .i64 t0, .int .i64 t1, .int .i64 t2, .int .i64 t3, .int .u16 t4] rfl ⟨t0, t1, t2, t3, t4⟩ rfl (cells_new _ _ _ _) (oneCells rfl) rfl (roomO HN5.out.n1 hk17).1 (roomO HN5.out.n1 hk17).2 (base2 HN5.out.sb.size _) ?_; intro v6 w6 hown6 hg6 hat6; have h6 := (HN5.out.alloc (.cells #[.int .i64 t0, .int .i64 t1, .int .i64 t2, .int .i64 t3, .int .u16 t4] 53)).app1 hown6 hg6; have H6 := Lib.hid h6; clear x0 x1 x2 x3 x4 x5 x6 y0 y1 y2 y3 y4; obtain ⟨x0, x1, x2, x3, x4, x5, x6, y0, y1, y2, y3, y4⟩ := h6.base.cells; dsimp only at y0 y1 y2 y3 y4; obtain ⟨A6, c6, rfl, hc61, hc62⟩ := (hown6.sl elOst_good).shape; have HC6 := Lib.hid ((HC5.out.alloc _).grown hg6 (own_neq HN.out.o1)); clear u0 u1 u2; have u0 := HC6.out.cell 0; have u1 := HC6.out.cell 1; have u2 := HC6.out.cell 2; clear hown6 hg6 hat6 h6; have tok7 : True := trivial)
          | (clear tok7; at_builtin; refine wpList_append_sl _ rfl (.tmp 26) (.tmp 29) _ rfl E_i64o elInt_good _ _ l2 rfl (H6.out.o2.alloc elInt_good _) ⟨w6.heap.size, 0, none⟩ 1 [.int .i64 pt] rfl pt rfl (cells_new _ _ _ _) (oneCells rfl) rfl (room8 H6.out.n2 hk18).1 (room8 H6.out.n2 hk18).2 (base2 H6.out.sb.size _) ?_; intro v7 w7 hown7 hg7 hat7; have h7 := (H6.out.alloc (.cells #[.int .i64 pt] 2)).app2 hown7 hg7 HLEN1 HLEN2; have H7 := Lib.hid h7; clear x0 x1 x2 x3 x4 x5 x6 y0 y1 y2 y3 y4; obtain ⟨x0, x1, x2, x3, x4, x5, x6, y0, y1, y2, y3, y4⟩ := h7.base.cells; dsimp only at y0 y1 y2 y3 y4; obtain ⟨A7, c7, rfl, hc71, hc72⟩ := (hown7.sl elInt_good).shape; clear hown7 hg7 hat7 h7; have tok8 : True := trivial))
        go_roundw
        case rel => exact ⟨k + 1, _, _, A6, A7, _, _, c6, c7, by omega, by go_num, rfl, rfl, Lib.hid (by have h7 := H7.out; simp only [List.length_append, List.length_singleton] at h7; exact h7), Lib.hid HT1.out.symm, Lib.hid HT2.out.symm⟩
        case measure => simp [intOf]; omega
      · obtain rfl : k = l.length := by omega
        have he1 := HE1.out
        have he2 := HE2.out
        rw [List.take_of_length_le (Nat.le_refl _)] at he1 he2
        have HF := Lib.hid (show z = (l1, l2) by rw [HZ.out, he1, he2])
        clear he1 he2 HE1 HE2
        go_wp2
        go_ret2
        rw [HF.out]; exact HN.out.post
  · -- somebody has to be sent
    rw [hv, if_pos rfl] at hz
    have h16 := hs.w16
    have ksend := fun (i : Nat) (hi : i < c.ord.length) W => r45_send s (i : Int) W h16 ⟨by omega, by omega⟩
    have kwait := fun (i : Nat) (hi : i < c.ord.length) W => r45_waits s (i : Int) W h16 ⟨by omega, by omega⟩
    have hvv : s.str < 0 ∨ (¬ s.str < 0 ∧ s.par < 0) := by unfold vacO at hv; simp at hv; omega
    have hsn : ∀ i : Nat, bitW s.wait i = true → sendsL s (i + 1) = sendsL s i ++ [sendO s i] := fun i hb => by rw [sendsL, if_pos hb]
    have hsk : ∀ i : Nat, bitW s.wait i = false → sendsL s (i + 1) = sendsL s i := fun i hb => by rw [sendsL, if_neg (by simp [hb])]
    have HSN := Lib.hid hsn
    have HSK := Lib.hid hsk
    have KSEND := Lib.hid ksend
    have KWAIT := Lib.hid kwait
    have HZ := Lib.hid hz
    have hn6 : c.ord.length ≤ 6 := hnp.2
    obtain ⟨ball, need, str, par, wait⟩ := s
    unfold osV at KSEND KWAIT
    dsimp only at e0 e1 KSEND KWAIT HSN HSK hvv ⊢
    clear hz h0 h1 he hs ht h ksend kwait hsn hsk hv h16 hnp
    rcases hvv with hs1 | ⟨hs1, hs2⟩
    all_goals
      go_enter Tryz.func98, Tryz.ntmps98
      go_wp2
      go_loopw [6, 7, 56] (fun v1 v2 i wr => ∃ (k : Nat) (l1 : List Ost) (l2 : List Int) (A1' A2' : Option Addr) (m1 m2 q1 q2 : Nat), k ≤ c.ord.length ∧ i = .int .i64 k ∧ v1 = .slice A1' m1 q1 ∧ v2 = .slice A2' m2 q2 ∧ Hid (NxO w ((w.alloc (.cells #[.slice A c.mdl.bats.length ca, .slice A1 c.mdl.bows.length ca1, .slice A2 c.bows.length ca2, .int .i64 c.over, .int .i64 c.done, .int .i64 c.need, .slice A3 c.ord.length ca3] 50)).alloc (.cells #[.int .i64 ball, .int .i64 need, .int .i64 str, .int .i64 par, .int .u16 wait] 53)) wr c (.slice A c.mdl.bats.length ca) (.slice A1 c.mdl.bows.length ca1) (.slice A2 c.bows.length ca2) (.slice A3 c.ord.length ca3) ⟨ball, need, str, par, wait⟩ v1 v2 l1 l2 k) ∧ Hid (l1 = sendsL ⟨ball, need, str, par, wait⟩ k) ∧ Hid (l2 = List.replicate l1.length 0)) (fun _ _ i _ => c.ord.length - (intOf i).toNat)
      case atStart => exact ⟨0, [], [], none, none, 0, 0, 0, 0, Nat.zero_le _, rfl, rfl, rfl, HX0, Lib.hid rfl, Lib.hid rfl⟩
      case round =>
        obtain ⟨k, l1, l2, A1', A2', m1, m2, q1, q2, hk, rfl, rfl, rfl, HN, HE1, HE2⟩ := hrel
        obtain ⟨x0, x1, x2, x3, x4, x5, x6, y0, y1, y2, y3, y4⟩ := HN.out.base.cells; dsimp only at y0 y1 y2 y3 y4; 
        have tok5 : True := trivial
        by_cases hlt : k < c.ord.length
        · have kW := KWAIT.out k hlt
          cases hbit : bitW wait k
          · have he1 := HSK.out k hbit
            rw [← HE1.out] at he1
            have HF1 := Lib.hid he1.symm
            rw [hbit] at kW
            have KW := Lib.hid kW
            clear kW he1 hbit
            go_wp2_with (clear tok5; go_at_call 63; refine (KW.out _).mono ?_; rintro e w5 ⟨rfl, hb5⟩; have HN5 := Lib.hid ((HN.out.below hb5).le (Nat.le_succ k)); clear hb5; have tok6 : True := trivial)
            go_roundw
            case rel => exact ⟨k + 1, l1, l2, A1', A2', _, _, q1, q2, by omega, by go_num, rfl, rfl, HN5, HF1, HE2⟩
            case measure => simp [intOf]; omega
          · have hk17 : k < 1000 := by omega
            have hk18 : k + 1 < 1000 := by omega
            have he1 := HSN.out k hbit
            rw [← HE1.out] at he1
            have kS := KSEND.out k hlt
            rw [hbit] at kW
            obtain ⟨⟨t0, t1, t2, t3, t4⟩, hs'⟩ : ∃ x, x = sendO ⟨ball, need, str, par, wait⟩ k := ⟨_, rfl⟩
            rw [← hs'] at he1
            simp only [← hs'] at kS
            have HLEN1 : (l1 ++ [(⟨t0, t1, t2, t3, t4⟩ : Ost)]).length ≤ k + 1 := by have := HN.out.n1; simp; omega
            have HLEN2 : l2.length + 1 ≤ k + 1 := by have := HN.out.n2; omega
            have HF1 := Lib.hid he1.symm
            have HF2 := Lib.hid (show l2 ++ [0] = List.replicate (l1 ++ [(⟨t0, t1, t2, t3, t4⟩ : Ost)]).length 0 by rw [HE2.out, rep_snoc]; simp)
            have KW := Lib.hid kW
            have KS := Lib.hid kS
            clear kW kS he1 hs' hbit
            go_wp2_with (first
              | (clear tok5; go_at_call 63; refine (KW.out _).mono ?_; rintro e w4 ⟨rfl, hb5⟩; have HN4 := Lib.hid (HN.out.below hb5); clear x0 x1 x2 x3 x4 x5 x6 y0 y1 y2 y3 y4; obtain ⟨x0, x1, x2, x3, x4, x5, x6, y0, y1, y2, y3, y4⟩ := HN4.out.base.cells; dsimp only at y0 y1 y2 y3 y4; clear hb5; have tok6 : True := trivial)
              | (clear tok6; go_at_call 64; refine (KS.out _).mono ?_; rintro e w5 ⟨rfl, hb5⟩; have HN5 := Lib.hid (HN4.out.below hb5); clear x0 x1 x2 x3 x4 x5 x6 y0 y1 y2 y3 y4; obtain ⟨x0, x1, x2, x3, x4, x5, x6, y0, y1, y2, y3, y4⟩ := HN5.out.base.cells; dsimp only at y0 y1 y2 y3 y4; clear hb5; have tok7 : True := trivial)
              | (clear tok7; at_builtin; refine wpList_append_sl _ rfl (.tmp 62) (.tmp 66) _ rfl E_ost elOst_good _ _ l1 rfl (HN5.out.o1.alloc elOst_good _) ⟨w5.heap.size, 0, none⟩ 1 [.int .i64 t0, .int .i64 t1, .int .i64 t2, .int .i64 t3, .int .u16 t4] rfl ⟨t0, t1, t2, t3, t4⟩ rfl (cells_new _ _ _ _) (oneCells rfl) rfl (roomO HN5.out.n1 hk17).1 (roomO HN5.out.n1 hk17).2 (base2 HN5.out.sb.size _) ?_; intro v6 w6 hown6 hg6 hat6; have h6 := (HN5.out.alloc (.cells #[.int .i64 t0, .int .i64 t1, .int .i64 t2, .int .i64 t3, .int .u16 t4] 53)).app1 hown6 hg6; have H6 := Lib.hid h6; clear x0 x1 x2 x3 x4 x5 x6 y0 y1 y2 y3 y4; obtain ⟨x0, x1, x2, x3, x4, x5, x6, y0, y1, y2, y3, y4⟩ := h6.base.cells; dsimp only at y0 y1 y2 y3 y4; obtain ⟨A6, c6, rfl, hc61, hc62⟩ := (hown6.sl elOst_good).shape; clear hown6 hg6 hat6 h6; have tok8 : True := trivial)
              | (clear tok8; at_builtin; refine wpList_append_sl _ rfl (.tmp 68) (.tmp 69) _ rfl E_i64o elInt_good _ _ l2 rfl (H6.out.o2.alloc elInt_good _) ⟨w6.heap.size, 0, none⟩ 1 [.int .i64 0] rfl 0 rfl (cells_new _ _ _ _) (oneCells rfl) rfl (room8 H6.out.n2 hk18).1 (room8 H6.out.n2 hk18).2 (base2 H6.out.sb.size _) ?_; intro v7 w7 hown7 hg7 hat7; have h7 := (H6.out.alloc (.cells #[.int .i64 0] 2)).app2 hown7 hg7 HLEN1 HLEN2; have H7 := Lib.hid h7; clear x0 x1 x2 x3 x4 x5 x6 y0 y1 y2 y3 y4; obtain ⟨x0, x1, x2, x3, x4, x5, x6, y0, y1, y2, y3, y4⟩ := h7.base.cells; dsimp only at y0 y1 y2 y3 y4; obtain ⟨A7, c7, rfl, hc71, hc72⟩ := (hown7.sl elInt_good).shape; clear hown7 hg7 hat7 h7; have tok9 : True := trivial))
            go_roundw
            case rel => exact ⟨k + 1, _, _, A6, A7, _, _, c6, c7, by omega, by go_num, rfl, rfl, Lib.hid (by have h7 := H7.out; simp only [List.length_append, List.length_singleton] at h7; exact h7), HF1, HF2⟩
            case measure => simp [intOf]; omega
        · obtain rfl : k = c.ord.length := by omega
          have HF := Lib.hid (show z = (l1, l2) by rw [HZ.out, HE2.out, HE1.out])
          clear HE1 HE2
          go_wp2
          go_ret2
          rw [HF.out]; exact HN.out.post
end Go.Proofs.YtfnfbojaiikigaaGreatDoor

namespace Go.Proofs.YtfnfbojaiikigaaGreatDoor
open Go.RowKit Go.Maps

set_option maxRecDepth 100000 in
set_option maxHeartbeats 8000000 in
theorem r45_sum (c : Chs) (ht : OkT c) (s : Ost) (hs : OkOs c s) (bv wv pv ov : Value) (b N : Nat) (D : DataW Unit) (w : World) (h : ChAt w (· < w.heap.size) bv wv pv ov c) (hown : ValsO w b N D) (hkn : KnownO c D) (hall : ∀ x ∈ (nextsO c s).1, Maps.has D (keyOs x) = true) :
    Calls Tryz.prog 73 #[chV c bv wv pv ov, osV s, .map (some b)] w fun e w' => e = .returned (.tuple #[.int .i64 (vO c s), .bool true]) ∧ Below w.heap.size w w' := by
  unfold chV osV
  have hnp := ht.np
  have hnb := ht.ok.nb
  have hsb := hs.ball
  obtain ⟨A, ca, rfl, hc1, hc2⟩ := h.mdl.bat.shape
  obtain ⟨A1, ca1, rfl, hc3, hc4⟩ := h.mdl.bow.shape
  obtain ⟨A2, ca2, rfl, hc5, hc6⟩ := h.bow.shape
  obtain ⟨A3, ca3, rfl, hc7, hc8⟩ := h.ord.shape
  have HX0 := Lib.hid (OSB.new w c (.slice A c.mdl.bats.length ca) (.slice A1 c.mdl.bows.length ca1) (.slice A2 c.bows.length ca2) (.slice A3 c.ord.length ca3) s)
  have HM := Lib.hid h
  obtain ⟨z, hz⟩ : ∃ z, z = vO c s := ⟨_, rfl⟩
  rw [← hz]
  have tok0 : True := trivial
  by_cases h0 : s.need = 0
  · have kun := fun W => ref_Unit ((c.bows.length : Int) - s.ball) W
    have hle := leftO_le ht hs
    have hlc : (c.bows.length : Int) - s.ball = (leftO c s : Int) := by unfold leftO; omega
    have hun : unitS ((c.bows.length : Int) - s.ball) = (z, 0) := by rw [hlc, unitS_ok hle, hz, vO_won h0, pow16_unit]
    rw [hun] at kun
    have KU := Lib.hid kun
    have e0 : (s.need == 0) = true := beq_iff_eq.2 h0
    obtain ⟨ball, need, str, par, wait⟩ := s
    dsimp only at e0 KU hsb ⊢
    obtain ⟨hsb1, hsb2⟩ := hsb
    obtain ⟨hnb1, hnb2⟩ := hnb
    clear hz h0 hs ht h kun hle hlc hun hown hkn hall
    go_enter Tryz.func73, Tryz.ntmps73
    go_wp2_with (clear tok0; go_at_call 107; refine (KU.out _).mono ?_; rintro e w2 ⟨rfl, hb⟩; have HX2 := Lib.hid HX0.out; subst hb; have tok1 : True := trivial)
    go_ret2
    exact ⟨rfl, HX2.out.bel⟩
  have e0 : (s.need == 0) = false := beq_eq_false_iff_ne.2 h0
  obtain ⟨hl12, hl16, hlaw, hfin⟩ := nexts_law ht hs
  have hf := hfin h0
  have kn := fun W (hW : Below w.heap.size w W) => r45_nexts c ht s hs _ _ _ _ W (HM.out.below hW)
  have hitem : ∀ (k : Nat) (h1 : k < (nextsO c s).1.length) (h2 : k < (nextsO c s).2.length), NextOk c s (nextsO c s).1[k] (nextsO c s).2[k] ∧ Maps.has D (keyOs (nextsO c s).1[k]) = true ∧ D.atKey (keyOs (nextsO c s).1[k]) (.lit (.int .i64 0)) = .lit (.int .i64 (vO c (nextsO c s).1[k])) ∧ keyOf Tryz.prog 53 (osV (nextsO c s).1[k]) = some (keyOs (nextsO c s).1[k]) := fun k h1 h2 =>
    have k1 := hlaw k h1 h2
    have k2 := hall _ (List.getElem_mem h1)
    ⟨k1, k2, hkn _ k1.ok k2, okey_of (k1.ok.smol ht)⟩
  rw [← hz] at hf
  clear hall hlaw hfin
  revert hl12 hl16 hf kn hitem
  generalize nextsO c s = r
  obtain ⟨l, ws⟩ := r
  intro hl12 hl16 hf kn hitem
  dsimp only at hitem hf hl12 hl16
  have hatk := fun (k : Nat) (h1 : k < l.length) (h2 : k < ws.length) v => accF_at (vO c) h1 h2 v
  have KN := Lib.hid kn
  have HIT := Lib.hid hitem
  have HF := Lib.hid (show z = accF (vO c) (l.drop 0) (ws.drop 0) 0 by rw [← hf]; rfl)
  have HAT := Lib.hid hatk
  have HOW := Lib.hid hown
  have hblt := hown.lt
  obtain ⟨ball, need, str, par, wait⟩ := s
  unfold chV osV at KN
  dsimp only at e0 KN ⊢
  clear hz h0 hs ht h kn hf hatk hown hkn hitem hsb
  go_enter Tryz.func73, Tryz.ntmps73
  go_wp2_with (clear tok0; go_at_call 98; refine (KN.out _ HX0.out.bel).mono ?_; rintro e w4 ⟨A4, n4, k4, A5, n5, k5, rfl, hb3, hs3, hs4⟩; obtain ⟨Az, kz, hze, hz1, hz2⟩ := hs3.shape; have hn4 : n4 = l.length := (by injection hze); subst hn4; obtain ⟨Ay, ky, hye, hy1, hy2⟩ := hs4.shape; have hn5 : n5 = ws.length := (by injection hye); subst hn5; have HX4 := Lib.hid (HX0.out.below hb3); have HL4 := Lib.hid (hs3.keep (G := fun x => x < w4.heap.size) elOst_good (Same.refl _ _) fun x hx => hx.2); have HL5 := Lib.hid (hs4.keep (G := fun x => x < w4.heap.size) elInt_good (Same.refl _ _) fun x hx => hx.2); have tok1 : True := trivial; clear hb3 hs3 hs4 hze hz1 hz2 hye hy1 hy2)
  go_loopw [12, 39] (fun v i wr => ∃ (k : Nat) (sm : Int), k ≤ l.length ∧ i = .int .i64 k ∧ v = .int .i64 sm ∧ 0 ≤ sm ∧ sm ≤ 281474976710656 * k ∧ Hid (Below w4.heap.size w4 wr) ∧ Hid (z = accF (vO c) (l.drop k) (ws.drop k) sm)) (fun _ i _ => l.length - (intOf i).toNat)
  case atStart => exact ⟨0, 0, Nat.zero_le _, rfl, rfl, by omega, by omega, Lib.hid (Below.refl _ _), HF⟩
  case round =>
    obtain ⟨k, sm, hk, rfl, rfl, hs0, hs1, HB, hzz⟩ := hrel
    have HXR := Lib.hid (HX4.out.below HB.out)
    by_cases hlt : k < l.length
    · have hlt2 : k < ws.length := by omega
      obtain ⟨b0, o, rfl, hbl, j0, j1, j2, j3, j4⟩ := ost_at HL4.out hlt
      obtain ⟨b1, o1, rfl, hbl1, i0⟩ := int_at HL5.out hlt2
      have g0 := (HB.out.cell (p := ⟨b0, o + k * 5, none⟩) hbl).trans j0
      have g1 := (HB.out.cell (p := ⟨b0, o + k * 5 + 1, none⟩) hbl).trans j1
      have g2 := (HB.out.cell (p := ⟨b0, o + k * 5 + 2, none⟩) hbl).trans j2
      have g3 := (HB.out.cell (p := ⟨b0, o + k * 5 + 3, none⟩) hbl).trans j3
      have g4 := (HB.out.cell (p := ⟨b0, o + k * 5 + 4, none⟩) hbl).trans j4
      have g5 := (HB.out.cell (p := ⟨b1, o1 + k, none⟩) hbl1).trans i0
      obtain ⟨q1, q2, q3, q4⟩ := HIT.out k hlt hlt2
      have hz2 := hzz.out
      rw [HAT.out k hlt hlt2] at hz2
      have q5 := q1.v0
      have q6 := q1.p0
      obtain ⟨vv, hvv⟩ : ∃ x, x = vO c l[k] := ⟨_, rfl⟩
      rw [← hvv] at hz2 q3 q5 q6
      obtain ⟨⟨t0, t1, t2, t3, t4⟩, hx⟩ : ∃ x, x = l[k] := ⟨_, rfl⟩
      rw [← hx] at g0 g1 g2 g3 g4 q2 q3 q4
      obtain ⟨y, hy⟩ : ∃ x, x = ws[k] := ⟨_, rfl⟩
      rw [← hy] at g5 hz2 q6
      unfold osV at q4
      dsimp only at g0 g1 g2 g3 g4 q4
      obtain ⟨q7, q8⟩ := q5
      obtain ⟨q9, q10⟩ := q6
      have HKEY := Lib.hid q4
      have HVAL := Lib.hid q3
      have HV := Lib.hid (ovals_below (ovals_below (ovals_below HOW.out (HX4.out.bel)) HB.out) (Below.alloc (Below.refl wr.heap.size wr) (Nat.le_refl _) (.cells #[.int .i64 t0, .int .i64 t1, .int .i64 t2, .int .i64 t3, .int .u16 t4] 53)))
      have hb1 : b1 < wr.heap.size := Nat.lt_of_lt_of_le hbl1 HB.out.size
      by_cases hy0 : y = 0
      · rw [if_pos hy0] at hz2
        have HZZ := Lib.hid hz2
        have e5 : (y == 0) = true := beq_iff_eq.2 hy0
        clear q1 q3 q4 hz2 hzz hvv hx hy j0 j1 j2 j3 j4 i0 hy0 q9 q10
        go_wp2_with (at_lookup; refine wpList_lookup_own_ok_int _ rfl _ _ 93 rfl 53 2 .i64 law45 Tryz.underlying93 Tryz.underlying2 (zero_i64 _) b N D rfl HV.out _ _ rfl HKEY.out ?_; intro cc hat hwc; have hc : cc = vv := (by have := hat.symm.trans HVAL.out; injection this with this; injection this); subst hc; clear hat hwc)
        go_roundw
        case rel => exact ⟨k + 1, max sm cc, by omega, by go_num, by first | rfl | rw [Int.max_comm], by omega, by push_cast; omega, Lib.hid (HB.out.trans ((Below.alloc (Below.refl wr.heap.size wr) (Nat.le_refl _) _).mono HB.out.size)), HZZ⟩
        case measure => simp [intOf]; omega
      · rw [if_neg hy0] at hz2
        have HZZ := Lib.hid hz2
        have e5 : (y == 0) = false := beq_eq_false_iff_ne.2 hy0
        clear q1 q3 q4 hz2 hzz hvv hx hy j0 j1 j2 j3 j4 i0 hy0
        go_wp2_with (at_lookup; refine wpList_lookup_own_ok_int _ rfl _ _ 93 rfl 53 2 .i64 law45 Tryz.underlying93 Tryz.underlying2 (zero_i64 _) b N D rfl HV.out _ _ rfl HKEY.out ?_; intro cc hat hwc; have hc : cc = vv := (by have := hat.symm.trans HVAL.out; injection this with this; injection this); subst hc; clear hat hwc)
        go_roundw
        case rel => exact ⟨k + 1, sm + y * cc, by omega, by go_num, by first | rfl | rw [IntWalk.i64_in (y * cc) (by omega), IntWalk.i64_in (sm + y * cc) (by omega)], by omega, by push_cast; omega, Lib.hid (HB.out.trans ((Below.alloc (Below.refl wr.heap.size wr) (Nat.le_refl _) _).mono HB.out.size)), HZZ⟩
        case measure => simp [intOf]; omega
    · obtain rfl : k = l.length := by omega
      have hz2 := hzz.out
      rw [List.drop_of_length_le (Nat.le_refl _), List.drop_of_length_le (by omega)] at hz2
      have hz3 : z = sm := hz2
      subst hz3
      clear hzz hz2
      go_wp2
      go_ret2
      exact ⟨rfl, HXR.out.bel⟩
end Go.Proofs.YtfnfbojaiikigaaGreatDoor

namespace Go.Proofs.YtfnfbojaiikigaaGreatDoor
open Go.RowKit Go.Maps

/-- A task and a state boxed, a map beside them of which P holds. -/
structure SolF (w W : World) (F : Nat → Prop) (b N : Nat) (P : DataW Unit → Prop) (c : Chs) (bv wv pv ov : Value) (s : Ost) : Prop where
  only : Only b w W
  box : Blk W w.heap.size 50 #[bv, wv, pv, .int .i64 c.over, .int .i64 c.done, .int .i64 c.need, ov]
  st : Blk W (w.heap.size + 1) 53 #[.int .i64 s.ball, .int .i64 s.need, .int .i64 s.str, .int .i64 s.par, .int .u16 s.wait]
  blt : b < w.heap.size
  ch : ChAt W F bv wv pv ov c
  hF : ∀ x, F x → x < W.heap.size ∧ x ≠ b
  vals : ∃ D, ValsO W b N D ∧ KnownO c D ∧ P D
section
variable {w W W' : World} {F : Nat → Prop} {b N N' : Nat} {P P' : DataW Unit → Prop} {c : Chs} {bv wv pv ov : Value} {s : Ost}
theorem SolF.below (h : SolF w W F b N P c bv wv pv ov s) (hb : Below W.heap.size W W') : SolF w W' F b N P c bv wv pv ov s :=
  ⟨h.only.trans (Only.of_below hb), h.box.below hb h.box.lt, h.st.below hb h.st.lt, h.blt, h.ch.keep ((Only.of_below (g := b) hb).same h.hF) fun _ h => h, fun x hx => ⟨Nat.lt_of_lt_of_le (h.hF x hx).1 hb.size, (h.hF x hx).2⟩, let ⟨D, h1, h2, h3⟩ := h.vals; ⟨D, ovals_below h1 hb, h2, h3⟩⟩
theorem SolF.alloc (h : SolF w W F b N P c bv wv pv ov s) (o : Obj) : SolF w (W.alloc o) F b N P c bv wv pv ov s := h.below (Below.alloc (Below.refl _ _) (Nat.le_refl _) o)
theorem SolF.into (h : SolF w W F b N P c bv wv pv ov s) (ho : Only b W W') (hv : ∃ D, ValsO W' b N' D ∧ KnownO c D ∧ P' D) : SolF w W' F b N' P' c bv wv pv ov s :=
  ⟨h.only.trans ho, h.box.grown ho (by intro e; injection e with e; have := h.blt; omega), h.st.grown ho (by intro e; injection e with e; have := h.blt; omega), h.blt, h.ch.keep (ho.same h.hF) fun _ h => h, fun x hx => ⟨Nat.lt_of_lt_of_le (h.hF x hx).1 ho.size, (h.hF x hx).2⟩, hv⟩
theorem SolF.cells (h : SolF w W F b N P c bv wv pv ov s) : W.cell? ⟨w.heap.size, 0, none⟩ = some bv ∧ W.cell? ⟨w.heap.size, 1, none⟩ = some wv ∧ W.cell? ⟨w.heap.size, 2, none⟩ = some pv ∧ W.cell? ⟨w.heap.size, 3, none⟩ = some (.int .i64 c.over) ∧ W.cell? ⟨w.heap.size, 4, none⟩ = some (.int .i64 c.done) ∧ W.cell? ⟨w.heap.size, 5, none⟩ = some (.int .i64 c.need) ∧ W.cell? ⟨w.heap.size, 6, none⟩ = some ov ∧
    W.cell? ⟨w.heap.size + 1, 0, none⟩ = some (.int .i64 s.ball) ∧ W.cell? ⟨w.heap.size + 1, 1, none⟩ = some (.int .i64 s.need) ∧ W.cell? ⟨w.heap.size + 1, 2, none⟩ = some (.int .i64 s.str) ∧ W.cell? ⟨w.heap.size + 1, 3, none⟩ = some (.int .i64 s.par) ∧ W.cell? ⟨w.heap.size + 1, 4, none⟩ = some (.int .u16 s.wait) :=
  ⟨h.box.cell 0, h.box.cell 1, h.box.cell 2, h.box.cell 3, h.box.cell 4, h.box.cell 5, h.box.cell 6, h.st.cell 0, h.st.cell 1, h.st.cell 2, h.st.cell 3, h.st.cell 4⟩
theorem SolF.new {D : DataW Unit} (hch : ChAt w F bv wv pv ov c) (hF : ∀ x, F x → x < w.heap.size ∧ x ≠ b) (h1 : ValsO w b N D) (h2 : KnownO c D) (h3 : P D) : SolF w ((w.alloc (.cells #[bv, wv, pv, .int .i64 c.over, .int .i64 c.done, .int .i64 c.need, ov] 50)).alloc (.cells #[.int .i64 s.ball, .int .i64 s.need, .int .i64 s.str, .int .i64 s.par, .int .u16 s.wait] 53)) F b N P c bv wv pv ov s :=
  let hx := OSB.new w c bv wv pv ov s
  let ho := Only.of_below (g := b) hx.bel
  ⟨ho, hx.box, hx.st, h1.lt, hch.keep (ho.same hF) fun _ h => h, fun x hx => ⟨Nat.lt_of_lt_of_le (hF x hx).1 ho.size, (hF x hx).2⟩, D, ovals_below h1 hx.bel, h2, h3⟩
theorem SolF.chb (h : SolF w W F b N P c bv wv pv ov s) : ChAt W (· < W.heap.size) bv wv pv ov c := h.ch.keep (Same.refl _ _) fun x hx => (h.hF x hx).1
end
theorem osl_only {W W' : World} {b : Nat} {v : Value} {l : List Ost} (h : Sl 5 elOst W (fun x => x < W.heap.size ∧ x ≠ b) v l) (ho : Only b W W') : Sl 5 elOst W' (fun x => x < W'.heap.size ∧ x ≠ b) v l :=
  h.keep elOst_good (ho.same fun x hx => hx) fun x hx => ⟨Nat.lt_of_lt_of_le hx.1 ho.size, hx.2⟩
theorem next_cnt {c : Chs} (ht : OkT c) {s : Ost} (hs : OkOs c s) : (nextsO c s).1.length ≤ (if rankO c s % 2 = 1 then 6 else 16) := by
  have hp := ht.np
  have h1 := (nexts_law ht hs).2.1
  have h2 : vacO s = true → (nextsO c s).1.length ≤ 6 := fun hv => by
    unfold nextsO
    split
    · simp
    · have := sendsL_len s c.ord.length
      first | (show (sendsL s c.ord.length).length ≤ 6; omega) | (rw [if_pos hv]; show (sendsL s c.ord.length).length ≤ 6; omega)
  cases hv : vacO s
  · have : rankO c s % 2 = 0 := by unfold rankO; rw [hv]; simp
    rw [if_neg (by omega)]; exact h1
  · have : rankO c s % 2 = 1 := by unfold rankO; rw [hv]; simp
    rw [if_pos this]; exact h2 hv
set_option maxRecDepth 100000 in
set_option maxHeartbeats 8000000 in
theorem r45_fill_at (c : Chs) (ht : OkT c) (m : Nat) (ih : ∀ k, k < m → SolveO 59 c k) : SolveO 59 c m := by
  intro s hm hs bv wv pv ov F b N D w h hF hown hkn hN
  have hkey := okey_of (hs.smol ht)
  obtain ⟨z, hz⟩ : ∃ z, z = vO c s := ⟨_, rfl⟩
  have hz0 : 0 ≤ z ∧ z ≤ 281474976710656 := by rw [hz]; exact vO_48 ht hs
  have hit : Maps.has D (keyOs s) = true → D.atKey (keyOs s) (.lit (.int .i64 0)) = .lit (.int .i64 z) := fun hh => by rw [hz]; exact hkn s hs hh
  have hput : ∀ (D2 : DataW Unit), KnownO c D2 → IsMap D2 → GrewO D D2 → KnownO c (D2.put (keyOs s) (.lit (.int .i64 z))) ∧ GrewO D (D2.put (keyOs s) (.lit (.int .i64 z))) ∧ Maps.has (D2.put (keyOs s) (.lit (.int .i64 z))) (keyOs s) = true := fun D2 h1 h2 h3 => ⟨by rw [hz]; exact h1.put h2 ht hs, h3.trans (GrewO.put h2 s _), has_put_same h2 (okey_lit s) _⟩
  obtain ⟨K, hK1, hK2⟩ : ∃ K, ((m = 0 ∧ K = 0) ∨ (∃ k, m = k + 1 ∧ K = cntR k)) ∧ ∀ k, k < m → cntR k ≤ K := by
    cases m with
    | zero => exact ⟨0, .inl ⟨rfl, rfl⟩, fun k hk => by omega⟩
    | succ k => exact ⟨cntR k, .inr ⟨k, rfl, rfl⟩, fun j hj => cntR_mono (by omega)⟩
  have hfit := cnt_fit (N := N) hK1
  have hcnt := next_cnt ht hs
  rw [hm] at hcnt
  obtain ⟨A, ca, rfl, hc1, hc2⟩ := h.mdl.bat.shape
  obtain ⟨A1, ca1, rfl, hc3, hc4⟩ := h.mdl.bow.shape
  obtain ⟨A2, ca2, rfl, hc5, hc6⟩ := h.bow.shape
  obtain ⟨A3, ca3, rfl, hc7, hc8⟩ := h.ord.shape
  have hnew := SolF.new (s := s) (P := fun D' => GrewO D D' ∧ ∀ x ∈ ((nextsO c s).1.take 0), Maps.has D' (keyOs x) = true) h hF hown hkn ⟨GrewO.refl _, fun x hx => by cases hx⟩
  have kn := fun W (hW : ChAt W (· < W.heap.size) (.slice A c.mdl.bats.length ca) (.slice A1 c.mdl.bows.length ca1) (.slice A2 c.bows.length ca2) (.slice A3 c.ord.length ca3) c) => r45_nexts c ht s hs _ _ _ _ W hW
  have ksum := fun W N2 D2 (hW : ChAt W (· < W.heap.size) (.slice A c.mdl.bats.length ca) (.slice A1 c.mdl.bows.length ca1) (.slice A2 c.bows.length ca2) (.slice A3 c.ord.length ca3) c) (h1 : ValsO W b N2 D2) (h2 : KnownO c D2) (h3 : ∀ x ∈ (nextsO c s).1, Maps.has D2 (keyOs x) = true) => r45_sum c ht s hs _ _ _ _ b N2 D2 W hW h1 h2 h3
  have hmem : ∀ (k : Nat) (h1 : k < (nextsO c s).1.length), OkOs c (nextsO c s).1[k] ∧ rankO c (nextsO c s).1[k] < m := fun k h1 => by
    have h2 : k < (nextsO c s).2.length := by rw [← (nexts_law ht hs).1]; exact h1
    have h3 := (nexts_law ht hs).2.2.1 k h1 h2
    exact ⟨h3.ok, by rw [← hm]; exact h3.rank⟩
  have hv0 := (ovals_below hown (OSB.new w c (.slice A c.mdl.bats.length ca) (.slice A1 c.mdl.bows.length ca1) (.slice A2 c.bows.length ca2) (.slice A3 c.ord.length ca3) s).bel)
  rw [← hz] at ksum
  revert hcnt hnew kn ksum hmem
  generalize nextsO c s = r
  obtain ⟨l, ws⟩ := r
  intro hcnt hnew kn ksum hmem
  dsimp only at hcnt hnew kn ksum hmem
  have krec : ∀ (k : Nat) (hk : k < l.length) (D' : DataW Unit) (N' : Nat) (W : World), ChAt W F (.slice A c.mdl.bats.length ca) (.slice A1 c.mdl.bows.length ca1) (.slice A2 c.bows.length ca2) (.slice A3 c.ord.length ca3) c → (∀ x, F x → x < W.heap.size ∧ x ≠ b) → ValsO W b N' D' → KnownO c D' → N' + K ≤ 2000000000000000000 →
      Calls Tryz.prog 59 #[chV c (.slice A c.mdl.bats.length ca) (.slice A1 c.mdl.bows.length ca1) (.slice A2 c.bows.length ca2) (.slice A3 c.ord.length ca3), osV l[k], .map (some b)] W fun e w2 => e = .returned (.int .i64 (vO c l[k])) ∧ Only b W w2 ∧ ∃ D7, ValsO w2 b (N' + K) D7 ∧ KnownO c D7 ∧ GrewO D' D7 ∧ Maps.has D7 (keyOs l[k]) = true := fun k hk D' N' W h1 h2 h3 h4 h5 => by
    have h6 := hK2 _ (hmem k hk).2
    refine (ih _ (hmem k hk).2 l[k] rfl (hmem k hk).1 _ _ _ _ F b N' D' W h1 h2 h3 h4 (by omega)).mono ?_
    rintro e w2 ⟨a1, a2, D7, a3, a4, a5, a6⟩
    exact ⟨a1, a2, D7, a3.mono (by omega), a4, a5, a6⟩
  have htk : ∀ (k : Nat) (hk : k < l.length) (x : Ost), x ∈ l.take (k + 1) → x ∈ l.take k ∨ x = l[k] := fun k hk x hx => by
    rw [List.take_add_one, List.getElem?_eq_getElem hk] at hx
    rcases List.mem_append.1 hx with hx | hx
    · exact .inl hx
    · exact .inr (by simpa using hx)
  obtain ⟨CC, hCC⟩ : ∃ q, q = cntR m := ⟨_, rfl⟩
  rw [← hCC] at hfit hN ⊢
  have hl16 : l.length ≤ 16 := by
    revert hcnt
    split <;> omega
  have hlK : l.length * K + 1 ≤ CC := by
    have := Nat.mul_le_mul_right K hcnt
    omega
  rw [← hz]
  unfold chV osV at kn ksum krec
  unfold chV osV
  have HPUT := Lib.hid hput
  have HKN := Lib.hid hkn
  have HV0 := Lib.hid hv0
  have HW := Lib.hid hnew
  cases hh : Maps.has D (keyOs s)
  case true =>
    have HIT := Lib.hid (hit hh)
    have HH := Lib.hid hh
    obtain ⟨ball, need, str, par, wait⟩ := s
    unfold osV at hkey
    dsimp only at hkey ⊢
    have HKEY := Lib.hid hkey
    have hN7 : N ≤ N + CC := by omega
    clear hkey hit hput hkn ih hz hs hm hK1 hK2 hfit hCC hnew hv0 hown h hF ht hN hcnt kn ksum hmem krec htk hlK
    go_enter Tryz.func59, Tryz.ntmps59
    go_wp2_with (at_lookup; refine wpList_lookup_own_ok_int _ rfl _ _ 93 rfl 53 2 .i64 law45 Tryz.underlying93 Tryz.underlying2 (zero_i64 _) b N D rfl HV0.out _ _ rfl HKEY.out ?_; intro cc hat hwc; have HC := Lib.hid (show cc = z from by have := hat.symm.trans HIT.out; injection this with this; injection this); clear hat hwc)
    go_ret
    exact ⟨ret_i HC.out, HW.out.only, D, HV0.out.mono hN7, HKN.out, GrewO.refl _, HH.out⟩
  case false =>
    have KN := Lib.hid kn
    have KSUM := Lib.hid ksum
    have KREC := Lib.hid krec
    have HTK := Lib.hid htk
    obtain ⟨ball, need, str, par, wait⟩ := s
    unfold osV at hkey
    dsimp only at hkey KN KSUM ⊢
    have HKEY := Lib.hid hkey
    obtain ⟨y0, y1, y2, y3, y4, y5, y6, t0, t1, t2, t3, t4⟩ := HW.out.cells; dsimp only at t0 t1 t2 t3 t4; 
    have tok0 : True := trivial
    clear hkey hit hput hkn ih hz hs hm hK1 hK2 hfit hCC hnew hv0 hown h hF ht hcnt kn ksum hmem krec htk y0 y1 y2 y3 y4 y5 y6 t0 t1 t2 t3 t4
    go_enter Tryz.func59, Tryz.ntmps59
    go_wp2_with (first
      | (at_lookup; refine wpList_lookup_own_ok_int _ rfl _ _ 93 rfl 53 2 .i64 law45 Tryz.underlying93 Tryz.underlying2 (zero_i64 _) b N D rfl HV0.out _ _ rfl HKEY.out ?_; intro cc hat hwc; clear hat hwc)
      | (clear tok0; go_at_call 98; refine (KN.out _ HW.out.chb).mono ?_; rintro e w2 ⟨A4, n4, k4, A5, n5, k5, rfl, hb3, hs3, hs4⟩; obtain ⟨Az, kz, hze, hz1, hz2⟩ := hs3.shape; have hn4 : n4 = l.length := (by injection hze); subst hn4; have HW2 := Lib.hid (HW.out.below hb3); have HL2 := Lib.hid (hs3.keep (G := fun x => x < w2.heap.size ∧ x ≠ b) elOst_good (Same.refl _ _) fun x hx => ⟨hx.2, by have := HW.out.blt; have := HW.out.only.size; omega⟩); obtain ⟨y0, y1, y2, y3, y4, y5, y6, t0, t1, t2, t3, t4⟩ := HW2.out.cells; dsimp only at t0 t1 t2 t3 t4; clear hb3 hs3 hs4 hze hz1 hz2; have tok1 : True := trivial))
    go_loopw [31] (fun i wr => ∃ (k : Nat), k ≤ l.length ∧ i = .int .i64 k ∧ Hid (SolF w wr F b (N + k * K) (fun D' => GrewO D D' ∧ ∀ x ∈ (l.take k), Maps.has D' (keyOs x) = true) c (.slice A c.mdl.bats.length ca) (.slice A1 c.mdl.bows.length ca1) (.slice A2 c.bows.length ca2) (.slice A3 c.ord.length ca3) ⟨ball, need, str, par, wait⟩) ∧ Hid (Sl 5 elOst wr (fun x => x < wr.heap.size ∧ x ≠ b) (.slice A4 l.length k4) l)) (fun i _ => l.length - (intOf i).toNat)
    case atStart => exact ⟨0, Nat.zero_le _, rfl, Lib.hid (by rw [Nat.zero_mul]; exact HW2.out), HL2⟩
    case round =>
      clear y0 y1 y2 y3 y4 y5 y6 t0 t1 t2 t3 t4 HW2 HL2
      obtain ⟨k, hk, rfl, HS, HL⟩ := hrel
      obtain ⟨y0, y1, y2, y3, y4, y5, y6, t0, t1, t2, t3, t4⟩ := HS.out.cells; dsimp only at t0 t1 t2 t3 t4; 
      have hl1 := HS.out.box.lt
      have hl2 := HS.out.st.lt
      by_cases hlt : k < l.length
      · obtain ⟨b0, o, rfl, hbl, g0, g1, g2, g3, g4⟩ := ost_at HL.out hlt
        have kR := KREC.out k hlt
        have hT := HTK.out k hlt
        obtain ⟨⟨q0, q1, q2, q3, q4⟩, hx⟩ : ∃ x, x = l[k] := ⟨_, rfl⟩
        rw [← hx] at g0 g1 g2 g3 g4
        simp only [← hx] at kR hT
        obtain ⟨vv, hvv⟩ : ∃ x, x = vO c ⟨q0, q1, q2, q3, q4⟩ := ⟨_, rfl⟩
        simp only [← hvv] at kR
        dsimp only at g0 g1 g2 g3 g4 kR
        have hkK : N + k * K + K ≤ 2000000000000000000 := by have := Nat.mul_le_mul_right K (show k + 1 ≤ l.length by omega); rw [Nat.add_mul, Nat.one_mul] at this; omega
        have KR := Lib.hid kR
        have HT := Lib.hid hT
        have HSA := Lib.hid (HS.out.alloc (.cells #[.int .i64 q0, .int .i64 q1, .int .i64 q2, .int .i64 q3, .int .u16 q4] 53))
        have HLA := Lib.hid (osl_only HL.out (Only.of_below (g := b) (Below.alloc (Below.refl wr.heap.size wr) (Nat.le_refl _) (.cells #[.int .i64 q0, .int .i64 q1, .int .i64 q2, .int .i64 q3, .int .u16 q4] 53))))
        clear kR hT hx hvv
        have tok5 : True := trivial
        go_wp2_with (clear tok5; go_at_call 59; obtain ⟨D5, hv5, hk5, hg5⟩ := HSA.out.vals; refine (KR.out D5 _ _ HSA.out.ch HSA.out.hF hv5 hk5 hkK).mono ?_; rintro e w6 ⟨rfl, ho6, hv6⟩; have HS6 := Lib.hid (show SolF w w6 F b (N + (k + 1) * K) (fun D' => GrewO D D' ∧ ∀ x ∈ (l.take (k + 1)), Maps.has D' (keyOs x) = true) c (.slice A c.mdl.bats.length ca) (.slice A1 c.mdl.bows.length ca1) (.slice A2 c.bows.length ca2) (.slice A3 c.ord.length ca3) ⟨ball, need, str, par, wait⟩ from HSA.out.into ho6 (by obtain ⟨D7, h1, h2, h3, h4⟩ := hv6; exact ⟨D7, h1.mono (by rw [Nat.add_mul]; omega), h2, hg5.1.trans h3, fun x hx => by rcases HT.out x hx with h | h; exact h3 x (hg5.2 x h); rw [h]; exact h4⟩)); have HL6 := Lib.hid (osl_only HLA.out ho6); clear y0 y1 y2 y3 y4 y5 y6 t0 t1 t2 t3 t4; clear ho6 hv6 hv5 hk5 hg5 hl1 hl2; have tok7 : True := trivial)
        go_roundw
        case rel => exact ⟨k + 1, by omega, by go_num, HS6, HL6⟩
        case measure => simp [intOf]; omega
      · obtain rfl : k = l.length := by omega
        obtain ⟨D2, hv9, hk9, hg9⟩ := HS.out.vals
        rw [List.take_of_length_le (Nat.le_refl _)] at hg9
        obtain ⟨NN, hNN⟩ : ∃ q, q = N + l.length * K := ⟨_, rfl⟩
        rw [← hNN] at hv9
        have hN9 : NN + 1 ≤ N + CC := by have := hlK; omega
        have hN8 : NN < 2000000000000000000 := by have := hlK; omega
        have HV8 := Lib.hid hv9
        have HK9 := Lib.hid hk9
        have HG8 := Lib.hid hg9
        clear hv9 hk9 hg9 hNN hN hlK
        have tok5 : True := trivial
        go_wp2_with (first
          | (clear tok5; go_at_call 73; refine (KSUM.out _ NN D2 HS.out.chb HV8.out HK9.out HG8.out.2).mono ?_; rintro e w6 ⟨rfl, hb6⟩; have HS6 := Lib.hid (HS.out.below hb6); have HV9 := Lib.hid (ovals_below HV8.out hb6); clear y0 y1 y2 y3 y4 y5 y6 t0 t1 t2 t3 t4; obtain ⟨y0, y1, y2, y3, y4, y5, y6, t0, t1, t2, t3, t4⟩ := HS6.out.cells; dsimp only at t0 t1 t2 t3 t4; clear hb6 hl1 hl2; have tok6 : True := trivial)
          | (at_mapUpdate; refine wpList_mapUpdate_own _ rfl _ _ _ 93 rfl 53 2 law45 Tryz.underlying93 _ b NN D2 rfl HV9.out (by unfold maxLen; omega) _ _ _ rfl rfl HKEY.out _ [] (plainElem_int Tryz.underlying2 (WalkArith.wf_i64 (by omega))) ?_; intro w9 hown9 hgrow9; have HG9 := Lib.hid hgrow9; have HO9 := Lib.hid hown9; clear hgrow9 hown9))
        go_ret
        exact ⟨rfl, HS6.out.only.trans HG9.out, _, HO9.out.mono hN9, HPUT.out _ HK9.out HV9.out.isMap HG8.out.1⟩
theorem r45_fill (c : Chs) (ht : OkT c) (m : Nat) : SolveO 59 c m :=
  Nat.strongRecOn m fun m ih => r45_fill_at c ht m ih
end Go.Proofs.YtfnfbojaiikigaaGreatDoor

namespace Go.Proofs.YtfnfbojaiikigaaGreatDoor
open Go.RowKit Go.Maps

theorem cntR16 : cntR 16 ≤ 20000000000000000 := by decide
theorem rank16 {c : Chs} {s : Ost} (ht : OkT c) (h : OkOs c s) (hv : vacO s = false) : rankO c s ≤ 16 := by
  have := ht.nb; have := h.ball
  unfold rankO leftO
  rw [hv]; simp; omega
/-- A valuing function, with one bound for all states in which both ends are taken. -/
def SolveK (f : FuncId) (c : Chs) : Prop := ∀ (s : Ost), OkOs c s → vacO s = false → ∀ (bv wv pv ov : Value) (F : Nat → Prop) (b N : Nat) (D : DataW Unit) (w : World), ChAt w F bv wv pv ov c → (∀ x, F x → x < w.heap.size ∧ x ≠ b) → ValsO w b N D → KnownO c D → N + cntR 16 ≤ 2000000000000000000 →
  Calls Tryz.prog f #[chV c bv wv pv ov, osV s, .map (some b)] w fun e w' => e = .returned (.int .i64 (vO c s)) ∧ Only b w w' ∧ ∃ D', ValsO w' b (N + cntR 16) D' ∧ KnownO c D'
theorem solveK_of {f : FuncId} {c : Chs} (ht : OkT c) (h : ∀ m, SolveO f c m) : SolveK f c := fun s hs hv bv wv pv ov F b N D w h1 h2 h3 h4 h5 => by
  have hr := cntR_mono (rank16 ht hs hv)
  refine (h _ s rfl hs bv wv pv ov F b N D w h1 h2 h3 h4 (by omega)).mono ?_
  rintro e w2 ⟨a1, a2, D7, a3, a4, _, _⟩
  exact ⟨a1, a2, D7, a3.mono (by omega), a4⟩
/-- A task and a state boxed, a map of the frame's own behind them. -/
structure SndO (w W : World) (b N : Nat) (c : Chs) (bv wv pv ov : Value) (s : Ost) : Prop where
  base : OSB w W w.heap.size c bv wv pv ov s
  hb : w.heap.size + 1 < b
  vals : ∃ D, ValsO W b N D ∧ KnownO c D
section
variable {w W W' : World} {b N N' : Nat} {c : Chs} {bv wv pv ov : Value} {s : Ost}
theorem SndO.below (h : SndO w W b N c bv wv pv ov s) (hb : Below W.heap.size W W') : SndO w W' b N c bv wv pv ov s := ⟨h.base.below hb, h.hb, let ⟨D, h1, h2⟩ := h.vals; ⟨D, ovals_below h1 hb, h2⟩⟩
theorem SndO.drew (h : SndO w W b N c bv wv pv ov s) : SndO w W.drew b N c bv wv pv ov s := h.below (Below.drew (Below.refl _ _))
theorem SndO.into (h : SndO w W b N c bv wv pv ov s) (ho : Only b W W') (hv : ∃ D, ValsO W' b N' D ∧ KnownO c D) : SndO w W' b N' c bv wv pv ov s := by
  have hbb := h.hb
  exact ⟨⟨h.base.bel.trans (ho.below (by omega) h.base.bel.size), h.base.box.grown ho (by intro e; injection e with e; omega), h.base.st.grown ho (by intro e; injection e with e; omega)⟩, h.hb, hv⟩
theorem SndO.cells (h : SndO w W b N c bv wv pv ov s) : W.cell? ⟨w.heap.size, 0, none⟩ = some bv ∧ W.cell? ⟨w.heap.size, 1, none⟩ = some wv ∧ W.cell? ⟨w.heap.size, 2, none⟩ = some pv ∧ W.cell? ⟨w.heap.size, 3, none⟩ = some (.int .i64 c.over) ∧ W.cell? ⟨w.heap.size, 4, none⟩ = some (.int .i64 c.done) ∧ W.cell? ⟨w.heap.size, 5, none⟩ = some (.int .i64 c.need) ∧ W.cell? ⟨w.heap.size, 6, none⟩ = some ov ∧
    W.cell? ⟨w.heap.size + 1, 0, none⟩ = some (.int .i64 s.ball) ∧ W.cell? ⟨w.heap.size + 1, 1, none⟩ = some (.int .i64 s.need) ∧ W.cell? ⟨w.heap.size + 1, 2, none⟩ = some (.int .i64 s.str) ∧ W.cell? ⟨w.heap.size + 1, 3, none⟩ = some (.int .i64 s.par) ∧ W.cell? ⟨w.heap.size + 1, 4, none⟩ = some (.int .u16 s.wait) := h.base.cells
theorem SndO.new (h : OSB w W w.heap.size c bv wv pv ov s) : SndO w (W.alloc (.map #[] 0)) W.heap.size 0 c bv wv pv ov s :=
  ⟨h.below (Below.alloc (Below.refl _ _) (Nat.le_refl _) _), h.st.lt, _, World.ownsMap_made W _ _ _, KnownO.none c⟩
theorem SndO.le (h : SndO w W b N c bv wv pv ov s) (hN : N ≤ N') : SndO w W b N' c bv wv pv ov s := ⟨h.base, h.hb, let ⟨D, h1, h2⟩ := h.vals; ⟨D, h1.mono hN, h2⟩⟩
end
end Go.Proofs.YtfnfbojaiikigaaGreatDoor

namespace Go.Proofs.YtfnfbojaiikigaaGreatDoor
open Go.RowKit Go.Maps

/-- A task boxed, the result's cells behind it. -/
structure Bs0 (w W : World) (c : Chs) (bv wv pv ov : Value) : Prop where
  bel : Below w.heap.size w W
  box : Blk W w.heap.size 50 #[bv, wv, pv, .int .i64 c.over, .int .i64 c.done, .int .i64 c.need, ov]
  res : Blk W (w.heap.size + 1) 68 #[.int .i64 0, .int .i64 0]
section
variable {w W W' : World} {c : Chs} {bv wv pv ov : Value}
theorem Bs0.below (h : Bs0 w W c bv wv pv ov) (hb : Below W.heap.size W W') : Bs0 w W' c bv wv pv ov := ⟨h.bel.trans (hb.mono h.bel.size), h.box.below hb h.box.lt, h.res.below hb h.res.lt⟩
theorem Bs0.cell7 (h : Bs0 w W c bv wv pv ov) : W.cell? ⟨w.heap.size, 0, none⟩ = some bv ∧ W.cell? ⟨w.heap.size, 1, none⟩ = some wv ∧ W.cell? ⟨w.heap.size, 2, none⟩ = some pv ∧ W.cell? ⟨w.heap.size, 3, none⟩ = some (.int .i64 c.over) ∧ W.cell? ⟨w.heap.size, 4, none⟩ = some (.int .i64 c.done) ∧ W.cell? ⟨w.heap.size, 5, none⟩ = some (.int .i64 c.need) ∧ W.cell? ⟨w.heap.size, 6, none⟩ = some ov :=
  ⟨h.box.cell 0, h.box.cell 1, h.box.cell 2, h.box.cell 3, h.box.cell 4, h.box.cell 5, h.box.cell 6⟩
theorem Bs0.rcell (h : Bs0 w W c bv wv pv ov) : W.cell? ⟨w.heap.size + 1, 0, none⟩ = some (.int .i64 0) ∧ W.cell? ⟨w.heap.size + 1, 1, none⟩ = some (.int .i64 0) ∧ W.frozen? ⟨w.heap.size + 1, 0, none⟩ = false ∧ W.frozen? ⟨w.heap.size + 1, 1, none⟩ = false := ⟨h.res.cell 0, h.res.cell 1, h.res.frozen 0, h.res.frozen 1⟩
theorem Bs0.new (w : World) (c : Chs) (bv wv pv ov : Value) : Bs0 w ((w.alloc (.cells #[bv, wv, pv, .int .i64 c.over, .int .i64 c.done, .int .i64 c.need, ov] 50)).alloc (.cells #[.int .i64 0, .int .i64 0] 68)) c bv wv pv ov := by
  have h1 := Blk.new w 50 #[bv, wv, pv, .int .i64 c.over, .int .i64 c.done, .int .i64 c.need, ov]
  exact ⟨below_two w _ _, h1.alloc _, blk_two w _ _ _⟩
theorem Blk.put2 {w : World} {g : Nat} {t : TypeId} {a b : Value} (h : Blk w g t #[a, b]) (x0 x1 : Value) : Blk ((w.setCell ⟨g, 0, none⟩ x0).setCell ⟨g, 1, none⟩ x1) g t #[x0, x1] := (h.set_ 0 x0).set_ 1 x1
theorem below_put2 {B : Nat} {a w : World} (h : Below B a w) {g : Nat} (hg : B ≤ g) (x0 x1 : Value) : Below B a ((w.setCell ⟨g, 0, none⟩ x0).setCell ⟨g, 1, none⟩ x1) := Below.setCell (Below.setCell h hg x0) hg x1
end
/-- Besides: a map in block b, the pair in block b + 1. -/
structure BstO (w W : World) (b N : Nat) (c : Chs) (bv wv pv ov : Value) (p q : Int) : Prop where
  base : Bs0 w W c bv wv pv ov
  hb : w.heap.size + 1 < b
  pair : Blk W (b + 1) 68 #[.int .i64 p, .int .i64 q]
  vals : ∃ D, ValsO W b N D ∧ KnownO c D
section
variable {w W W' : World} {b N N' : Nat} {c : Chs} {bv wv pv ov : Value} {p q : Int}
theorem BstO.below (h : BstO w W b N c bv wv pv ov p q) (hb : Below W.heap.size W W') : BstO w W' b N c bv wv pv ov p q := ⟨h.base.below hb, h.hb, h.pair.below hb h.pair.lt, let ⟨D, h1, h2⟩ := h.vals; ⟨D, ovals_below h1 hb, h2⟩⟩
theorem BstO.drew (h : BstO w W b N c bv wv pv ov p q) : BstO w W.drew b N c bv wv pv ov p q := h.below (Below.drew (Below.refl _ _))
theorem BstO.into (h : BstO w W b N c bv wv pv ov p q) (ho : Only b W W') (hv : ∃ D, ValsO W' b N' D ∧ KnownO c D) : BstO w W' b N' c bv wv pv ov p q := by
  have hbb := h.hb
  exact ⟨⟨h.base.bel.trans (ho.below (by omega) h.base.bel.size), h.base.box.grown ho (by intro e; injection e with e; omega), h.base.res.grown ho (by intro e; injection e with e; omega)⟩, h.hb, h.pair.grown ho (by intro e; injection e with e; omega), hv⟩
theorem BstO.cell7 (h : BstO w W b N c bv wv pv ov p q) : W.cell? ⟨w.heap.size, 0, none⟩ = some bv ∧ W.cell? ⟨w.heap.size, 1, none⟩ = some wv ∧ W.cell? ⟨w.heap.size, 2, none⟩ = some pv ∧ W.cell? ⟨w.heap.size, 3, none⟩ = some (.int .i64 c.over) ∧ W.cell? ⟨w.heap.size, 4, none⟩ = some (.int .i64 c.done) ∧ W.cell? ⟨w.heap.size, 5, none⟩ = some (.int .i64 c.need) ∧ W.cell? ⟨w.heap.size, 6, none⟩ = some ov := h.base.cell7
theorem BstO.pcell (h : BstO w W b N c bv wv pv ov p q) : W.cell? ⟨b + 1, 0, none⟩ = some (.int .i64 p) ∧ W.cell? ⟨b + 1, 1, none⟩ = some (.int .i64 q) ∧ W.frozen? ⟨b + 1, 0, none⟩ = false ∧ W.frozen? ⟨b + 1, 1, none⟩ = false := ⟨h.pair.cell 0, h.pair.cell 1, h.pair.frozen 0, h.pair.frozen 1⟩
theorem BstO.stored (h : BstO w W b N c bv wv pv ov p q) (p' q' : Int) : BstO w ((W.setCell ⟨b + 1, 0, none⟩ (.int .i64 p')).setCell ⟨b + 1, 1, none⟩ (.int .i64 q')) b N c bv wv pv ov p' q' := by
  have hbb := h.hb
  have n1 : w.heap.size ≠ b + 1 := by omega
  have n2 : w.heap.size + 1 ≠ b + 1 := by omega
  have hle : Below (b + 1) W ((W.setCell ⟨b + 1, 0, none⟩ (.int .i64 p')).setCell ⟨b + 1, 1, none⟩ (.int .i64 q')) := below_put2 (Below.refl _ _) (Nat.le_refl _) _ _
  exact ⟨⟨below_put2 h.base.bel (by omega) _ _, (h.base.box.far (p := ⟨b + 1, 0, none⟩) n1 _).far (p := ⟨b + 1, 1, none⟩) n1 _, (h.base.res.far (p := ⟨b + 1, 0, none⟩) n2 _).far (p := ⟨b + 1, 1, none⟩) n2 _⟩, h.hb, h.pair.put2 _ _, let ⟨D, h1, h2⟩ := h.vals; ⟨D, h1.kept (Only.setCell (Only.setCell (Only.refl (b + 1) W) (.inl rfl) _) (.inl rfl) _) (by simp), h2⟩⟩
theorem BstO.le (h : BstO w W b N c bv wv pv ov p q) (hN : N ≤ N') : BstO w W b N' c bv wv pv ov p q := ⟨h.base, h.hb, h.pair, let ⟨D, h1, h2⟩ := h.vals; ⟨D, h1.mono hN, h2⟩⟩
theorem BstO.new (h : Bs0 w W c bv wv pv ov) (p q : Int) : BstO w ((W.alloc (.map #[] 0)).alloc (.cells #[.int .i64 p, .int .i64 q] 68)) W.heap.size 0 c bv wv pv ov p q := by
  have hm : ValsO (W.alloc (.map #[] 0)) W.heap.size 0 (.map []) := World.ownsMap_made W _ _ _
  exact ⟨h.below (below_two W _ _), h.res.lt, blk_two W _ _ _, _, ovals_below hm (Below.alloc (Below.refl _ _) (Nat.le_refl _) _), KnownO.none c⟩
end
theorem or_Best_ret {R' : Ending → World → Prop} {a : Act} {w : World} {x0 x1 v3 v4 : Value} {g : Nat} (h2 : a.tmps[2]? = some (.pointer (some ⟨g, 0, none⟩))) (h3 : a.tmps[3]? = some v3) (h4 : a.tmps[4]? = some v4) (hb : Blk w g 68 #[x0, x1])
    (hd : a.defers = []) (hR : R' (.returned (.tuple #[.agg #[x0, x1], v3, v4])) w) : bodyPost Tryz.prog Tryz.f33 R' .ret a w := by
  have r0 := hb.cell 0
  have r1 := hb.cell 1
  simp only [List.getElem?_toArray, List.getElem?_cons_zero, List.getElem?_cons_succ] at r0 r1
  refine bodyPost_ret (v := .tuple #[.agg #[x0, x1], v3, v4]) (by simp [results, Tryz.results33, go_sem, h2, h3, h4, r0, r1]) hd hR
set_option maxRecDepth 100000 in
set_option maxHeartbeats 6000000 in
theorem or_Best (c : Chs) (bv wv pv ov : Value) (w : World) (h : ChAt w (· < w.heap.size) bv wv pv ov c) :
    Calls Tryz.prog 33 #[chV c bv wv pv ov] w fun e w' => e = .returned (.tuple #[.agg #[.int .i64 (bestOS c).1.1, .int .i64 (bestOS c).1.2], .int .i64 (bestOS c).2.1, .int .i64 (bestOS c).2.2]) ∧ Below w.heap.size w w' := by
  unfold chV
  obtain ⟨A, ca, rfl, hc1, hc2⟩ := h.mdl.bat.shape
  obtain ⟨A1, ca1, rfl, hc3, hc4⟩ := h.mdl.bow.shape
  obtain ⟨A2, ca2, rfl, hc5, hc6⟩ := h.bow.shape
  obtain ⟨A3, ca3, rfl, hc7, hc8⟩ := h.ord.shape
  have HX := Lib.hid (Bs0.new w c (.slice A c.mdl.bats.length ca) (.slice A1 c.mdl.bows.length ca1) (.slice A2 c.bows.length ca2) (.slice A3 c.ord.length ca3))
  have HM := Lib.hid h
  obtain ⟨z, hz⟩ : ∃ z, z = bestOS c := ⟨_, rfl⟩
  rw [← hz]
  unfold bestOS at hz
  have k1 := fun W (hW : Below w.heap.size w W) => or_Check c _ _ _ _ W (HM.out.below hW)
  skip
  unfold chV at k1
  obtain ⟨u, hu⟩ : ∃ u, u = checkO c := ⟨_, rfl⟩
  rw [← hu] at k1 hz
  have K1 := Lib.hid k1
  have tok0 : True := trivial
  have hmm := @run_makeMap Tryz.prog
  by_cases h0 : u = 0
  case neg =>
    rw [if_pos h0] at hz
    have HZ := Lib.hid hz
    have eu : (u != 0) = true := by simp [h0]
    clear hz h0 k1 hu h
    go_enter Tryz.func33, Tryz.ntmps33
    go_wp2_with (clear tok0; go_at_call 21; refine (K1.out _ HX.out.bel).mono ?_; rintro e w2 ⟨rfl, hb2⟩; have HX2 := Lib.hid (HX.out.below hb2); obtain ⟨x0, x1, x2, x3, x4, x5, x6⟩ := HX2.out.cell7; obtain ⟨z0, z1, zf0, zf1⟩ := HX2.out.rcell; have hl1 := HX2.out.box.lt; have hl2 := HX2.out.res.lt; clear hb2; have tok1 : True := trivial)
    refine or_Best_ret rfl rfl rfl (HX2.out.res.put2 _ _) rfl ⟨by rw [HZ.out] <;> rfl, ?_⟩
    exact below_put2 HX2.out.bel (by omega) _ _
  rw [if_neg (by omega)] at hz
  have eu : (u != 0) = false := by simp [h0]
  have ht := okT_of (c := c) (by omega)
  rw [bestS_same ht (0, 0) (0, 0)] at hz
  have hnp := ht.np
  have kop := fun (a b : Nat) (ha : a < c.ord.length) (hb : b < c.ord.length) W (hW : Below w.heap.size w W) => or_opened c a b _ _ _ _ W (HM.out.below hW) ht ha hb
  have ksol : ∀ (i j : Nat) (hi : i < c.ord.length) (hj : j < c.ord.length) (hne : i ≠ j) (W : World) (b N : Nat) (p q : Int) (hW : BstO w W b N c (.slice A c.mdl.bats.length ca) (.slice A1 c.mdl.bows.length ca1) (.slice A2 c.bows.length ca2) (.slice A3 c.ord.length ca3) p q) (hN : N + cntR 16 ≤ 2000000000000000000), Calls Tryz.prog 58 #[chV c (.slice A c.mdl.bats.length ca) (.slice A1 c.mdl.bows.length ca1) (.slice A2 c.bows.length ca2) (.slice A3 c.ord.length ca3), osV (openO c i j), .map (some b)] W fun e W' => e = .returned (.int .i64 (vO c (openO c i j))) ∧ BstO w W' b (N + cntR 16) c (.slice A c.mdl.bats.length ca) (.slice A1 c.mdl.bows.length ca1) (.slice A2 c.bows.length ca2) (.slice A3 c.ord.length ca3) p q ∧ Only b W W' := fun i j hi hj hne W b N p q hW hN => by
    obtain ⟨q1, q2, _⟩ := openO_ok ht hi hj hne
    obtain ⟨D, d1, d2⟩ := hW.vals
    have hbb := hW.hb
    refine (solveK_of ht (or_solve c ht) (openO c i j) q1 q2 _ _ _ _ (· < w.heap.size) b N D W (HM.out.keep (Same.of_below hW.base.bel) fun _ h => h) (fun x hx => ⟨Nat.lt_of_lt_of_le hx hW.base.bel.size, by have : x < w.heap.size := hx; omega⟩) d1 d2 hN).mono ?_
    rintro e W' ⟨a1, a2, a3⟩
    exact ⟨a1, hW.into a2 a3, a2⟩
  have hvb : ∀ (i j : Nat) (hi : i < c.ord.length) (hj : j < c.ord.length) (hne : i ≠ j), 0 ≤ vO c (openO c i j) ∧ vO c (openO c i j) ≤ 281474976710656 := fun i j hi hj hne => vO_48 ht (openO_ok ht hi hj hne).1
  unfold bestS at hz
  obtain ⟨f, hf⟩ : ∃ f : Int → Int → Int, f = fun a b => vO c (openO c a b) := ⟨_, rfl⟩
  have hfe : ∀ i j : Nat, vO c (openO c i j) = f i j := fun i j => by rw [hf]
  rw [← hf] at hz
  simp only [hfe] at ksol hvb
  have hrow : ∀ (a b : Nat) (r : (Int × Int) × Int), rowB f a (b + 1) r = if a = b then rowB f a b r else if (rowB f a b r).2 < f a b then (((a : Int), (b : Int)), f a b) else rowB f a b r := fun a b r => by rw [rowB]
  have hall : ∀ (a : Nat), allB f c.ord.length (a + 1) ((0, 0), -1) = rowB f a c.ord.length (allB f c.ord.length a ((0, 0), -1)) := fun a => by rw [allB]
  have hK := cntR16
  obtain ⟨K, hKe⟩ : ∃ K, K = cntR 16 := ⟨_, rfl⟩
  rw [← hKe] at ksol hK
  unfold chV at kop
  unfold chV at ksol
  have HROW := Lib.hid hrow
  have HALL := Lib.hid hall
  have HVB := Lib.hid hvb
  have KOP := Lib.hid kop
  have KSOL := Lib.hid ksol
  have HZ := Lib.hid hz
  obtain ⟨hnp1, hnp2⟩ := hnp
  clear hz h0 k1 hu h ht kop ksol hvb hrow hall hKe hfe hf
  go_enter Tryz.func33, Tryz.ntmps33
  go_wp2_with (clear tok0; go_at_call 21; refine (K1.out _ HX.out.bel).mono ?_; rintro e w2 ⟨rfl, hb2⟩; have HX2 := Lib.hid (HX.out.below hb2); obtain ⟨x0, x1, x2, x3, x4, x5, x6⟩ := HX2.out.cell7; obtain ⟨z0, z1, zf0, zf1⟩ := HX2.out.rcell; have hl1 := HX2.out.box.lt; have hl2 := HX2.out.res.lt; clear hb2; have tok1 : True := trivial)
  go_loopw [8, 23] (fun mo i wr => ∃ (a : Nat) (p q m : Int), a ≤ c.ord.length ∧ i = .int .i64 a ∧ mo = .int .i64 m ∧ -1 ≤ m ∧ m ≤ 281474976710656 ∧ Hid (BstO w wr w2.heap.size (a * 6 * K) c (.slice A c.mdl.bats.length ca) (.slice A1 c.mdl.bows.length ca1) (.slice A2 c.bows.length ca2) (.slice A3 c.ord.length ca3) p q) ∧ Hid (((p, q), m) = allB f c.ord.length a ((0, 0), -1))) (fun _ i _ => c.ord.length - (intOf i).toNat)
  case atStart => exact ⟨0, 0, 0, -1, Nat.zero_le _, rfl, rfl, by omega, by omega, Lib.hid (by first | (rw [Nat.zero_mul]; exact BstO.new HX2.out 0 0) | (rw [Nat.zero_mul, Nat.zero_mul]; exact BstO.new HX2.out 0 0)), Lib.hid rfl⟩
  case round =>
    clear x0 x1 x2 x3 x4 x5 x6 z0 z1 zf0 zf1 hl1 hl2
    obtain ⟨a, p, q, m, ha, rfl, rfl, hm0, hm1, HS, hss⟩ := hrel
    obtain ⟨x0, x1, x2, x3, x4, x5, x6⟩ := HS.out.cell7; 
    obtain ⟨wo, hwo⟩ : ∃ wo : World, wo = wr := ⟨_, rfl⟩
    subst hwo
    by_cases hat : a < c.ord.length
    · have hA := HALL.out a
      rw [← hss.out] at hA
      obtain ⟨R, hR⟩ : ∃ R : (Int × Int) × Int, R = ((p, q), m) := ⟨_, rfl⟩
      rw [← hR] at hA
      have HA := Lib.hid hA
      have HR := Lib.hid (show ((p, q), m) = rowB f a 0 R by rw [hR]; rfl)
      clear hA hR hss
      go_wp2
      go_loopw [8, 29] (fun mo i wr => ∃ (b : Nat) (p q m : Int), b ≤ c.ord.length ∧ i = .int .i64 b ∧ mo = .int .i64 m ∧ -1 ≤ m ∧ m ≤ 281474976710656 ∧ Hid (BstO w wr w2.heap.size ((a * 6 + b) * K) c (.slice A c.mdl.bats.length ca) (.slice A1 c.mdl.bows.length ca1) (.slice A2 c.bows.length ca2) (.slice A3 c.ord.length ca3) p q) ∧ Hid (((p, q), m) = rowB f a b R)) (fun _ i _ => c.ord.length - (intOf i).toNat)
      case atStart => exact ⟨0, p, q, m, Nat.zero_le _, rfl, rfl, hm0, hm1, HS, HR⟩
      case round =>
        clear x0 x1 x2 x3 x4 x5 x6 HS HR
        obtain ⟨b, p, q, m, hb, rfl, rfl, hm0, hm1, HS, hss⟩ := hrel
        obtain ⟨x0, x1, x2, x3, x4, x5, x6⟩ := HS.out.cell7; 
        by_cases hbt : b < c.ord.length
        · have hst := HROW.out a b R
          rw [← hss.out] at hst
          by_cases hab : a = b
          · rw [if_pos hab] at hst
            have HST := Lib.hid hst.symm
            have e1 : ((a : Int) == (b : Int)) = true := by rw [hab]; simp
            clear hst hss hab
            go_wp2
            go_roundw
            case rel => exact ⟨b + 1, p, q, m, by omega, by go_num, rfl, hm0, hm1, Lib.hid (HS.out.le (Nat.mul_le_mul_right K (by omega))), HST⟩
            case measure => simp [intOf]; omega
          · rw [if_neg hab] at hst
            have e1 : ((a : Int) == (b : Int)) = false := by simp; omega
            have kO := KOP.out a b hat hbt
            have kR := KSOL.out a b hat hbt hab
            have hp := HVB.out a b hat hbt hab
            obtain ⟨⟨t0, t1, t2, t3, t4⟩, hs'⟩ : ∃ x, x = openO c a b := ⟨_, rfl⟩
            simp only [← hs'] at kO kR
            obtain ⟨vv, hvv'⟩ : ∃ x, x = f a b := ⟨_, rfl⟩
            rw [← hvv'] at hp hst
            simp only [← hvv'] at kR
            unfold osV at kO kR
            dsimp only at hst kO kR
            obtain ⟨hp0, hp1⟩ := hp
            have hkK : (a * 6 + b) * K + K ≤ 2000000000000000000 := by have := Nat.mul_le_mul_right K (show (a * 6 + b) + 1 ≤ 36 by omega); rw [Nat.add_mul, Nat.one_mul] at this; omega
            have hkk : (a * 6 + (b + 1)) * K = (a * 6 + b) * K + K := by rw [show a * 6 + (b + 1) = (a * 6 + b) + 1 by omega, Nat.add_mul (a * 6 + b), Nat.one_mul]
            have KO := Lib.hid kO
            have KR := Lib.hid kR
            have HKK := Lib.hid hkk
            have HHK := Lib.hid hkK
            clear kO kR hs' hvv' hss hkk hkK hab
            go_wp2
            have HSD := Lib.hid HS.out.drew
            clear x0 x1 x2 x3 x4 x5 x6
            obtain ⟨x0, x1, x2, x3, x4, x5, x6⟩ := HSD.out.cell7; 
            have tok9 : True := trivial
            go_region_held3 (fun w' => w'.cell? ⟨w.heap.size, 0, none⟩ = some (.slice A c.mdl.bats.length ca) ∧ w'.cell? ⟨w.heap.size, 1, none⟩ = some (.slice A1 c.mdl.bows.length ca1) ∧ w'.cell? ⟨w.heap.size, 2, none⟩ = some (.slice A2 c.bows.length ca2) ∧ w'.cell? ⟨w.heap.size, 3, none⟩ = some (.int .i64 c.over) ∧ w'.cell? ⟨w.heap.size, 4, none⟩ = some (.int .i64 c.done) ∧ w'.cell? ⟨w.heap.size, 5, none⟩ = some (.int .i64 c.need) ∧ w'.cell? ⟨w.heap.size, 6, none⟩ = some (.slice A3 c.ord.length ca3)) (first | exact ⟨x0, x1, x2, x3, x4, x5, x6⟩ | go_keep) (first
              | (clear tok9; go_at_call 69; refine (KO.out _ HSD.out.base.bel).mono ?_; rintro e w6 ⟨rfl, hb6⟩; have HS6 := Lib.hid (HSD.out.below hb6); clear x0 x1 x2 x3 x4 x5 x6; obtain ⟨x0, x1, x2, x3, x4, x5, x6⟩ := HS6.out.cell7; clear hb6; have tok10 : True := trivial)
              | (clear tok10; go_at_call 58; refine (KR.out _ _ _ _ _ HS6.out HHK.out).mono ?_; rintro e w7 ⟨rfl, hs7, ho7⟩; have HS7 := Lib.hid hs7; clear x0 x1 x2 x3 x4 x5 x6; obtain ⟨x0, x1, x2, x3, x4, x5, x6⟩ := HS7.out.cell7; obtain ⟨p0, p1, pf0, pf1⟩ := HS7.out.pcell; clear hs7 ho7; have tok11 : True := trivial))
            by_cases hgt : m < vv
            · rw [if_pos hgt] at hst
              have HST := Lib.hid hst.symm
              clear hst
              all_goals go_wp2
              go_roundw
              case rel => exact ⟨b + 1, a, b, vv, by omega, by go_num, rfl, by omega, by omega, Lib.hid (by rw [HKK.out]; exact HS7.out.stored a b), HST⟩
              case measure => simp [intOf]; omega
            · rw [if_neg hgt] at hst
              have HST := Lib.hid hst.symm
              clear hst
              all_goals go_wp2
              go_roundw
              case rel => exact ⟨b + 1, p, q, m, by omega, by go_num, rfl, by omega, by omega, Lib.hid (by rw [HKK.out]; exact HS7.out), HST⟩
              case measure => simp [intOf]; omega
        · obtain rfl : b = c.ord.length := by omega
          have HF := Lib.hid (show ((p, q), m) = allB f c.ord.length (a + 1) ((0, 0), -1) by rw [HA.out, hss.out])
          clear hss
          go_wp2
          go_roundw
          case rel => exact ⟨a + 1, p, q, m, by omega, by go_num, rfl, hm0, hm1, Lib.hid (HS.out.le (Nat.mul_le_mul_right K (by omega))), HF⟩
          case measure => simp [intOf]; omega
    · obtain rfl : a = c.ord.length := by omega
      have HF := Lib.hid (show z = ((p, q), m, 0) by rw [HZ.out, ← hss.out])
      obtain ⟨p0, p1, pf0, pf1⟩ := HS.out.pcell
      obtain ⟨z0, z1, zf0, zf1⟩ := HS.out.base.rcell
      clear hss
      go_wp2
      refine or_Best_ret rfl rfl rfl (HS.out.base.res.put2 _ _) rfl ⟨by rw [HF.out] <;> rfl, ?_⟩
      exact below_put2 HS.out.base.bel (by omega) _ _
theorem r45_Best_ret {R' : Ending → World → Prop} {a : Act} {w : World} {x0 x1 v3 v4 : Value} {g : Nat} (h2 : a.tmps[2]? = some (.pointer (some ⟨g, 0, none⟩))) (h3 : a.tmps[3]? = some v3) (h4 : a.tmps[4]? = some v4) (hb : Blk w g 68 #[x0, x1])
    (hd : a.defers = []) (hR : R' (.returned (.tuple #[.agg #[x0, x1], v3, v4])) w) : bodyPost Tryz.prog Tryz.f34 R' .ret a w := by
  have r0 := hb.cell 0
  have r1 := hb.cell 1
  simp only [List.getElem?_toArray, List.getElem?_cons_zero, List.getElem?_cons_succ] at r0 r1
  refine bodyPost_ret (v := .tuple #[.agg #[x0, x1], v3, v4]) (by simp [results, Tryz.results34, go_sem, h2, h3, h4, r0, r1]) hd hR
set_option maxRecDepth 100000 in
set_option maxHeartbeats 6000000 in
theorem r45_Best (c : Chs) (bv wv pv ov : Value) (w : World) (h : ChAt w (· < w.heap.size) bv wv pv ov c) :
    Calls Tryz.prog 34 #[chV c bv wv pv ov] w fun e w' => e = .returned (.tuple #[.agg #[.int .i64 (bestOS c).1.1, .int .i64 (bestOS c).1.2], .int .i64 (bestOS c).2.1, .int .i64 (bestOS c).2.2]) ∧ Below w.heap.size w w' := by
  unfold chV
  obtain ⟨A, ca, rfl, hc1, hc2⟩ := h.mdl.bat.shape
  obtain ⟨A1, ca1, rfl, hc3, hc4⟩ := h.mdl.bow.shape
  obtain ⟨A2, ca2, rfl, hc5, hc6⟩ := h.bow.shape
  obtain ⟨A3, ca3, rfl, hc7, hc8⟩ := h.ord.shape
  have HX := Lib.hid (Bs0.new w c (.slice A c.mdl.bats.length ca) (.slice A1 c.mdl.bows.length ca1) (.slice A2 c.bows.length ca2) (.slice A3 c.ord.length ca3))
  have HM := Lib.hid h
  obtain ⟨z, hz⟩ : ∃ z, z = bestOS c := ⟨_, rfl⟩
  rw [← hz]
  unfold bestOS at hz
  have k1 := fun W (hW : Below w.heap.size w W) => r45_Check c _ _ _ _ W (HM.out.below hW)
  simp only [checkO_ref] at k1
  unfold chV at k1
  obtain ⟨u, hu⟩ : ∃ u, u = checkO c := ⟨_, rfl⟩
  rw [← hu] at k1 hz
  have K1 := Lib.hid k1
  have tok0 : True := trivial
  have hmm := @run_makeMap Tryz.prog
  by_cases h0 : u = 0
  case neg =>
    rw [if_pos h0] at hz
    have HZ := Lib.hid hz
    have eu : (u != 0) = true := by simp [h0]
    clear hz h0 k1 hu h
    go_enter Tryz.func34, Tryz.ntmps34
    go_wp2_with (clear tok0; go_at_call 22; refine (K1.out _ HX.out.bel).mono ?_; rintro e w2 ⟨rfl, hb2⟩; have HX2 := Lib.hid (HX.out.below hb2); obtain ⟨x0, x1, x2, x3, x4, x5, x6⟩ := HX2.out.cell7; obtain ⟨z0, z1, zf0, zf1⟩ := HX2.out.rcell; have hl1 := HX2.out.box.lt; have hl2 := HX2.out.res.lt; clear hb2; have tok1 : True := trivial)
    refine r45_Best_ret rfl rfl rfl (HX2.out.res.put2 _ _) rfl ⟨by rw [HZ.out] <;> rfl, ?_⟩
    exact below_put2 HX2.out.bel (by omega) _ _
  rw [if_neg (by omega)] at hz
  have eu : (u != 0) = false := by simp [h0]
  have ht := okT_of (c := c) (by omega)
  rw [bestS_same ht (0, 0) (0, 1)] at hz
  have hnp := ht.np
  have kop := fun (a b : Nat) (ha : a < c.ord.length) (hb : b < c.ord.length) W (hW : Below w.heap.size w W) => r45_opening c a b _ _ _ _ W (HM.out.below hW) ht ha hb
  have ksol : ∀ (i j : Nat) (hi : i < c.ord.length) (hj : j < c.ord.length) (hne : i ≠ j) (W : World) (b N : Nat) (p q : Int) (hW : BstO w W b N c (.slice A c.mdl.bats.length ca) (.slice A1 c.mdl.bows.length ca1) (.slice A2 c.bows.length ca2) (.slice A3 c.ord.length ca3) p q) (hN : N + cntR 16 ≤ 2000000000000000000), Calls Tryz.prog 59 #[chV c (.slice A c.mdl.bats.length ca) (.slice A1 c.mdl.bows.length ca1) (.slice A2 c.bows.length ca2) (.slice A3 c.ord.length ca3), osV (openO c i j), .map (some b)] W fun e W' => e = .returned (.int .i64 (vO c (openO c i j))) ∧ BstO w W' b (N + cntR 16) c (.slice A c.mdl.bats.length ca) (.slice A1 c.mdl.bows.length ca1) (.slice A2 c.bows.length ca2) (.slice A3 c.ord.length ca3) p q ∧ Only b W W' := fun i j hi hj hne W b N p q hW hN => by
    obtain ⟨q1, q2, _⟩ := openO_ok ht hi hj hne
    obtain ⟨D, d1, d2⟩ := hW.vals
    have hbb := hW.hb
    refine (solveK_of ht (r45_fill c ht) (openO c i j) q1 q2 _ _ _ _ (· < w.heap.size) b N D W (HM.out.keep (Same.of_below hW.base.bel) fun _ h => h) (fun x hx => ⟨Nat.lt_of_lt_of_le hx hW.base.bel.size, by have : x < w.heap.size := hx; omega⟩) d1 d2 hN).mono ?_
    rintro e W' ⟨a1, a2, a3⟩
    exact ⟨a1, hW.into a2 a3, a2⟩
  have hvb : ∀ (i j : Nat) (hi : i < c.ord.length) (hj : j < c.ord.length) (hne : i ≠ j), 0 ≤ vO c (openO c i j) ∧ vO c (openO c i j) ≤ 281474976710656 := fun i j hi hj hne => vO_48 ht (openO_ok ht hi hj hne).1
  unfold bestS at hz
  obtain ⟨f, hf⟩ : ∃ f : Int → Int → Int, f = fun a b => vO c (openO c a b) := ⟨_, rfl⟩
  have hfe : ∀ i j : Nat, vO c (openO c i j) = f i j := fun i j => by rw [hf]
  rw [← hf] at hz
  simp only [hfe] at ksol hvb
  have hrow : ∀ (a b : Nat) (r : (Int × Int) × Int), rowB f a (b + 1) r = if a = b then rowB f a b r else if (rowB f a b r).2 < f a b then (((a : Int), (b : Int)), f a b) else rowB f a b r := fun a b r => by rw [rowB]
  have hall : ∀ (a : Nat), allB f c.ord.length (a + 1) ((0, 1), -1) = rowB f a c.ord.length (allB f c.ord.length a ((0, 1), -1)) := fun a => by rw [allB]
  have hK := cntR16
  obtain ⟨K, hKe⟩ : ∃ K, K = cntR 16 := ⟨_, rfl⟩
  rw [← hKe] at ksol hK
  unfold chV at kop
  unfold chV at ksol
  have HROW := Lib.hid hrow
  have HALL := Lib.hid hall
  have HVB := Lib.hid hvb
  have KOP := Lib.hid kop
  have KSOL := Lib.hid ksol
  have HZ := Lib.hid hz
  obtain ⟨hnp1, hnp2⟩ := hnp
  clear hz h0 k1 hu h ht kop ksol hvb hrow hall hKe hfe hf
  go_enter Tryz.func34, Tryz.ntmps34
  go_wp2_with (clear tok0; go_at_call 22; refine (K1.out _ HX.out.bel).mono ?_; rintro e w2 ⟨rfl, hb2⟩; have HX2 := Lib.hid (HX.out.below hb2); obtain ⟨x0, x1, x2, x3, x4, x5, x6⟩ := HX2.out.cell7; obtain ⟨z0, z1, zf0, zf1⟩ := HX2.out.rcell; have hl1 := HX2.out.box.lt; have hl2 := HX2.out.res.lt; clear hb2; have tok1 : True := trivial)
  go_loopw [8, 23] (fun mo i wr => ∃ (a : Nat) (p q m : Int), a ≤ c.ord.length ∧ i = .int .i64 a ∧ mo = .int .i64 m ∧ -1 ≤ m ∧ m ≤ 281474976710656 ∧ Hid (BstO w wr w2.heap.size (a * 6 * K) c (.slice A c.mdl.bats.length ca) (.slice A1 c.mdl.bows.length ca1) (.slice A2 c.bows.length ca2) (.slice A3 c.ord.length ca3) p q) ∧ Hid (((p, q), m) = allB f c.ord.length a ((0, 1), -1))) (fun _ i _ => c.ord.length - (intOf i).toNat)
  case atStart => exact ⟨0, 0, 1, -1, Nat.zero_le _, rfl, rfl, by omega, by omega, Lib.hid (by first | (rw [Nat.zero_mul]; exact BstO.new HX2.out 0 1) | (rw [Nat.zero_mul, Nat.zero_mul]; exact BstO.new HX2.out 0 1)), Lib.hid rfl⟩
  case round =>
    clear x0 x1 x2 x3 x4 x5 x6 z0 z1 zf0 zf1 hl1 hl2
    obtain ⟨a, p, q, m, ha, rfl, rfl, hm0, hm1, HS, hss⟩ := hrel
    obtain ⟨x0, x1, x2, x3, x4, x5, x6⟩ := HS.out.cell7; 
    obtain ⟨wo, hwo⟩ : ∃ wo : World, wo = wr := ⟨_, rfl⟩
    subst hwo
    by_cases hat : a < c.ord.length
    · have hA := HALL.out a
      rw [← hss.out] at hA
      obtain ⟨R, hR⟩ : ∃ R : (Int × Int) × Int, R = ((p, q), m) := ⟨_, rfl⟩
      rw [← hR] at hA
      have HA := Lib.hid hA
      have HR := Lib.hid (show ((p, q), m) = rowB f a 0 R by rw [hR]; rfl)
      clear hA hR hss
      go_wp2
      go_loopw [8, 29] (fun mo i wr => ∃ (b : Nat) (p q m : Int), b ≤ c.ord.length ∧ i = .int .i64 b ∧ mo = .int .i64 m ∧ -1 ≤ m ∧ m ≤ 281474976710656 ∧ Hid (BstO w wr w2.heap.size ((a * 6 + b) * K) c (.slice A c.mdl.bats.length ca) (.slice A1 c.mdl.bows.length ca1) (.slice A2 c.bows.length ca2) (.slice A3 c.ord.length ca3) p q) ∧ Hid (((p, q), m) = rowB f a b R)) (fun _ i _ => c.ord.length - (intOf i).toNat)
      case atStart => exact ⟨0, p, q, m, Nat.zero_le _, rfl, rfl, hm0, hm1, HS, HR⟩
      case round =>
        clear x0 x1 x2 x3 x4 x5 x6 HS HR
        obtain ⟨b, p, q, m, hb, rfl, rfl, hm0, hm1, HS, hss⟩ := hrel
        obtain ⟨x0, x1, x2, x3, x4, x5, x6⟩ := HS.out.cell7; 
        by_cases hbt : b < c.ord.length
        · have hst := HROW.out a b R
          rw [← hss.out] at hst
          by_cases hab : a = b
          · rw [if_pos hab] at hst
            have HST := Lib.hid hst.symm
            have e1 : ((a : Int) == (b : Int)) = true := by rw [hab]; simp
            clear hst hss hab
            go_wp2
            go_roundw
            case rel => exact ⟨b + 1, p, q, m, by omega, by go_num, rfl, hm0, hm1, Lib.hid (HS.out.le (Nat.mul_le_mul_right K (by omega))), HST⟩
            case measure => simp [intOf]; omega
          · rw [if_neg hab] at hst
            have e1 : ((a : Int) == (b : Int)) = false := by simp; omega
            have kO := KOP.out a b hat hbt
            have kR := KSOL.out a b hat hbt hab
            have hp := HVB.out a b hat hbt hab
            obtain ⟨⟨t0, t1, t2, t3, t4⟩, hs'⟩ : ∃ x, x = openO c a b := ⟨_, rfl⟩
            simp only [← hs'] at kO kR
            obtain ⟨vv, hvv'⟩ : ∃ x, x = f a b := ⟨_, rfl⟩
            rw [← hvv'] at hp hst
            simp only [← hvv'] at kR
            unfold osV at kO kR
            dsimp only at hst kO kR
            obtain ⟨hp0, hp1⟩ := hp
            have hkK : (a * 6 + b) * K + K ≤ 2000000000000000000 := by have := Nat.mul_le_mul_right K (show (a * 6 + b) + 1 ≤ 36 by omega); rw [Nat.add_mul, Nat.one_mul] at this; omega
            have hkk : (a * 6 + (b + 1)) * K = (a * 6 + b) * K + K := by rw [show a * 6 + (b + 1) = (a * 6 + b) + 1 by omega, Nat.add_mul (a * 6 + b), Nat.one_mul]
            have KO := Lib.hid kO
            have KR := Lib.hid kR
            have HKK := Lib.hid hkk
            have HHK := Lib.hid hkK
            clear kO kR hs' hvv' hss hkk hkK hab
            go_wp2
            have HSD := Lib.hid HS.out.drew
            clear x0 x1 x2 x3 x4 x5 x6
            obtain ⟨x0, x1, x2, x3, x4, x5, x6⟩ := HSD.out.cell7; 
            have tok9 : True := trivial
            go_region_held3 (fun w' => w'.cell? ⟨w.heap.size, 0, none⟩ = some (.slice A c.mdl.bats.length ca) ∧ w'.cell? ⟨w.heap.size, 1, none⟩ = some (.slice A1 c.mdl.bows.length ca1) ∧ w'.cell? ⟨w.heap.size, 2, none⟩ = some (.slice A2 c.bows.length ca2) ∧ w'.cell? ⟨w.heap.size, 3, none⟩ = some (.int .i64 c.over) ∧ w'.cell? ⟨w.heap.size, 4, none⟩ = some (.int .i64 c.done) ∧ w'.cell? ⟨w.heap.size, 5, none⟩ = some (.int .i64 c.need) ∧ w'.cell? ⟨w.heap.size, 6, none⟩ = some (.slice A3 c.ord.length ca3)) (first | exact ⟨x0, x1, x2, x3, x4, x5, x6⟩ | go_keep) (first
              | (clear tok9; go_at_call 65; refine (KO.out _ HSD.out.base.bel).mono ?_; rintro e w6 ⟨rfl, hb6⟩; have HS6 := Lib.hid (HSD.out.below hb6); clear x0 x1 x2 x3 x4 x5 x6; obtain ⟨x0, x1, x2, x3, x4, x5, x6⟩ := HS6.out.cell7; clear hb6; have tok10 : True := trivial)
              | (clear tok10; go_at_call 59; refine (KR.out _ _ _ _ _ HS6.out HHK.out).mono ?_; rintro e w7 ⟨rfl, hs7, ho7⟩; have HS7 := Lib.hid hs7; clear x0 x1 x2 x3 x4 x5 x6; obtain ⟨x0, x1, x2, x3, x4, x5, x6⟩ := HS7.out.cell7; obtain ⟨p0, p1, pf0, pf1⟩ := HS7.out.pcell; clear hs7 ho7; have tok11 : True := trivial))
            by_cases hgt : m < vv
            · rw [if_pos hgt] at hst
              have HST := Lib.hid hst.symm
              clear hst
              all_goals go_wp2
              go_roundw
              case rel => exact ⟨b + 1, a, b, vv, by omega, by go_num, rfl, by omega, by omega, Lib.hid (by rw [HKK.out]; exact HS7.out.stored a b), HST⟩
              case measure => simp [intOf]; omega
            · rw [if_neg hgt] at hst
              have HST := Lib.hid hst.symm
              clear hst
              all_goals go_wp2
              go_roundw
              case rel => exact ⟨b + 1, p, q, m, by omega, by go_num, rfl, by omega, by omega, Lib.hid (by rw [HKK.out]; exact HS7.out), HST⟩
              case measure => simp [intOf]; omega
        · obtain rfl : b = c.ord.length := by omega
          have HF := Lib.hid (show ((p, q), m) = allB f c.ord.length (a + 1) ((0, 1), -1) by rw [HA.out, hss.out])
          clear hss
          go_wp2
          go_roundw
          case rel => exact ⟨a + 1, p, q, m, by omega, by go_num, rfl, hm0, hm1, Lib.hid (HS.out.le (Nat.mul_le_mul_right K (by omega))), HF⟩
          case measure => simp [intOf]; omega
    · obtain rfl : a = c.ord.length := by omega
      have HF := Lib.hid (show z = ((p, q), m, 0) by rw [HZ.out, ← hss.out])
      obtain ⟨p0, p1, pf0, pf1⟩ := HS.out.pcell
      obtain ⟨z0, z1, zf0, zf1⟩ := HS.out.base.rcell
      clear hss
      go_wp2
      refine r45_Best_ret rfl rfl rfl (HS.out.base.res.put2 _ _) rfl ⟨by rw [HF.out] <;> rfl, ?_⟩
      exact below_put2 HS.out.base.bel (by omega) _ _
end Go.Proofs.YtfnfbojaiikigaaGreatDoor

namespace Go.Proofs.YtfnfbojaiikigaaGreatDoor
open Go.RowKit

def exO1 : List UInt8 := [48, 58, 56, 32, 52, 58, 56]
def exO1d : List Otc := [⟨0, false, 8⟩, ⟨4, false, 8⟩]
def exO2 : List UInt8 := [48, 58, 49, 54]
def exO2d : List Otc := [⟨0, false, 16⟩]
theorem exO1_text : textC exO1d = (exO1, 0) := by
  have h0 : checkD exO1d = 0 := by kernel_rfl
  have e0 := otcW_dig3 0 8 false (by omega) (by omega)
  have e1 := otcW_dig3 4 8 false (by omega) (by omega)
  unfold textC
  rw [if_neg (fun k => k h0)]
  show (Lib.join [otcW ⟨((0 : Nat) : Int), false, ((8 : Nat) : Int)⟩, otcW ⟨((4 : Nat) : Int), false, ((8 : Nat) : Int)⟩] [32], (0 : Int)) = _
  rw [e0, e1]
  kernel_rfl
theorem exO2_text : textC exO2d = (exO2, 0) := by
  have h0 : checkD exO2d = 0 := by kernel_rfl
  have e0 := otcW_dig2 0 16 false (by omega) (by omega) (by omega)
  unfold textC
  rw [if_neg (fun k => k h0)]
  show (Lib.join [otcW ⟨((0 : Nat) : Int), false, ((16 : Nat) : Int)⟩] [32], (0 : Int)) = _
  rw [e0]
  kernel_rfl
theorem exO1_parse : parseC exO1 = (exO1d, 0) := by
  have h1 : (pieces 32 exO1).all pieceOk = true := by kernel_rfl
  have h2 : (pieces 32 exO1).map pieceO = exO1d := by kernel_rfl
  unfold parseC
  rw [h1, if_neg (by simp), h2, exO1_text, if_neg (by simp)]
theorem exO2_parse : parseC exO2 = (exO2d, 0) := by
  have h1 : (pieces 32 exO2).all pieceOk = true := by kernel_rfl
  have h2 : (pieces 32 exO2).map pieceO = exO2d := by kernel_rfl
  unfold parseC
  rw [h1, if_neg (by simp), h2, exO2_text, if_neg (by simp)]
theorem bats_lit3 (W : World) (v u : Value) (d z : List Otc) (a b c : List UInt8) (hv : Sl 3 elOtc W (· < W.heap.size) v d) (hu : Sl 3 elOtc W (· < W.heap.size) u z) (ha : a.length ≤ maxLen) (hb : b.length ≤ maxLen) (hc : c.length ≤ maxLen) :
    Sl 2 elBat (W.alloc (.cells #[.string (S a), v, .string (S b), u, .string (S c), u] 77)) (· < (W.alloc (.cells #[.string (S a), v, .string (S b), u, .string (S c), u] 77)).heap.size) (.slice (some ⟨W.heap.size, 0, none⟩) 3 3) [⟨a, d⟩, ⟨b, z⟩, ⟨c, z⟩] := by
  have hk := Blk.new W 77 #[.string (S a), v, .string (S b), u, .string (S c), u]
  have hbb : Below W.heap.size W (W.alloc (.cells #[.string (S a), v, .string (S b), u, .string (S c), u] 77)) := Below.alloc (Below.refl _ _) (Nat.le_refl _) _
  have hv2 := hv.keep (G := (· < (W.alloc (.cells #[.string (S a), v, .string (S b), u, .string (S c), u] 77)).heap.size)) elOtc_good (Same.of_below hbb) fun b h => Nat.lt_of_lt_of_le h hbb.size
  have hu2 := hu.keep (G := (· < (W.alloc (.cells #[.string (S a), v, .string (S b), u, .string (S c), u] 77)).heap.size)) elOtc_good (Same.of_below hbb) fun b h => Nat.lt_of_lt_of_le h hbb.size
  have two : ∀ {x y : Value} {j : Nat} {q : Value}, [x, y][j]? = some q → (j = 0 ∧ q = x) ∨ (j = 1 ∧ q = y) := fun {x y j q} h => by
    have hj : j = 0 ∨ j = 1 := by have := (List.getElem?_eq_some_iff.1 h).1; simp at this; omega
    rcases hj with rfl | rfl
    · simp at h; exact .inl ⟨rfl, h.symm⟩
    · simp at h; exact .inr ⟨rfl, h.symm⟩
  refine ⟨_, 3, rfl, Nat.le_refl _, by decide, fun h0 => ⟨W.heap.size, 0, rfl, by simp, fun i x hi => ?_⟩⟩
  have hlt := (List.getElem?_eq_some_iff.1 hi).1
  have hcs : i = 0 ∨ i = 1 ∨ i = 2 := by simp at hlt; omega
  rcases hcs with rfl | rfl | rfl
  · simp at hi; subst hi
    refine ⟨[.string (S a), v], rfl, fun j q hq => ?_, ⟨_, rfl, hv2⟩, ha⟩
    rcases two hq with ⟨rfl, rfl⟩ | ⟨rfl, rfl⟩
    · exact hk.cell 0
    · exact hk.cell 1
  · simp at hi; subst hi
    refine ⟨[.string (S b), u], rfl, fun j q hq => ?_, ⟨_, rfl, hu2⟩, hb⟩
    rcases two hq with ⟨rfl, rfl⟩ | ⟨rfl, rfl⟩
    · exact hk.cell 2
    · exact hk.cell 3
  · simp at hi; subst hi
    refine ⟨[.string (S c), u], rfl, fun j q hq => ?_, ⟨_, rfl, hu2⟩, hc⟩
    rcases two hq with ⟨rfl, rfl⟩ | ⟨rfl, rfl⟩
    · exact hk.cell 4
    · exact hk.cell 5
theorem ints_three (W : World) (a b c : Int) (e : TypeId) : Sl 1 elInt (W.alloc (.cells #[.int .i64 a, .int .i64 b, .int .i64 c] e)) (· < (W.alloc (.cells #[.int .i64 a, .int .i64 b, .int .i64 c] e)).heap.size) (.slice (some ⟨W.heap.size, 0, none⟩) 3 3) [a, b, c] := by
  have hk := Blk.new W e #[.int .i64 a, .int .i64 b, .int .i64 c]
  refine ⟨_, 3, rfl, Nat.le_refl _, by decide, fun h0 => ⟨W.heap.size, 0, rfl, by simp, fun i x hi => ?_⟩⟩
  have hlt := (List.getElem?_eq_some_iff.1 hi).1
  have hc : i = 0 ∨ i = 1 ∨ i = 2 := by simp at hlt; omega
  have one : ∀ {y : Value} {j : Nat} {q : Value}, [y][j]? = some q → j = 0 ∧ q = y := fun {y j q} h => by
    obtain rfl : j = 0 := by have := (List.getElem?_eq_some_iff.1 h).1; simp at this; exact this
    simp at h; exact ⟨rfl, h.symm⟩
  rcases hc with rfl | rfl | rfl
  · simp at hi; subst hi
    refine ⟨[.int .i64 a], rfl, fun j u hu => ?_, rfl⟩
    obtain ⟨rfl, rfl⟩ := one hu
    exact hk.cell 0
  · simp at hi; subst hi
    refine ⟨[.int .i64 b], rfl, fun j u hu => ?_, rfl⟩
    obtain ⟨rfl, rfl⟩ := one hu
    exact hk.cell 1
  · simp at hi; subst hi
    refine ⟨[.int .i64 c], rfl, fun j u hu => ?_, rfl⟩
    obtain ⟨rfl, rfl⟩ := one hu
    exact hk.cell 2
def chM3 : Mdl := ⟨[⟨[65], exO1d⟩, ⟨[66], exO2d⟩, ⟨[67], exO2d⟩], [⟨[88], 0⟩]⟩
def ch45 : Chs := ⟨chM3, [0], 6, 0, 4, [0, 1, 2]⟩
theorem ch45_best : bestOS ch45 = ((0, 1), 8, 0) := by kernel_rfl
def awW5 (w1 : World) (v u : Value) : World :=
  ((((w1.alloc (.cells #[.string (S [65]), v, .string (S [66]), u, .string (S [67]), u] 77)).alloc (.cells #[.string (S [88]), .int .i64 0] 90)).alloc (.cells #[.slice (some ⟨w1.heap.size, 0, none⟩) 3 3, .slice (some ⟨w1.heap.size + 1, 0, none⟩) 1 1] 25)).alloc (.cells #[.int .i64 0] 3)).alloc (.cells #[.int .i64 0, .int .i64 1, .int .i64 2] 3)
theorem aw45 (w1 : World) (v u : Value) (h : Sl 3 elOtc w1 (· < w1.heap.size) v exO1d) (hu : Sl 3 elOtc w1 (· < w1.heap.size) u exO2d) : Below w1.heap.size w1 (awW5 w1 v u) ∧ ChAt (awW5 w1 v u) (· < (awW5 w1 v u).heap.size) (.slice (some ⟨w1.heap.size, 0, none⟩) 3 3) (.slice (some ⟨w1.heap.size + 1, 0, none⟩) 1 1) (.slice (some ⟨w1.heap.size + 1 + 1 + 1, 0, none⟩) 1 1) (.slice (some ⟨w1.heap.size + 1 + 1 + 1 + 1, 0, none⟩) 3 3) ch45 := by
  unfold awW5
  have s1 := bats_lit3 w1 v u exO1d exO2d [65] [66] [67] h hu (by decide) (by decide) (by decide)
  obtain ⟨W1, hW1⟩ : ∃ W, W = w1.alloc (.cells #[.string (S [65]), v, .string (S [66]), u, .string (S [67]), u] 77) := ⟨_, rfl⟩
  have z1 : W1.heap.size = w1.heap.size + 1 := by rw [hW1]; simp
  have b1 : Below w1.heap.size w1 W1 := by rw [hW1]; exact Below.alloc (Below.refl _ _) (Nat.le_refl _) _
  rw [← hW1] at s1 ⊢
  have s2 := bows_lit W1 [88] 0 (by decide)
  rw [z1] at s2
  obtain ⟨W2, hW2⟩ : ∃ W, W = W1.alloc (.cells #[.string (S [88]), .int .i64 0] 90) := ⟨_, rfl⟩
  have z2 : W2.heap.size = w1.heap.size + 1 + 1 := by rw [hW2]; simp [z1]
  have b2 : Below W1.heap.size W1 W2 := by rw [hW2]; exact Below.alloc (Below.refl _ _) (Nat.le_refl _) _
  rw [← hW2] at s2 ⊢
  obtain ⟨W3, hW3⟩ : ∃ W, W = W2.alloc (.cells #[.slice (some ⟨w1.heap.size, 0, none⟩) 3 3, .slice (some ⟨w1.heap.size + 1, 0, none⟩) 1 1] 25) := ⟨_, rfl⟩
  have z3 : W3.heap.size = w1.heap.size + 1 + 1 + 1 := by rw [hW3]; simp [z2]
  have b3 : Below W2.heap.size W2 W3 := by rw [hW3]; exact Below.alloc (Below.refl _ _) (Nat.le_refl _) _
  rw [← hW3]
  have s4 := ints_one W3 0 3
  rw [z3] at s4
  obtain ⟨W4, hW4⟩ : ∃ W, W = W3.alloc (.cells #[.int .i64 0] 3) := ⟨_, rfl⟩
  have z4 : W4.heap.size = w1.heap.size + 1 + 1 + 1 + 1 := by rw [hW4]; simp [z3]
  have b4 : Below W3.heap.size W3 W4 := by rw [hW4]; exact Below.alloc (Below.refl _ _) (Nat.le_refl _) _
  rw [← hW4] at s4 ⊢
  have s5 := ints_three W4 0 1 2 3
  rw [z4] at s5
  obtain ⟨W5, hW5⟩ : ∃ W, W = W4.alloc (.cells #[.int .i64 0, .int .i64 1, .int .i64 2] 3) := ⟨_, rfl⟩
  have b5 : Below W4.heap.size W4 W5 := by rw [hW5]; exact Below.alloc (Below.refl _ _) (Nat.le_refl _) _
  rw [← hW5] at s5 ⊢
  have c4 := b5
  have c3 := b4.trans (c4.mono b4.size)
  have c2 := b3.trans (c3.mono b3.size)
  have c1 := b2.trans (c2.mono b2.size)
  exact ⟨b1.trans (c1.mono b1.size), ⟨⟨Sl.up elBat_good s1 c1 c1.size (n := 0), Sl.up elBow_good s2 c2 c2.size (n := 0)⟩, Sl.up elInt_good s4 c4 c4.size (n := 0), s5⟩⟩
set_option maxRecDepth 100000 in
set_option maxHeartbeats 2000000 in
theorem law45_awake (w : World) (hg : GlobN w) : Calls Tryz.prog 19 #[] w fun e w' => e = .returned (.bool true) ∧ Below w.heap.size w w' := by
  have k1 : Calls Tryz.prog 39 #[.string ⟨#[48, 58, 56, 32, 52, 58, 56]⟩] w fun e W' => ∃ A c, e = .returned (.tuple #[.slice A 2 c, .int .i64 0]) ∧ Sl 3 elOtc W' (· < W'.heap.size) (.slice A 2 c) exO1d ∧ Below w.heap.size w W' := by
    refine (ch_Parse (S exO1) w hg (by decide)).mono ?_
    rintro e W' ⟨v, rfl, hs, hb⟩
    rw [S_data, exO1_parse] at hs ⊢
    obtain ⟨A, c, rfl, _⟩ := hs.shape
    exact ⟨A, c, rfl, hs.keep elOtc_good (Same.refl _ _) fun _ h => h.2, hb⟩
  have k2 : ∀ W, Below w.heap.size w W → Calls Tryz.prog 39 #[.string ⟨#[48, 58, 49, 54]⟩] W fun e W' => ∃ A c, e = .returned (.tuple #[.slice A 1 c, .int .i64 0]) ∧ Sl 3 elOtc W' (· < W'.heap.size) (.slice A 1 c) exO2d ∧ Below W.heap.size W W' := fun W hW => by
    refine (ch_Parse (S exO2) W (hg.below hW) (by decide)).mono ?_
    rintro e W' ⟨v, rfl, hs, hb⟩
    rw [S_data, exO2_parse] at hs ⊢
    obtain ⟨A, c, rfl, _⟩ := hs.shape
    exact ⟨A, c, rfl, hs.keep elOtc_good (Same.refl _ _) fun _ h => h.2, hb⟩
  have k3 : ∀ (w1 : World) (v u : Value), Sl 3 elOtc w1 (· < w1.heap.size) v exO1d → Sl 3 elOtc w1 (· < w1.heap.size) u exO2d → Calls Tryz.prog 33 #[.agg #[.slice (some ⟨w1.heap.size, 0, none⟩) 3 3, .slice (some ⟨w1.heap.size + 1, 0, none⟩) 1 1, .slice (some ⟨w1.heap.size + 1 + 1 + 1, 0, none⟩) 1 1, .int .i64 6, .int .i64 0, .int .i64 4, .slice (some ⟨w1.heap.size + 1 + 1 + 1 + 1, 0, none⟩) 3 3]] (awW5 w1 v u) fun e W' => e = .returned (.tuple #[.agg #[.int .i64 0, .int .i64 1], .int .i64 8, .int .i64 0]) ∧ Below w1.heap.size w1 W' := fun w1 v u h1 h2 => by
    have h3 := aw45 w1 v u h1 h2
    have := or_Best ch45 _ _ _ _ _ h3.2
    rw [ch45_best] at this
    refine this.mono ?_
    rintro e W' ⟨rfl, hb⟩
    exact ⟨rfl, h3.1.trans (hb.mono h3.1.size)⟩
  have K1 := Lib.hid k1
  have K2 := Lib.hid k2
  have K3 := Lib.hid k3
  have tok0 : True := trivial
  clear k1 k2 k3 hg
  go_enter Tryz.func19, Tryz.ntmps19
  go_wp2_with (first
    | (clear tok0; go_at_call 39; ((with_reducible refine K1.out.mono ?_); rintro e w1 ⟨A1, c1, rfl, hs1, hb1⟩; have HS1 := Lib.hid hs1; have HB1 := Lib.hid hb1; clear hs1 hb1; have tok1 : True := trivial))
    | (clear tok1; go_at_call 39; ((with_reducible refine (K2.out _ HB1.out).mono ?_); rintro e w2 ⟨A2, c2, rfl, hs2, hb2⟩; have HS2 := Lib.hid hs2; have HS1' := Lib.hid (HS1.out.keep (G := (· < w2.heap.size)) elOtc_good (Same.of_below hb2) fun _ h => Nat.lt_of_lt_of_le h hb2.size); have HB2 := Lib.hid (HB1.out.trans (hb2.mono HB1.out.size)); clear hs2 hb2; have tok2 : True := trivial))
    | (clear tok2; go_at_call 33; refine (K3.out w2 _ _ HS1'.out HS2.out).mono ?_; rintro e w3 ⟨rfl, hb3⟩; have HB3 := Lib.hid (HB2.out.trans (hb3.mono HB2.out.size)); clear hb3; have tok3 : True := trivial))
  go_ret
  exact ⟨rfl, HB3.out.alloc HB3.out.size _⟩
end Go.Proofs.YtfnfbojaiikigaaGreatDoor

namespace Go.Proofs.YtfnfbojaiikigaaGreatDoor
open Go.RowKit

def bigT (c : Chs) : Bool := decide (30 < c.mdl.bats.length) || decide (30 < c.mdl.bows.length) || decide (4 < c.ord.length) || decide (4 < c.bows.length) || decide (16 < c.need)
def smallT (c : Chs) : Bool := !bigT c && c.mdl.bats.all (fun b => decide (b.dist.length ≤ 100))
theorem bigT_ways (c : Chs) : (bigT c = true ∧ (30 < (c.mdl.bats.length : Int) ∨ (¬ 30 < (c.mdl.bats.length : Int) ∧ 30 < (c.mdl.bows.length : Int)) ∨ (¬ 30 < (c.mdl.bats.length : Int) ∧ ¬ 30 < (c.mdl.bows.length : Int) ∧ 4 < (c.ord.length : Int)) ∨ (¬ 30 < (c.mdl.bats.length : Int) ∧ ¬ 30 < (c.mdl.bows.length : Int) ∧ ¬ 4 < (c.ord.length : Int) ∧ 4 < (c.bows.length : Int)) ∨ (¬ 30 < (c.mdl.bats.length : Int) ∧ ¬ 30 < (c.mdl.bows.length : Int) ∧ ¬ 4 < (c.ord.length : Int) ∧ ¬ 4 < (c.bows.length : Int) ∧ 16 < c.need))) ∨
    (bigT c = false ∧ ¬ 30 < (c.mdl.bats.length : Int) ∧ ¬ 30 < (c.mdl.bows.length : Int) ∧ ¬ 4 < (c.ord.length : Int) ∧ ¬ 4 < (c.bows.length : Int) ∧ ¬ 16 < c.need) := by
  cases h : bigT c
  · refine .inr ⟨rfl, ?_⟩
    unfold bigT at h
    simp only [Bool.or_eq_false_iff, decide_eq_false_iff_not] at h
    omega
  · refine .inl ⟨rfl, ?_⟩
    unfold bigT at h
    simp only [Bool.or_eq_true, decide_eq_true_eq] at h
    omega
set_option maxRecDepth 100000 in
set_option maxHeartbeats 2000000 in
theorem law45_Small (c : Chs) (bv wv pv ov : Value) (w : World) (h : ChAt w (· < w.heap.size) bv wv pv ov c) :
    Calls Tryz.prog 25 #[chV c bv wv pv ov] w fun e w' => e = .returned (.bool (smallT c)) ∧ Below w.heap.size w w' := by
  unfold chV
  obtain ⟨z, hz⟩ : ∃ z, z = smallT c := ⟨_, rfl⟩
  rw [← hz]
  unfold smallT at hz
  obtain ⟨A, ca, rfl, hc1, hc2⟩ := h.mdl.bat.shape
  obtain ⟨A1, ca1, rfl, hc3, hc4⟩ := h.mdl.bow.shape
  obtain ⟨A2, ca2, rfl, hc5, hc6⟩ := h.bow.shape
  obtain ⟨A3, ca3, rfl, hc7, hc8⟩ := h.ord.shape
  have HX := Lib.hid (OTB.new w c (.slice A c.mdl.bats.length ca) (.slice A1 c.mdl.bows.length ca1) (.slice A2 c.bows.length ca2) (.slice A3 c.ord.length ca3))
  have HL := Lib.hid h.mdl.bat
  have hw := bigT_ways c
  clear h
  rcases hw with ⟨hb, hw⟩ | ⟨hb, g1, g2, g3, g4, g5⟩
  · rw [hb, Bool.not_true, Bool.false_and] at hz
    have HZ := Lib.hid hz
    clear hz hb HL
    rcases hw with g1 | ⟨g1, g2⟩ | ⟨g1, g2, g3⟩ | ⟨g1, g2, g3, g4⟩ | ⟨g1, g2, g3, g4, g5⟩
    all_goals
      go_enter Tryz.func25, Tryz.ntmps25
      go_wp2
      go_ret
      exact ⟨ret_b HZ.out.symm, HX.out.bel⟩
  · rw [hb, Bool.not_false, Bool.true_and] at hz
    have HZ : Hid (z = (c.mdl.bats.drop 0).all (fun b => decide (b.dist.length ≤ 100))) := hz
    clear hz hb
    go_enter Tryz.func25, Tryz.ntmps25
    go_wp2
    go_loopw [38] (fun i wr => ∃ k : Nat, k ≤ c.mdl.bats.length ∧ i = .int .i64 k ∧ Hid (OTB w wr w.heap.size c (.slice A c.mdl.bats.length ca) (.slice A1 c.mdl.bows.length ca1) (.slice A2 c.bows.length ca2) (.slice A3 c.ord.length ca3)) ∧ Hid (z = (c.mdl.bats.drop k).all (fun b => decide (b.dist.length ≤ 100)))) (fun i _ => c.mdl.bats.length - (intOf i).toNat)
    case atStart => exact ⟨0, Nat.zero_le _, rfl, HX, HZ⟩
    case round =>
      clear HX HZ
      obtain ⟨k, hk, rfl, HW, hzz⟩ := hrel
      by_cases hlt : k < c.mdl.bats.length
      · obtain ⟨b0, o, v, rfl, hbl, yy0, yy1, hv, hpl⟩ := bat_at HL.out hlt
        have y0 := (HW.out.bel.cell (p := ⟨b0, o + k * 2, none⟩) hbl).trans yy0
        have y1 := (HW.out.bel.cell (p := ⟨b0, o + k * 2 + 1, none⟩) hbl).trans yy1
        have hz2 := hzz.out
        rw [small44_drop hlt] at hz2
        obtain ⟨A9, c9, hve, _, _⟩ := hv.shape
        obtain ⟨p, hp⟩ : ∃ b, b = c.mdl.bats[k] := ⟨_, rfl⟩
        rw [← hp] at y0 hz2 hve
        obtain ⟨n2, hn2⟩ : ∃ n, n = p.dist.length := ⟨_, rfl⟩
        obtain ⟨pn, hpn⟩ : ∃ n, n = p.name := ⟨_, rfl⟩
        rw [← hn2] at hve hz2
        rw [← hpn] at y0
        subst hve
        have HA := Lib.hid (HW.out.alloc (.cells #[.string (S pn), .slice A9 n2 c9] 77))
        clear hzz hp hn2 hpn yy0 yy1 hv hpl
        by_cases hs : n2 ≤ 100
        · rw [decide_eq_true hs, Bool.true_and] at hz2
          have HZZ := Lib.hid hz2
          have g9 : ¬ (100 : Int) < (n2 : Int) := by omega
          clear hz2 hs
          go_wp2
          go_roundw
          case rel => exact ⟨k + 1, by omega, by go_num, HA, HZZ⟩
          case measure => simp [intOf]; omega
        · rw [decide_eq_false hs, Bool.false_and] at hz2
          have HZZ := Lib.hid hz2
          have g9 : (100 : Int) < (n2 : Int) := by omega
          clear hz2 hs
          go_wp2
          go_ret
          exact ⟨ret_b HZZ.out.symm, HA.out.bel⟩
      · obtain rfl : k = c.mdl.bats.length := by omega
        have hz2 := hzz.out
        rw [List.drop_of_length_le (Nat.le_refl _), List.all_nil] at hz2
        have HZZ := Lib.hid hz2
        clear hz2 hzz
        go_wp2
        go_ret
        exact ⟨ret_b HZZ.out.symm, HW.out.bel⟩
end Go.Proofs.YtfnfbojaiikigaaGreatDoor

namespace Go.Proofs.YtfnfbojaiikigaaGreatDoor
open Go.RowKit

theorem fix_at {n : Int} {l : List Int} {k : Nat} (h : k < l.length) : fixF n (l.take k) (l.drop k) = if l[k] < 0 ∨ n ≤ l[k] then 2 else if l[k] ∈ l.take k then 7 else fixF n (l.take (k + 1)) (l.drop (k + 1)) := by
  rw [drop_get h, fixF, List.take_append_getElem h]
theorem fix_end {n : Int} {l : List Int} : fixF n (l.take l.length) (l.drop l.length) = 0 := by
  rw [List.drop_length, fixF]
theorem start_state {c : Chs} (h : checkC c = 0) : stateC c ⟨0, c.need, 0, 1, 2⟩ = 0 := by
  have hc := checkC_ok h
  have h1 := hc.need
  have h2 := hc.no
  have e1 : outC c ⟨0, c.need, 0, 1, 2⟩ = false := by
    unfold outC outC.inC
    have a1 : decide ((0 : Int) ≤ (c.bows.length : Int)) = true := decide_eq_true (by omega)
    have a2 : decide (0 ≤ c.need) = true := decide_eq_true (by omega)
    have a3 : decide (c.need ≤ c.need) = true := decide_eq_true (Int.le_refl _)
    have a4 : decide ((2 : Int) ≤ (c.ord.length : Int)) = true := decide_eq_true (by omega)
    simp only [a1, a2, a3, a4]
    rfl
  unfold stateC
  rw [e1]
  rw [if_neg (by decide), if_neg]
  rintro (h | h)
  · cases h
  · cases h.1
theorem fixed_val {c : Chs} {l : List Int} (h0 : checkO c = 0) (h1 : ¬ l.length < 2) (h2 : fixF c.ord.length [] l = 0) :
    fixedS c l = valueC (fixC c l) (startC (fixC c l)).1 ∧ ((startC (fixC c l)).2 ≠ 0 → fixedS c l = (0, (startC (fixC c l)).2)) := by
  unfold fixedS
  rw [if_neg (by omega), if_neg h1, if_neg (by omega)]
  by_cases h3 : checkC (fixC c l) ≠ 0
  · rw [if_pos h3]
    unfold startC valueC chstC
    rw [if_pos h3, if_pos h3, if_pos h3]
    exact ⟨rfl, fun _ => rfl⟩
  · have h4 : checkC (fixC c l) = 0 := by omega
    rw [if_neg h3]
    unfold startC valueC chstC
    rw [if_neg h3, if_neg h3]
    have hs := start_state h4
    have hn : (fixC c l).need = c.need := rfl
    rw [hn] at hs
    exact ⟨by show _ = if stateC (fixC c l) ⟨0, (fixC c l).need, 0, 1, 2⟩ ≠ 0 then _ else _; rw [hn, hs]; rfl, fun h => absurd rfl h⟩
theorem E_into : ElemOf Tryz.prog 26 3 1 8 := ElemOf.mk (z := .int .i64 0) Tryz.underlying26 (by kernel_rfl) rfl (by decide)
/-- The order under way; it lies behind the world wB. -/
structure FxO (w wB W : World) (c : Chs) (bv wv pv ov : Value) (v : Value) (out : List Int) (n : Nat) : Prop where
  b0 : OTB w wB w.heap.size c bv wv pv ov
  o1 : OwnSl 1 elInt 3 wB.heap.size W v out
  sb : Below wB.heap.size wB W
  n1 : out.length ≤ n
section
variable {w wB W W' : World} {c : Chs} {bv wv pv ov v v' : Value} {out : List Int} {n : Nat}
theorem FxO.base (h : FxO w wB W c bv wv pv ov v out n) : OTB w W w.heap.size c bv wv pv ov := h.b0.below h.sb
theorem FxO.below (h : FxO w wB W c bv wv pv ov v out n) (hb : Below W.heap.size W W') : FxO w wB W' c bv wv pv ov v out n := ⟨h.b0, h.o1.below elInt_good hb, h.sb.trans (hb.mono h.sb.size), h.n1⟩
theorem FxO.alloc (h : FxO w wB W c bv wv pv ov v out n) (o : Obj) : FxO w wB (W.alloc o) c bv wv pv ov v out n := h.below (Below.alloc (Below.refl _ _) (Nat.le_refl _) o)
theorem FxO.app {x : Int} (h : FxO w wB W c bv wv pv ov v out n) (ho : OwnSl 1 elInt 3 wB.heap.size W' v' (out ++ [x])) (hg : W.grownBy W' v.ownBlock) : FxO w wB W' c bv wv pv ov v' (out ++ [x]) (n + 1) :=
  ⟨h.b0, ho, below_own h.sb h.o1 hg (Nat.le_refl _) h.sb.size, by simp; exact h.n1⟩
theorem FxO.start (h : OTB w W w.heap.size c bv wv pv ov) : FxO w W W c bv wv pv ov (.slice none 0 0) [] 0 := ⟨h, OwnSl.nil _, Below.refl _ _, Nat.le_refl _⟩
theorem FxO.cha (h : FxO w wB W c bv wv pv ov v out n) (hM : ChAt w (· < w.heap.size) bv wv pv ov c) : ChAt W (· < W.heap.size) bv wv pv v (setC c out) :=
  have h2 := hM.below h.base.bel
  ⟨h2.mdl, h2.bow, (h.o1.sl elInt_good).keep elInt_good (Same.refl _ _) fun b hb => hb.2⟩
end
theorem al_back {W W' : World} {o : Obj} (h : Below (W.alloc o).heap.size (W.alloc o) W') : Below W.heap.size W W' := (Below.alloc (Below.refl _ _) (Nat.le_refl _) o).trans (h.mono (by simp))
set_option maxRecDepth 100000 in
set_option maxHeartbeats 1500000 in
theorem or_Fixed (c : Chs) (l : List Int) (bv wv pv ov lv : Value) (w : World) (h : ChAt w (· < w.heap.size) bv wv pv ov c) (hl : Sl 1 elInt w (· < w.heap.size) lv l) (h100 : l.length ≤ 100) :
    Calls Tryz.prog 35 #[chV c bv wv pv ov, lv] w fun e w' => e = .returned (.tuple #[.int .i64 (fixedS c l).1, .int .i64 (fixedS c l).2]) ∧ Below w.heap.size w w' := by
  unfold chV
  obtain ⟨A, ca, rfl, hc1, hc2⟩ := h.mdl.bat.shape
  obtain ⟨A1, ca1, rfl, hc3, hc4⟩ := h.mdl.bow.shape
  obtain ⟨A2, ca2, rfl, hc5, hc6⟩ := h.bow.shape
  obtain ⟨A3, ca3, rfl, hc7, hc8⟩ := h.ord.shape
  obtain ⟨A4, ca4, rfl, hc9, hc10⟩ := hl.shape
  obtain ⟨⟨z1, z2⟩, hz⟩ : ∃ z, z = fixedS c l := ⟨_, rfl⟩
  rw [← hz]
  dsimp only
  have HX0 := Lib.hid (OTB.new w c (.slice A c.mdl.bats.length ca) (.slice A1 c.mdl.bows.length ca1) (.slice A2 c.bows.length ca2) (.slice A3 c.ord.length ca3))
  have k1 := fun W (hW : Below w.heap.size w W) => or_Check c _ _ _ _ W (h.below hW)
  unfold chV at k1
  
  have HM := Lib.hid h
  have HL := Lib.hid hl
  have hbad : checkO c ≠ 0 → (z1, z2) = (0, checkO c) := fun h0 => by rw [hz]; unfold fixedS; rw [if_pos h0]
  have hshort : checkO c = 0 → l.length < 2 → (z1, z2) = (0, 9) := fun h0 h1 => by rw [hz]; unfold fixedS; rw [if_neg (by omega), if_pos h1]
  have hfix : checkO c = 0 → ¬ l.length < 2 → fixF c.ord.length [] l ≠ 0 → (z1, z2) = (0, fixF c.ord.length [] l) := fun h0 h1 h2 => by rw [hz]; unfold fixedS; rw [if_neg (by omega), if_neg h1, if_pos h2]
  have hval := fixed_val (c := c) (l := l)
  rw [← hz] at hval
  have k2 := fun (W0 : World) (v : Value) (hch : ChAt W0 (· < W0.heap.size) (.slice A c.mdl.bats.length ca) (.slice A1 c.mdl.bows.length ca1) (.slice A2 c.bows.length ca2) v (fixC c l)) => ch44_Start (fixC c l) _ _ _ _ W0 hch
  obtain ⟨⟨⟨a1, a2, a3, a4, a5⟩, e1⟩, hst⟩ : ∃ x, x = startC (fixC c l) := ⟨_, rfl⟩
  rw [← hst] at hval
  dsimp only at hval
  simp only [← hst] at k2
  have k3 := fun (W0 : World) (v : Value) (hch : ChAt W0 (· < W0.heap.size) (.slice A c.mdl.bats.length ca) (.slice A1 c.mdl.bows.length ca1) (.slice A2 c.bows.length ca2) v (fixC c l)) => ch44_Value (fixC c l) ⟨a1, a2, a3, a4, a5⟩ _ _ _ _ W0 hch
  obtain ⟨⟨v1, v2⟩, hvv⟩ : ∃ x, x = valueC (fixC c l) ⟨a1, a2, a3, a4, a5⟩ := ⟨_, rfl⟩
  rw [← hvv] at hval
  simp only [← hvv] at k3
  unfold chV stV at k2
  unfold chV stV at k3
  dsimp only at k2 k3
  obtain ⟨u0, hu0⟩ : ∃ x, x = checkO c := ⟨_, rfl⟩
  obtain ⟨u, hu⟩ : ∃ x, x = fixF c.ord.length [] l := ⟨_, rfl⟩
  simp only [← hu0] at k1 hbad hshort hfix hval
  rw [← hu] at hfix hval
  have K1 := Lib.hid k1
  have K2 := Lib.hid k2
  have K3 := Lib.hid k3
  have tok0 : True := trivial
  clear k1 k2 k3 h hl hz hst hvv hu0
  by_cases h0 : u0 = 0
  case neg =>
    have HZ := Lib.hid (hbad h0)
    have eu : (u0 != 0) = true := by simp [h0]
    clear hbad hshort hfix hval h0 hu h100
    go_enter Tryz.func35, Tryz.ntmps35
    go_wp2_with (clear tok0; go_at_call 21; refine (K1.out _ HX0.out.bel).mono ?_; rintro e w2 ⟨rfl, hb⟩; have HX2 := Lib.hid (HX0.out.below hb); obtain ⟨x0, x1, x2, x3, x4, x5, x6⟩ := HX2.out.cells; clear hb; have tok1 : True := trivial)
    go_ret2
    exact ⟨by have h9 := HZ.out; injection h9 with h7 h8; rw [h7, h8] <;> rfl, HX2.out.bel⟩
  subst h0
  by_cases h1 : l.length < 2
  · have HZ := Lib.hid (hshort rfl h1)
    have h1' : (l.length : Int) < 2 := by omega
    clear hbad hshort hfix hval hu h100
    go_enter Tryz.func35, Tryz.ntmps35
    go_wp2_with (clear tok0; go_at_call 21; refine (K1.out _ HX0.out.bel).mono ?_; rintro e w2 ⟨rfl, hb⟩; have HX2 := Lib.hid (HX0.out.below hb); obtain ⟨x0, x1, x2, x3, x4, x5, x6⟩ := HX2.out.cells; clear hb; have tok1 : True := trivial)
    go_ret2
    exact ⟨by have h9 := HZ.out; injection h9 with h7 h8; rw [h7, h8] <;> rfl, HX2.out.bel⟩
  have h1' : ¬ (l.length : Int) < 2 := by omega
  have HFX := Lib.hid (hfix rfl h1)
  have HVL := Lib.hid (hval rfl h1)
  have HU0 : Hid (u = fixF c.ord.length (l.take 0) (l.drop 0)) := hu
  have HFC : Hid (fixC c l = setC c ((l.take l.length).map (getI c.ord))) := by unfold Hid; rw [List.take_length]; rfl
  clear hbad hshort hfix hval hu
  go_enter Tryz.func35, Tryz.ntmps35
  go_wp2_with (clear tok0; go_at_call 21; refine (K1.out _ HX0.out.bel).mono ?_; rintro e w2 ⟨rfl, hb⟩; have HX2 := Lib.hid (HX0.out.below hb); obtain ⟨x0, x1, x2, x3, x4, x5, x6⟩ := HX2.out.cells; clear hb; have tok1 : True := trivial)
  go_loopw [7, 23] (fun v i wr => ∃ (k : Nat) (out : List Int) (A' : Option Addr) (m q : Nat), k ≤ l.length ∧ i = .int .i64 k ∧ v = .slice A' m q ∧ Hid (FxO w w2 wr c (.slice A c.mdl.bats.length ca) (.slice A1 c.mdl.bows.length ca1) (.slice A2 c.bows.length ca2) (.slice A3 c.ord.length ca3) v out k) ∧ Hid (out = (l.take k).map (getI c.ord)) ∧ Hid (u = fixF c.ord.length (l.take k) (l.drop k))) (fun _ i _ => l.length - (intOf i).toNat)
  case atStart => exact ⟨0, [], none, 0, 0, Nat.zero_le _, rfl, rfl, Lib.hid (FxO.start HX2.out), Lib.hid rfl, HU0⟩
  case round =>
    clear x0 x1 x2 x3 x4 x5 x6 HX2 HU0
    obtain ⟨k, out, A', m, q, hk, rfl, rfl, HF, HO, HU⟩ := hrel
    obtain ⟨x0, x1, x2, x3, x4, x5, x6⟩ := HF.out.base.cells
    by_cases hlt : k < l.length
    · obtain ⟨b0, o, rfl, hbl, yy0⟩ := int_at HL.out hlt
      have y0 := (HF.out.base.bel.cell (p := ⟨b0, o + k, none⟩) hbl).trans yy0
      have hu2 := HU.out
      rw [fix_at hlt] at hu2
      have htk : (l.take (k + 1)).map (getI c.ord) = out ++ [getI c.ord l[k]] := by rw [HO.out, ← List.take_append_getElem hlt, List.map_append]; rfl
      obtain ⟨p, hp⟩ : ∃ p, p = l[k] := ⟨_, rfl⟩
      rw [← hp] at hu2 y0 htk
      clear yy0 HO HU
      by_cases q1 : p < 0
      · rw [if_pos (.inl q1)] at hu2
        subst hu2
        have HZ := Lib.hid (HFX.out (by decide))
        clear htk hp
        go_wp2
        go_ret2
        exact ⟨by have h9 := HZ.out; injection h9 with h7 h8; rw [h7, h8] <;> rfl, HF.out.base.bel⟩
      by_cases q2 : (c.ord.length : Int) ≤ p
      · rw [if_pos (.inr q2)] at hu2
        subst hu2
        have HZ := Lib.hid (HFX.out (by decide))
        clear htk hp
        go_wp2
        go_ret2
        exact ⟨by have h9 := HZ.out; injection h9 with h7 h8; rw [h7, h8] <;> rfl, HF.out.base.bel⟩
      rw [if_neg (by omega)] at hu2
      obtain ⟨a, rfl⟩ : ∃ a : Nat, p = (a : Int) := ⟨p.toNat, by omega⟩
      have ha : a < c.ord.length := by omega
      have kc : ∀ W, Below w.heap.size w W → Calls Tryz.prog 42 #[.slice (some ⟨b0, o, none⟩) k ca4, .int .i64 (a : Int)] W fun e W' => e = .returned (.bool (decide ((a : Int) ∈ l.take k))) ∧ Below W.heap.size W W' := fun W hW => by
        have ht := ((HL.out.keep (G := fun x => x < W.heap.size) elInt_good (Same.of_below hW) fun b h => Nat.lt_of_lt_of_le h hW.size).take (k := k) (by omega))
        exact int_Contains _ _ _ _ W ht fun b h => h
      clear hp
      by_cases q3 : (a : Int) ∈ l.take k
      · rw [if_pos q3] at hu2
        rw [decide_eq_true q3] at kc
        subst hu2
        have KC := Lib.hid kc
        have HZ := Lib.hid (HFX.out (by decide))
        clear kc q3 htk
        go_wp2_with (go_at_call 42; refine (KC.out _ HF.out.base.bel).mono ?_; rintro e w3 ⟨rfl, hb3⟩; have HF3 := Lib.hid (HF.out.below hb3); clear hb3)
        go_ret2
        exact ⟨by have h9 := HZ.out; injection h9 with h7 h8; rw [h7, h8] <;> rfl, HF3.out.base.bel⟩
      · rw [if_neg q3] at hu2
        rw [decide_eq_false q3] at kc
        have KC := Lib.hid kc
        have HU2 := Lib.hid hu2
        clear kc q3 hu2
        obtain ⟨b1, o1, rfl, hbl1, yy1⟩ := int_at HM.out.ord ha
        have hg1 : getI c.ord (a : Int) = c.ord[a] := by unfold getI; rw [Int.toNat_natCast, List.getElem?_eq_getElem ha]; rfl
        rw [hg1] at htk
        have y1 := (HF.out.base.bel.cell (p := ⟨b1, o1 + a, none⟩) hbl1).trans yy1
        obtain ⟨g, hg⟩ : ∃ g, g = c.ord[a] := ⟨_, rfl⟩
        rw [← hg] at htk y1
        have HTK := Lib.hid htk
        have hk17 : k < 1000 := by omega
        clear yy1 hg1 hg htk
        have tok1 : True := trivial
        go_wp2_with (first
          | (clear tok1; go_at_call 42; refine (KC.out _ HF.out.base.bel).mono ?_; rintro e w3 ⟨rfl, hb3⟩; have HF3 := Lib.hid (HF.out.below hb3); have y1' := (hb3.cell (p := ⟨b1, o1 + a, none⟩) (Nat.lt_of_lt_of_le hbl1 HF.out.base.bel.size)).trans y1; clear x0 x1 x2 x3 x4 x5 x6 y1 y0; have y1 := y1'; clear y1'; obtain ⟨x0, x1, x2, x3, x4, x5, x6⟩ := HF3.out.base.cells; clear hb3; have tok2 : True := trivial)
          | (clear tok2; at_builtin; refine wpList_append_sl _ rfl (.tmp 44) (.tmp 50) _ rfl E_into elInt_good _ _ out rfl (HF3.out.o1.alloc elInt_good _) ⟨w3.heap.size, 0, none⟩ 1 [.int .i64 g] rfl g rfl (cells_new _ _ _ _) (oneCells rfl) rfl (room8 HF3.out.n1 hk17).1 (room8 HF3.out.n1 hk17).2 (base2 HF3.out.sb.size _) ?_; intro v6 w6 hown6 hg6 hat6; have h6 := (HF3.out.alloc (.cells #[.int .i64 g] 3)).app hown6 hg6; have H6 := Lib.hid h6; clear x0 x1 x2 x3 x4 x5 x6; obtain ⟨x0, x1, x2, x3, x4, x5, x6⟩ := h6.base.cells; obtain ⟨A6, c6, rfl, hc61, hc62⟩ := (hown6.sl elInt_good).shape; clear hown6 hg6 hat6 h6; have tok3 : True := trivial))
        go_roundw
        case rel => exact ⟨k + 1, _, A6, _, c6, by omega, by go_num, rfl, Lib.hid (by have h7 := H6.out; simp only [List.length_append, List.length_singleton] at h7; exact h7), Lib.hid HTK.out.symm, HU2⟩
        case measure => simp [intOf]; omega
    · obtain rfl : k = l.length := by omega
      have hu2 := HU.out
      rw [fix_end] at hu2
      have hv := HVL.out hu2
      have hcha := HF.out.cha HM.out
      rw [HO.out, ← HFC.out] at hcha
      obtain ⟨hv1, hv2⟩ := hv
      have k2 := fun W (hW : Below wr.heap.size wr W) => K2.out W _ (hcha.below hW)
      have k3 := fun W (hW : Below wr.heap.size wr W) => K3.out W _ (hcha.below hW)
      have KA := Lib.hid (fun W => or_asChase c A A1 A2 A3 A' c.mdl.bats.length c.mdl.bows.length c.bows.length c.ord.length m ca ca1 ca2 ca3 q W)
      injection hv1 with hv3 hv4
      subst hv3; subst hv4
      have KS := Lib.hid k2
      have KV := Lib.hid k3
      have HX := Lib.hid HF.out.base
      have HB0 := Lib.hid (Below.refl wr.heap.size wr)
      have hl0 := HX.out.box.lt
      clear k2 k3 hcha hu2 HO HU HF HVL HFX HFC K1 K2 K3 HM HL
      have tok1 : True := trivial
      by_cases he : e1 = 0
      case neg =>
        have HZ := Lib.hid (hv2 he)
        have eu : (e1 != 0) = true := by simp [he]
        clear hv2 he
        go_wp2_with (first
          | (clear tok1; go_at_call 52; refine (KA.out _).mono ?_; rintro e w5 ⟨rfl, hb5⟩; have HX5 := Lib.hid (HX.out.below hb5); have HB5 := Lib.hid hb5; have HC5 := Lib.hid (Blk.new w5 28 #[.slice A c.mdl.bats.length ca, .slice A1 c.mdl.bows.length ca1, .slice A2 c.bows.length ca2, .int .i64 c.over, .int .i64 c.done, .int .i64 c.need, .slice A' m q]); clear x0 x1 x2 x3 x4 x5 x6; obtain ⟨x0, x1, x2, x3, x4, x5, x6⟩ := HX5.out.cells; clear hb5; have tok2 : True := trivial)
          | (clear tok2; go_at_call 13; refine (KS.out _ (HB5.out.alloc HB5.out.size _)).mono ?_; rintro e w6 ⟨rfl, hb6⟩; have HX6 := Lib.hid (HX5.out.below (al_back hb6)); have HB6 := Lib.hid (HB5.out.trans ((al_back hb6).mono HB5.out.size)); have HC6 := Lib.hid (HC5.out.below hb6 HC5.out.lt); clear x0 x1 x2 x3 x4 x5 x6; obtain ⟨x0, x1, x2, x3, x4, x5, x6⟩ := HX6.out.cells; have u0 := HC6.out.cell 0; have u1 := HC6.out.cell 1; have u2 := HC6.out.cell 2; have u3 := HC6.out.cell 3; have u4 := HC6.out.cell 4; have u5 := HC6.out.cell 5; have u6 := HC6.out.cell 6; have hl6 := HC6.out.lt; clear hb6; have tok3 : True := trivial))
        go_ret2
        exact ⟨by have h9 := HZ.out; injection h9 with h7 h8; rw [h7, h8] <;> rfl, Below.alloc HX6.out.bel HX6.out.bel.size _⟩
      subst he
      clear hv2
      go_wp2_with (first
        | (clear tok1; go_at_call 52; refine (KA.out _).mono ?_; rintro e w5 ⟨rfl, hb5⟩; have HX5 := Lib.hid (HX.out.below hb5); have HB5 := Lib.hid hb5; have HC5 := Lib.hid (Blk.new w5 28 #[.slice A c.mdl.bats.length ca, .slice A1 c.mdl.bows.length ca1, .slice A2 c.bows.length ca2, .int .i64 c.over, .int .i64 c.done, .int .i64 c.need, .slice A' m q]); clear x0 x1 x2 x3 x4 x5 x6; obtain ⟨x0, x1, x2, x3, x4, x5, x6⟩ := HX5.out.cells; clear hb5; have tok2 : True := trivial)
        | (clear tok2; go_at_call 13; refine (KS.out _ (HB5.out.alloc HB5.out.size _)).mono ?_; rintro e w6 ⟨rfl, hb6⟩; have HX6 := Lib.hid (HX5.out.below (al_back hb6)); have HB6 := Lib.hid (HB5.out.trans ((al_back hb6).mono HB5.out.size)); have HC6 := Lib.hid (HC5.out.below hb6 HC5.out.lt); clear x0 x1 x2 x3 x4 x5 x6; obtain ⟨x0, x1, x2, x3, x4, x5, x6⟩ := HX6.out.cells; have u0 := HC6.out.cell 0; have u1 := HC6.out.cell 1; have u2 := HC6.out.cell 2; have u3 := HC6.out.cell 3; have u4 := HC6.out.cell 4; have u5 := HC6.out.cell 5; have u6 := HC6.out.cell 6; have hl6 := HC6.out.lt; clear hb6; have tok3 : True := trivial)
        | (clear tok3; go_at_call 16; refine (KV.out _ (HB6.out.alloc HB6.out.size _)).mono ?_; rintro e w7 ⟨rfl, hb7⟩; have HX7 := Lib.hid (HX6.out.below (al_back hb7)); clear hb7; have tok4 : True := trivial))
      go_ret2
      exact ⟨rfl, HX7.out.bel⟩
set_option maxRecDepth 100000 in
set_option maxHeartbeats 1500000 in
theorem r45_Fixed (c : Chs) (l : List Int) (bv wv pv ov lv : Value) (w : World) (h : ChAt w (· < w.heap.size) bv wv pv ov c) (hl : Sl 1 elInt w (· < w.heap.size) lv l) (h100 : l.length ≤ 100) :
    Calls Tryz.prog 36 #[chV c bv wv pv ov, lv] w fun e w' => e = .returned (.tuple #[.int .i64 (fixedS c l).1, .int .i64 (fixedS c l).2]) ∧ Below w.heap.size w w' := by
  unfold chV
  obtain ⟨A, ca, rfl, hc1, hc2⟩ := h.mdl.bat.shape
  obtain ⟨A1, ca1, rfl, hc3, hc4⟩ := h.mdl.bow.shape
  obtain ⟨A2, ca2, rfl, hc5, hc6⟩ := h.bow.shape
  obtain ⟨A3, ca3, rfl, hc7, hc8⟩ := h.ord.shape
  obtain ⟨A4, ca4, rfl, hc9, hc10⟩ := hl.shape
  obtain ⟨⟨z1, z2⟩, hz⟩ : ∃ z, z = fixedS c l := ⟨_, rfl⟩
  rw [← hz]
  dsimp only
  have HX0 := Lib.hid (OTB.new w c (.slice A c.mdl.bats.length ca) (.slice A1 c.mdl.bows.length ca1) (.slice A2 c.bows.length ca2) (.slice A3 c.ord.length ca3))
  have k1 := fun W (hW : Below w.heap.size w W) => r45_Check c _ _ _ _ W (h.below hW)
  unfold chV at k1
  simp only [checkO_ref] at k1
  have HM := Lib.hid h
  have HL := Lib.hid hl
  have hbad : checkO c ≠ 0 → (z1, z2) = (0, checkO c) := fun h0 => by rw [hz]; unfold fixedS; rw [if_pos h0]
  have hshort : checkO c = 0 → l.length < 2 → (z1, z2) = (0, 9) := fun h0 h1 => by rw [hz]; unfold fixedS; rw [if_neg (by omega), if_pos h1]
  have hfix : checkO c = 0 → ¬ l.length < 2 → fixF c.ord.length [] l ≠ 0 → (z1, z2) = (0, fixF c.ord.length [] l) := fun h0 h1 h2 => by rw [hz]; unfold fixedS; rw [if_neg (by omega), if_neg h1, if_pos h2]
  have hval := fixed_val (c := c) (l := l)
  rw [← hz] at hval
  have k2 := fun (W0 : World) (v : Value) (hch : ChAt W0 (· < W0.heap.size) (.slice A c.mdl.bats.length ca) (.slice A1 c.mdl.bows.length ca1) (.slice A2 c.bows.length ca2) v (fixC c l)) => r44_Start (fixC c l) _ _ _ _ W0 hch
  obtain ⟨⟨⟨a1, a2, a3, a4, a5⟩, e1⟩, hst⟩ : ∃ x, x = startC (fixC c l) := ⟨_, rfl⟩
  rw [← hst] at hval
  dsimp only at hval
  simp only [← hst] at k2
  have k3 := fun (W0 : World) (v : Value) (hch : ChAt W0 (· < W0.heap.size) (.slice A c.mdl.bats.length ca) (.slice A1 c.mdl.bows.length ca1) (.slice A2 c.bows.length ca2) v (fixC c l)) => r44_Value (fixC c l) ⟨a1, a2, a3, a4, a5⟩ _ _ _ _ W0 hch
  obtain ⟨⟨v1, v2⟩, hvv⟩ : ∃ x, x = valueC (fixC c l) ⟨a1, a2, a3, a4, a5⟩ := ⟨_, rfl⟩
  rw [← hvv] at hval
  simp only [← hvv] at k3
  unfold chV stV at k2
  unfold chV stV at k3
  dsimp only at k2 k3
  obtain ⟨u0, hu0⟩ : ∃ x, x = checkO c := ⟨_, rfl⟩
  obtain ⟨u, hu⟩ : ∃ x, x = fixF c.ord.length [] l := ⟨_, rfl⟩
  simp only [← hu0] at k1 hbad hshort hfix hval
  rw [← hu] at hfix hval
  have K1 := Lib.hid k1
  have K2 := Lib.hid k2
  have K3 := Lib.hid k3
  have tok0 : True := trivial
  clear k1 k2 k3 h hl hz hst hvv hu0
  by_cases h0 : u0 = 0
  case neg =>
    have HZ := Lib.hid (hbad h0)
    have eu : (u0 != 0) = true := by simp [h0]
    clear hbad hshort hfix hval h0 hu h100
    go_enter Tryz.func36, Tryz.ntmps36
    go_wp2_with (clear tok0; go_at_call 22; refine (K1.out _ HX0.out.bel).mono ?_; rintro e w2 ⟨rfl, hb⟩; have HX2 := Lib.hid (HX0.out.below hb); obtain ⟨x0, x1, x2, x3, x4, x5, x6⟩ := HX2.out.cells; clear hb; have tok1 : True := trivial)
    go_ret2
    exact ⟨by have h9 := HZ.out; injection h9 with h7 h8; rw [h7, h8] <;> rfl, HX2.out.bel⟩
  subst h0
  by_cases h1 : l.length < 2
  · have HZ := Lib.hid (hshort rfl h1)
    have h1' : (l.length : Int) < 2 := by omega
    clear hbad hshort hfix hval hu h100
    go_enter Tryz.func36, Tryz.ntmps36
    go_wp2_with (clear tok0; go_at_call 22; refine (K1.out _ HX0.out.bel).mono ?_; rintro e w2 ⟨rfl, hb⟩; have HX2 := Lib.hid (HX0.out.below hb); obtain ⟨x0, x1, x2, x3, x4, x5, x6⟩ := HX2.out.cells; clear hb; have tok1 : True := trivial)
    go_ret2
    exact ⟨by have h9 := HZ.out; injection h9 with h7 h8; rw [h7, h8] <;> rfl, HX2.out.bel⟩
  have h1' : ¬ (l.length : Int) < 2 := by omega
  have HFX := Lib.hid (hfix rfl h1)
  have HVL := Lib.hid (hval rfl h1)
  have HU0 : Hid (u = fixF c.ord.length (l.take 0) (l.drop 0)) := hu
  have HFC : Hid (fixC c l = setC c ((l.take l.length).map (getI c.ord))) := by unfold Hid; rw [List.take_length]; rfl
  clear hbad hshort hfix hval hu
  go_enter Tryz.func36, Tryz.ntmps36
  go_wp2_with (clear tok0; go_at_call 22; refine (K1.out _ HX0.out.bel).mono ?_; rintro e w2 ⟨rfl, hb⟩; have HX2 := Lib.hid (HX0.out.below hb); obtain ⟨x0, x1, x2, x3, x4, x5, x6⟩ := HX2.out.cells; clear hb; have tok1 : True := trivial)
  go_loopw [7, 25] (fun v i wr => ∃ (k : Nat) (out : List Int) (A' : Option Addr) (m q : Nat), k ≤ l.length ∧ i = .int .i64 k ∧ v = .slice A' m q ∧ Hid (FxO w w2 wr c (.slice A c.mdl.bats.length ca) (.slice A1 c.mdl.bows.length ca1) (.slice A2 c.bows.length ca2) (.slice A3 c.ord.length ca3) v out k) ∧ Hid (out = (l.take k).map (getI c.ord)) ∧ Hid (u = fixF c.ord.length (l.take k) (l.drop k))) (fun _ i _ => l.length - (intOf i).toNat)
  case atStart => exact ⟨0, [], none, 0, 0, Nat.zero_le _, rfl, rfl, Lib.hid (FxO.start HX2.out), Lib.hid rfl, HU0⟩
  case round =>
    clear x0 x1 x2 x3 x4 x5 x6 HX2 HU0
    obtain ⟨k, out, A', m, q, hk, rfl, rfl, HF, HO, HU⟩ := hrel
    obtain ⟨x0, x1, x2, x3, x4, x5, x6⟩ := HF.out.base.cells
    by_cases hlt : k < l.length
    · obtain ⟨b0, o, rfl, hbl, yy0⟩ := int_at HL.out hlt
      have y0 := (HF.out.base.bel.cell (p := ⟨b0, o + k, none⟩) hbl).trans yy0
      have hu2 := HU.out
      rw [fix_at hlt] at hu2
      have htk : (l.take (k + 1)).map (getI c.ord) = out ++ [getI c.ord l[k]] := by rw [HO.out, ← List.take_append_getElem hlt, List.map_append]; rfl
      obtain ⟨p, hp⟩ : ∃ p, p = l[k] := ⟨_, rfl⟩
      rw [← hp] at hu2 y0 htk
      clear yy0 HO HU
      by_cases q1 : p < 0
      · rw [if_pos (.inl q1)] at hu2
        subst hu2
        have HZ := Lib.hid (HFX.out (by decide))
        clear htk hp
        go_wp2
        go_ret2
        exact ⟨by have h9 := HZ.out; injection h9 with h7 h8; rw [h7, h8] <;> rfl, HF.out.base.bel⟩
      by_cases q2 : (c.ord.length : Int) ≤ p
      · rw [if_pos (.inr q2)] at hu2
        subst hu2
        have HZ := Lib.hid (HFX.out (by decide))
        clear htk hp
        go_wp2
        go_ret2
        exact ⟨by have h9 := HZ.out; injection h9 with h7 h8; rw [h7, h8] <;> rfl, HF.out.base.bel⟩
      rw [if_neg (by omega)] at hu2
      obtain ⟨a, rfl⟩ : ∃ a : Nat, p = (a : Int) := ⟨p.toNat, by omega⟩
      have ha : a < c.ord.length := by omega
      have h7 : (a : Int) ∈ l.take k → (z1, z2) = (0, 7) := fun h => by rw [if_pos h] at hu2; subst hu2; exact HFX.out (by decide)
      have h8 : (a : Int) ∉ l.take k → u = fixF c.ord.length (l.take (k + 1)) (l.drop (k + 1)) := fun h => by rw [if_neg h] at hu2; exact hu2
      have H7 := Lib.hid h7
      have H8 := Lib.hid h8
      have HTK0 := Lib.hid htk
      clear h7 h8 htk hu2 hp
      obtain ⟨wo, rfl⟩ : ∃ wo : World, wo = wr := ⟨_, rfl⟩
      go_wp2
      go_loopw [43] (fun i wr => ∃ j : Nat, j ≤ k ∧ i = .int .i64 j ∧ Hid (FxO w w2 wr c (.slice A c.mdl.bats.length ca) (.slice A1 c.mdl.bows.length ca1) (.slice A2 c.bows.length ca2) (.slice A3 c.ord.length ca3) (.slice A' m q) out k) ∧ Hid ((a : Int) ∉ l.take j)) (fun i _ => k - (intOf i).toNat)
      case atStart => exact ⟨0, Nat.zero_le _, rfl, HF, Lib.hid (by simp)⟩
      case round =>
        clear x0 x1 x2 x3 x4 x5 x6 y0 HF
        obtain ⟨j, hj, rfl, HF, HN⟩ := hrel
        obtain ⟨x0, x1, x2, x3, x4, x5, x6⟩ := HF.out.base.cells
        by_cases hjk : j < k
        · have hjl : j < l.length := by omega
          obtain ⟨b2, o2, he2, hbl2, yy0⟩ := int_at HL.out hjl
          injection he2 with he2; injection he2 with he3 he4; subst he3; subst he4
          have y0 := (HF.out.base.bel.cell (p := ⟨b0, o + j, none⟩) hbl).trans yy0
          have hin : l[j] ∈ l.take k := List.mem_take_iff_getElem.2 ⟨j, by omega, rfl⟩
          have hno : (a : Int) ≠ l[j] → (a : Int) ∉ l.take (j + 1) := fun hne hm => by
            rw [← List.take_append_getElem hjl] at hm
            rcases List.mem_append.1 hm with hm | hm
            · exact HN.out hm
            · exact hne (by simpa using hm)
          obtain ⟨p, hp⟩ : ∃ p, p = l[j] := ⟨_, rfl⟩
          rw [← hp] at y0 hin hno
          clear hp yy0
          by_cases q3 : (a : Int) = p
          · subst q3
            have HZ := Lib.hid (H7.out hin)
            have e1 : ((a : Int) == (a : Int)) = true := beq_iff_eq.2 rfl
            clear hin hno
            go_wp2
            go_ret2
            exact ⟨by have h9 := HZ.out; injection h9 with h7 h8; rw [h7, h8] <;> rfl, HF.out.base.bel⟩
          · have e1 : ((a : Int) == p) = false := beq_eq_false_iff_ne.2 q3
            have HN2 := Lib.hid (hno q3)
            clear hin hno q3
            go_wp2
            go_roundw
            case rel => exact ⟨j + 1, by omega, by go_num, HF, HN2⟩
            case measure => simp [intOf]; omega
        · obtain rfl : j = k := by omega
          have HU2 := Lib.hid (H8.out HN.out)
          have htk := HTK0.out
          have k := j
          obtain ⟨b1, o1, rfl, hbl1, yy1⟩ := int_at HM.out.ord ha
          have hg1 : getI c.ord (a : Int) = c.ord[a] := by unfold getI; rw [Int.toNat_natCast, List.getElem?_eq_getElem ha]; rfl
          rw [hg1] at htk
          have y1 := (HF.out.base.bel.cell (p := ⟨b1, o1 + a, none⟩) hbl1).trans yy1
          obtain ⟨g, hg⟩ : ∃ g, g = c.ord[a] := ⟨_, rfl⟩
          rw [← hg] at htk y1
          have HTK := Lib.hid htk
          have hk17 : j < 1000 := by omega
          clear yy1 hg1 hg htk
          have tok2 : True := trivial
          go_wp2_with (first
            | (clear tok2; at_builtin; refine wpList_append_sl _ rfl (.tmp 51) (.tmp 57) _ rfl E_into elInt_good _ _ out rfl (HF.out.o1.alloc elInt_good _) ⟨wr.heap.size, 0, none⟩ 1 [.int .i64 g] rfl g rfl (cells_new _ _ _ _) (oneCells rfl) rfl (room8 HF.out.n1 hk17).1 (room8 HF.out.n1 hk17).2 (base2 HF.out.sb.size _) ?_; intro v6 w6 hown6 hg6 hat6; have h6 := (HF.out.alloc (.cells #[.int .i64 g] 3)).app hown6 hg6; have H6 := Lib.hid h6; clear x0 x1 x2 x3 x4 x5 x6; obtain ⟨x0, x1, x2, x3, x4, x5, x6⟩ := h6.base.cells; obtain ⟨A6, c6, rfl, hc61, hc62⟩ := (hown6.sl elInt_good).shape; clear hown6 hg6 hat6 h6; have tok3 : True := trivial))
          go_roundw
          case rel => exact ⟨j + 1, _, A6, _, c6, by omega, by go_num, rfl, Lib.hid (by have h7 := H6.out; simp only [List.length_append, List.length_singleton] at h7; exact h7), Lib.hid HTK.out.symm, HU2⟩
          case measure => simp [intOf]; omega
    · obtain rfl : k = l.length := by omega
      have hu2 := HU.out
      rw [fix_end] at hu2
      have hv := HVL.out hu2
      have hcha := HF.out.cha HM.out
      rw [HO.out, ← HFC.out] at hcha
      obtain ⟨hv1, hv2⟩ := hv
      have k2 := fun W (hW : Below wr.heap.size wr W) => K2.out W _ (hcha.below hW)
      have k3 := fun W (hW : Below wr.heap.size wr W) => K3.out W _ (hcha.below hW)
      have KA := Lib.hid (fun W => r45_of c A A1 A2 A3 A' c.mdl.bats.length c.mdl.bows.length c.bows.length c.ord.length m ca ca1 ca2 ca3 q W)
      injection hv1 with hv3 hv4
      subst hv3; subst hv4
      have KS := Lib.hid k2
      have KV := Lib.hid k3
      have HX := Lib.hid HF.out.base
      have HB0 := Lib.hid (Below.refl wr.heap.size wr)
      have hl0 := HX.out.box.lt
      clear k2 k3 hcha hu2 HO HU HF HVL HFX HFC K1 K2 K3 HM HL
      have tok1 : True := trivial
      clear hv2
      go_wp2_with (first
        | (clear tok1; go_at_call 55; refine (KA.out _).mono ?_; rintro e w5 ⟨rfl, hb5⟩; have HX5 := Lib.hid (HX.out.below hb5); have HB5 := Lib.hid hb5; have HC5 := Lib.hid (Blk.new w5 28 #[.slice A c.mdl.bats.length ca, .slice A1 c.mdl.bows.length ca1, .slice A2 c.bows.length ca2, .int .i64 c.over, .int .i64 c.done, .int .i64 c.need, .slice A' m q]); clear x0 x1 x2 x3 x4 x5 x6; obtain ⟨x0, x1, x2, x3, x4, x5, x6⟩ := HX5.out.cells; clear hb5; have tok2 : True := trivial)
        | (clear tok2; go_at_call 74; refine (KS.out _ (HB5.out.alloc HB5.out.size _)).mono ?_; rintro e w6 ⟨rfl, hb6⟩; have HX6 := Lib.hid (HX5.out.below (al_back hb6)); have HB6 := Lib.hid (HB5.out.trans ((al_back hb6).mono HB5.out.size)); have HC6 := Lib.hid (HC5.out.below hb6 HC5.out.lt); clear x0 x1 x2 x3 x4 x5 x6; obtain ⟨x0, x1, x2, x3, x4, x5, x6⟩ := HX6.out.cells; have u0 := HC6.out.cell 0; have u1 := HC6.out.cell 1; have u2 := HC6.out.cell 2; have u3 := HC6.out.cell 3; have u4 := HC6.out.cell 4; have u5 := HC6.out.cell 5; have u6 := HC6.out.cell 6; have hl6 := HC6.out.lt; clear hb6; have tok3 : True := trivial)
        | (clear tok3; go_at_call 75; refine (KV.out _ (HB6.out.alloc HB6.out.size _)).mono ?_; rintro e w7 ⟨rfl, hb7⟩; have HX7 := Lib.hid (HX6.out.below (al_back hb7)); clear hb7; have tok4 : True := trivial))
      go_ret2
      exact ⟨rfl, HX7.out.bel⟩
end Go.Proofs.YtfnfbojaiikigaaGreatDoor

namespace Go.Proofs.YtfnfbojaiikigaaGreatDoor
open Go.RowKit

set_option maxRecDepth 100000 in
set_option maxHeartbeats 1500000 in
theorem law_OrderFixed (c : Chs) (bv wv pv ov : Value) (l : List Int) (lv : Value) (w : World) (hg : GlobN w) (h : ChAt w (· < w.heap.size) bv wv pv ov c) (hl : Sl 1 elInt w (· < w.heap.size) lv l) :
    Calls Tryz.prog 9 #[chV c bv wv pv ov, lv] w fun e w' => e = .returned (.bool true) ∧ Below w.heap.size w w' := by
  unfold chV
  obtain ⟨A, ca, rfl, hc1, hc2⟩ := h.mdl.bat.shape
  obtain ⟨A1, ca1, rfl, hc3, hc4⟩ := h.mdl.bow.shape
  obtain ⟨A2, ca2, rfl, hc5, hc6⟩ := h.bow.shape
  obtain ⟨A3, ca3, rfl, hc7, hc8⟩ := h.ord.shape
  obtain ⟨A4, ca4, rfl, hc9, hc10⟩ := hl.shape
  have HX0 := Lib.hid (OTB.new w c (.slice A c.mdl.bats.length ca) (.slice A1 c.mdl.bows.length ca1) (.slice A2 c.bows.length ca2) (.slice A3 c.ord.length ca3))
  have hls : ∀ W, Below w.heap.size w W → Sl 1 elInt W (· < W.heap.size) (.slice A4 l.length ca4) l := fun W hW => hl.keep elInt_good (Same.of_below hW) fun b h => Nat.lt_of_lt_of_le h hW.size
  have k1 := fun W (hW : Below w.heap.size w W) => law45_awake W (hg.below hW)
  have k2 := fun W (hW : Below w.heap.size w W) => law45_Small c _ _ _ _ W (h.below hW)
  have k3 := fun W (hW : Below w.heap.size w W) => or_Best c _ _ _ _ W (h.below hW)
  have k4 := fun W (hW : Below w.heap.size w W) => r45_Best c _ _ _ _ W (h.below hW)
  have k5 := fun (h100 : l.length ≤ 100) W (hW : Below w.heap.size w W) => or_Fixed c l _ _ _ _ _ W (h.below hW) (hls W hW) h100
  have k6 := fun (h100 : l.length ≤ 100) W (hW : Below w.heap.size w W) => r45_Fixed c l _ _ _ _ _ W (h.below hW) (hls W hW) h100
  have hle := fixed_le (c := c) (l := l)
  obtain ⟨⟨⟨p, q⟩, v, e⟩, hbs⟩ : ∃ x, x = bestOS c := ⟨_, rfl⟩
  obtain ⟨⟨x, f⟩, hfs⟩ : ∃ x, x = fixedS c l := ⟨_, rfl⟩
  simp only [← hbs, ← hfs] at k3 k4 k5 k6 hle
  unfold chV at k2 k3 k4 k5 k6
  have K1 := Lib.hid k1
  have K3 := Lib.hid k3
  have K4 := Lib.hid k4
  have tok0 : True := trivial
  clear k1 k3 k4 hg hls h hl hbs hfs
  cases hs : smallT c
  · rw [hs] at k2
    have K2 := Lib.hid k2
    clear k2 hs k5 k6 hle
    go_enter Tryz.func9, Tryz.ntmps9
    go_wp2_with (first
      | (clear tok0; go_at_call 19; refine (K1.out _ HX0.out.bel).mono ?_; rintro e w1 ⟨rfl, hb⟩; have HX1 := Lib.hid (HX0.out.below hb); obtain ⟨x0, x1, x2, x3, x4, x5, x6⟩ := HX1.out.cells; clear hb; have tok1 : True := trivial)
      | (clear tok1; go_at_call 25; refine (K2.out _ HX1.out.bel).mono ?_; rintro e w2 ⟨rfl, hb⟩; have HX2 := Lib.hid (HX1.out.below hb); clear x0 x1 x2 x3 x4 x5 x6; obtain ⟨x0, x1, x2, x3, x4, x5, x6⟩ := HX2.out.cells; clear hb; have tok2 : True := trivial))
    go_ret
    exact ⟨rfl, HX2.out.bel⟩
  rw [hs] at k2
  have K2 := Lib.hid k2
  clear k2 hs
  by_cases h100 : 100 < l.length
  · have e1 : (100 : Int) < (l.length : Int) := by omega
    clear k5 k6 hle h100
    go_enter Tryz.func9, Tryz.ntmps9
    go_wp2_with (first
      | (clear tok0; go_at_call 19; refine (K1.out _ HX0.out.bel).mono ?_; rintro e w1 ⟨rfl, hb⟩; have HX1 := Lib.hid (HX0.out.below hb); obtain ⟨x0, x1, x2, x3, x4, x5, x6⟩ := HX1.out.cells; clear hb; have tok1 : True := trivial)
      | (clear tok1; go_at_call 25; refine (K2.out _ HX1.out.bel).mono ?_; rintro e w2 ⟨rfl, hb⟩; have HX2 := Lib.hid (HX1.out.below hb); clear x0 x1 x2 x3 x4 x5 x6; obtain ⟨x0, x1, x2, x3, x4, x5, x6⟩ := HX2.out.cells; clear hb; have tok2 : True := trivial))
    go_ret
    exact ⟨rfl, HX2.out.bel⟩
  have e1 : ¬ (100 : Int) < (l.length : Int) := by omega
  have K5 := Lib.hid (k5 (by omega))
  have K6 := Lib.hid (k6 (by omega))
  clear k5 k6 h100
  by_cases he : e = 0
  case neg =>
    have e2 : (e != 0) = true := by simp [he]
    clear hle he
    go_enter Tryz.func9, Tryz.ntmps9
    go_wp2_with (first
      | (clear tok0; go_at_call 19; refine (K1.out _ HX0.out.bel).mono ?_; rintro e w1 ⟨rfl, hb⟩; have HX1 := Lib.hid (HX0.out.below hb); obtain ⟨x0, x1, x2, x3, x4, x5, x6⟩ := HX1.out.cells; clear hb; have tok1 : True := trivial)
      | (clear tok1; go_at_call 25; refine (K2.out _ HX1.out.bel).mono ?_; rintro e w2 ⟨rfl, hb⟩; have HX2 := Lib.hid (HX1.out.below hb); clear x0 x1 x2 x3 x4 x5 x6; obtain ⟨x0, x1, x2, x3, x4, x5, x6⟩ := HX2.out.cells; clear hb; have tok2 : True := trivial)
      | (clear tok2; go_at_call 33; refine (K3.out _ HX2.out.bel).mono ?_; rintro e w3 ⟨rfl, hb⟩; have HX3 := Lib.hid (HX2.out.below hb); have HP3 := Lib.hid (Blk.new w3 68 #[.int .i64 p, .int .i64 q]); have hl3 := HX3.out.box.lt; clear x0 x1 x2 x3 x4 x5 x6; obtain ⟨x0, x1, x2, x3, x4, x5, x6⟩ := HX3.out.cells; clear hb; have tok3 : True := trivial)
      | (clear tok3; go_at_call 35; refine (K5.out _ (HX3.out.alloc (.cells #[.int .i64 p, .int .i64 q] 68)).bel).mono ?_; rintro e w4 ⟨rfl, hb⟩; have HX4 := Lib.hid (HX3.out.below (al_back hb)); clear x0 x1 x2 x3 x4 x5 x6; obtain ⟨x0, x1, x2, x3, x4, x5, x6⟩ := HX4.out.cells; clear hb; have tok4 : True := trivial))
    go_ret
    exact ⟨rfl, HX4.out.bel⟩
  by_cases hf : f = 0
  case neg =>
    have e2 : (e != 0) = false := by simp [he]
    have e3 : (f != 0) = true := by simp [hf]
    clear hle he hf
    go_enter Tryz.func9, Tryz.ntmps9
    go_wp2_with (first
      | (clear tok0; go_at_call 19; refine (K1.out _ HX0.out.bel).mono ?_; rintro e w1 ⟨rfl, hb⟩; have HX1 := Lib.hid (HX0.out.below hb); obtain ⟨x0, x1, x2, x3, x4, x5, x6⟩ := HX1.out.cells; clear hb; have tok1 : True := trivial)
      | (clear tok1; go_at_call 25; refine (K2.out _ HX1.out.bel).mono ?_; rintro e w2 ⟨rfl, hb⟩; have HX2 := Lib.hid (HX1.out.below hb); clear x0 x1 x2 x3 x4 x5 x6; obtain ⟨x0, x1, x2, x3, x4, x5, x6⟩ := HX2.out.cells; clear hb; have tok2 : True := trivial)
      | (clear tok2; go_at_call 33; refine (K3.out _ HX2.out.bel).mono ?_; rintro e w3 ⟨rfl, hb⟩; have HX3 := Lib.hid (HX2.out.below hb); have HP3 := Lib.hid (Blk.new w3 68 #[.int .i64 p, .int .i64 q]); have hl3 := HX3.out.box.lt; clear x0 x1 x2 x3 x4 x5 x6; obtain ⟨x0, x1, x2, x3, x4, x5, x6⟩ := HX3.out.cells; clear hb; have tok3 : True := trivial)
      | (clear tok3; go_at_call 35; refine (K5.out _ (HX3.out.alloc (.cells #[.int .i64 p, .int .i64 q] 68)).bel).mono ?_; rintro e w4 ⟨rfl, hb⟩; have HX4 := Lib.hid (HX3.out.below (al_back hb)); clear x0 x1 x2 x3 x4 x5 x6; obtain ⟨x0, x1, x2, x3, x4, x5, x6⟩ := HX4.out.cells; clear hb; have tok4 : True := trivial))
    go_ret
    exact ⟨rfl, HX4.out.bel⟩
  have e4 : x ≤ v := hle he hf
  have e2 : (e != 0) = false := by simp [he]
  have e3 : (f != 0) = false := by simp [hf]
  clear hle he hf
  go_enter Tryz.func9, Tryz.ntmps9
  go_wp2_with (first
    | (clear tok0; go_at_call 19; refine (K1.out _ HX0.out.bel).mono ?_; rintro e w1 ⟨rfl, hb⟩; have HX1 := Lib.hid (HX0.out.below hb); obtain ⟨x0, x1, x2, x3, x4, x5, x6⟩ := HX1.out.cells; clear hb; have tok1 : True := trivial)
    | (clear tok1; go_at_call 25; refine (K2.out _ HX1.out.bel).mono ?_; rintro e w2 ⟨rfl, hb⟩; have HX2 := Lib.hid (HX1.out.below hb); clear x0 x1 x2 x3 x4 x5 x6; obtain ⟨x0, x1, x2, x3, x4, x5, x6⟩ := HX2.out.cells; clear hb; have tok2 : True := trivial)
    | (clear tok2; go_at_call 33; refine (K3.out _ HX2.out.bel).mono ?_; rintro e w3 ⟨rfl, hb⟩; have HX3 := Lib.hid (HX2.out.below hb); have HP3 := Lib.hid (Blk.new w3 68 #[.int .i64 p, .int .i64 q]); have hl3 := HX3.out.box.lt; clear x0 x1 x2 x3 x4 x5 x6; obtain ⟨x0, x1, x2, x3, x4, x5, x6⟩ := HX3.out.cells; clear hb; have tok3 : True := trivial)
    | (clear tok3; go_at_call 35; refine (K5.out _ (HX3.out.alloc (.cells #[.int .i64 p, .int .i64 q] 68)).bel).mono ?_; rintro e w4 ⟨rfl, hb⟩; have HX4 := Lib.hid (HX3.out.below (al_back hb)); clear x0 x1 x2 x3 x4 x5 x6; obtain ⟨x0, x1, x2, x3, x4, x5, x6⟩ := HX4.out.cells; clear hb; have tok4 : True := trivial))
  go_ret
  exact ⟨rfl, HX4.out.bel⟩
set_option maxRecDepth 100000 in
set_option maxHeartbeats 1500000 in
theorem law_OrderBest (c : Chs) (bv wv pv ov : Value) (l : List Int) (lv : Value) (w : World) (hg : GlobN w) (h : ChAt w (· < w.heap.size) bv wv pv ov c) (hl : Sl 1 elInt w (· < w.heap.size) lv l) :
    Calls Tryz.prog 8 #[chV c bv wv pv ov, lv] w fun e w' => e = .returned (.bool true) ∧ Below w.heap.size w w' := by
  unfold chV
  obtain ⟨A, ca, rfl, hc1, hc2⟩ := h.mdl.bat.shape
  obtain ⟨A1, ca1, rfl, hc3, hc4⟩ := h.mdl.bow.shape
  obtain ⟨A2, ca2, rfl, hc5, hc6⟩ := h.bow.shape
  obtain ⟨A3, ca3, rfl, hc7, hc8⟩ := h.ord.shape
  obtain ⟨A4, ca4, rfl, hc9, hc10⟩ := hl.shape
  have HX0 := Lib.hid (OTB.new w c (.slice A c.mdl.bats.length ca) (.slice A1 c.mdl.bows.length ca1) (.slice A2 c.bows.length ca2) (.slice A3 c.ord.length ca3))
  have hls : ∀ W, Below w.heap.size w W → Sl 1 elInt W (· < W.heap.size) (.slice A4 l.length ca4) l := fun W hW => hl.keep elInt_good (Same.of_below hW) fun b h => Nat.lt_of_lt_of_le h hW.size
  have k1 := fun W (hW : Below w.heap.size w W) => law45_awake W (hg.below hW)
  have k2 := fun W (hW : Below w.heap.size w W) => law45_Small c _ _ _ _ W (h.below hW)
  have k3 := fun W (hW : Below w.heap.size w W) => or_Best c _ _ _ _ W (h.below hW)
  have k4 := fun W (hW : Below w.heap.size w W) => r45_Best c _ _ _ _ W (h.below hW)
  have k5 := fun (h100 : l.length ≤ 100) W (hW : Below w.heap.size w W) => or_Fixed c l _ _ _ _ _ W (h.below hW) (hls W hW) h100
  have k6 := fun (h100 : l.length ≤ 100) W (hW : Below w.heap.size w W) => r45_Fixed c l _ _ _ _ _ W (h.below hW) (hls W hW) h100
  have hle := fixed_le (c := c) (l := l)
  obtain ⟨⟨⟨p, q⟩, v, e⟩, hbs⟩ : ∃ x, x = bestOS c := ⟨_, rfl⟩
  obtain ⟨⟨x, f⟩, hfs⟩ : ∃ x, x = fixedS c l := ⟨_, rfl⟩
  simp only [← hbs, ← hfs] at k3 k4 k5 k6 hle
  unfold chV at k2 k3 k4 k5 k6
  have K1 := Lib.hid k1
  have K3 := Lib.hid k3
  have K4 := Lib.hid k4
  have tok0 : True := trivial
  clear k1 k3 k4 hg hls h hl hbs hfs
  cases hs : smallT c
  · rw [hs] at k2
    have K2 := Lib.hid k2
    clear k2 hs k5 k6 hle
    go_enter Tryz.func8, Tryz.ntmps8
    go_wp2_with (first
      | (clear tok0; go_at_call 19; refine (K1.out _ HX0.out.bel).mono ?_; rintro e w1 ⟨rfl, hb⟩; have HX1 := Lib.hid (HX0.out.below hb); obtain ⟨x0, x1, x2, x3, x4, x5, x6⟩ := HX1.out.cells; clear hb; have tok1 : True := trivial)
      | (clear tok1; go_at_call 25; refine (K2.out _ HX1.out.bel).mono ?_; rintro e w2 ⟨rfl, hb⟩; have HX2 := Lib.hid (HX1.out.below hb); clear x0 x1 x2 x3 x4 x5 x6; obtain ⟨x0, x1, x2, x3, x4, x5, x6⟩ := HX2.out.cells; clear hb; have tok2 : True := trivial))
    go_ret
    exact ⟨rfl, HX2.out.bel⟩
  rw [hs] at k2
  have K2 := Lib.hid k2
  clear k2 hs
  by_cases h100 : 100 < l.length
  · have e1 : (100 : Int) < (l.length : Int) := by omega
    clear k5 k6 hle h100
    go_enter Tryz.func8, Tryz.ntmps8
    go_wp2_with (first
      | (clear tok0; go_at_call 19; refine (K1.out _ HX0.out.bel).mono ?_; rintro e w1 ⟨rfl, hb⟩; have HX1 := Lib.hid (HX0.out.below hb); obtain ⟨x0, x1, x2, x3, x4, x5, x6⟩ := HX1.out.cells; clear hb; have tok1 : True := trivial)
      | (clear tok1; go_at_call 25; refine (K2.out _ HX1.out.bel).mono ?_; rintro e w2 ⟨rfl, hb⟩; have HX2 := Lib.hid (HX1.out.below hb); clear x0 x1 x2 x3 x4 x5 x6; obtain ⟨x0, x1, x2, x3, x4, x5, x6⟩ := HX2.out.cells; clear hb; have tok2 : True := trivial))
    go_ret
    exact ⟨rfl, HX2.out.bel⟩
  have e1 : ¬ (100 : Int) < (l.length : Int) := by omega
  have K5 := Lib.hid (k5 (by omega))
  have K6 := Lib.hid (k6 (by omega))
  clear k5 k6 h100
  clear hle
  go_enter Tryz.func8, Tryz.ntmps8
  go_wp2_with (first
    | (clear tok0; go_at_call 19; refine (K1.out _ HX0.out.bel).mono ?_; rintro e w1 ⟨rfl, hb⟩; have HX1 := Lib.hid (HX0.out.below hb); obtain ⟨x0, x1, x2, x3, x4, x5, x6⟩ := HX1.out.cells; clear hb; have tok1 : True := trivial)
    | (clear tok1; go_at_call 25; refine (K2.out _ HX1.out.bel).mono ?_; rintro e w2 ⟨rfl, hb⟩; have HX2 := Lib.hid (HX1.out.below hb); clear x0 x1 x2 x3 x4 x5 x6; obtain ⟨x0, x1, x2, x3, x4, x5, x6⟩ := HX2.out.cells; clear hb; have tok2 : True := trivial)
    | (clear tok2; go_at_call 33; refine (K3.out _ HX2.out.bel).mono ?_; rintro e w3 ⟨rfl, hb⟩; have HX3 := Lib.hid (HX2.out.below hb); have HP3 := Lib.hid (Blk.new w3 68 #[.int .i64 p, .int .i64 q]); have hl3 := HX3.out.box.lt; clear x0 x1 x2 x3 x4 x5 x6; obtain ⟨x0, x1, x2, x3, x4, x5, x6⟩ := HX3.out.cells; clear hb; have tok3 : True := trivial)
    | (clear tok3; go_at_call 34; refine (K4.out _ (HX3.out.alloc (.cells #[.int .i64 p, .int .i64 q] 68)).bel).mono ?_; rintro e w4 ⟨rfl, hb⟩; have HX4 := Lib.hid (HX3.out.below (al_back hb)); have HP4 := Lib.hid (HP3.out.below hb HP3.out.lt); have HQ4 := Lib.hid (Blk.new w4 68 #[.int .i64 p, .int .i64 q]); have hl4 := HX4.out.box.lt; have hl4p := HP4.out.lt; clear x0 x1 x2 x3 x4 x5 x6; obtain ⟨x0, x1, x2, x3, x4, x5, x6⟩ := HX4.out.cells; have p0 := HP4.out.cell 0; have p1 := HP4.out.cell 1; clear hb; have tok4 : True := trivial)
    | (clear tok4; go_at_call 35; refine (K5.out _ (HX4.out.alloc (.cells #[.int .i64 p, .int .i64 q] 68)).bel).mono ?_; rintro e w5 ⟨rfl, hb⟩; have HX5 := Lib.hid (HX4.out.below (al_back hb)); have HP5 := Lib.hid (HP4.out.below (al_back hb) HP4.out.lt); have HQ5 := Lib.hid (HQ4.out.below hb HQ4.out.lt); clear x0 x1 x2 x3 x4 x5 x6 p0 p1; obtain ⟨x0, x1, x2, x3, x4, x5, x6⟩ := HX5.out.cells; clear hb; have tok5 : True := trivial)
    | (clear tok5; go_at_call 36; refine (K6.out _ HX5.out.bel).mono ?_; rintro e w6 ⟨rfl, hb⟩; have HX6 := Lib.hid (HX5.out.below hb); have HP6 := Lib.hid (HP5.out.below hb HP5.out.lt); have HQ6 := Lib.hid (HQ5.out.below hb HQ5.out.lt); clear x0 x1 x2 x3 x4 x5 x6; obtain ⟨x0, x1, x2, x3, x4, x5, x6⟩ := HX6.out.cells; have p0 := HP6.out.cell 0; have p1 := HP6.out.cell 1; have r0 := HQ6.out.cell 0; have r1 := HQ6.out.cell 1; clear hb; have tok6 : True := trivial))
  go_ret
  exact ⟨ret_b (by simp), HX6.out.bel⟩
end Go.Proofs.YtfnfbojaiikigaaGreatDoor

namespace Go.Proofs.YtfnfbojaiikigaaGreatDoor
open Go.ChangeShapes Go.WideShapes Go.ChangeAt Go.RowKit
section
variable {H : Type} {enc : TypeId × Value → H} {W : World}
set_option maxRecDepth 100000 in
theorem open_ints {r : Reach} {b0 : Nat} {v : Value} {d : DataW H} {p : List MemPlace} (hv : Value.okWide Tryz.prog W r b0 26 v) (h : DataW.Trod enc Tryz.prog W 0 (fun _ => true) true 26 v d p) :
    ∃ ls, Sl 1 elInt W (· < W.heap.size) v ls := by
  obtain ⟨a, len, cap, rfl⟩ := okWide_slice Tryz.underlying26 hv
  obtain ⟨fuel, hf⟩ := h
  obtain ⟨v, l, e1, hsl⟩ := sl_raw (size := 1) (el := elInt) Tryz.underlying26 cellsI' (by decide) (fun h => int_one8 h) hf
  have g1 : v = .slice a len cap := by simp [Value.cells] at e1; exact e1.symm
  rw [← g1]
  exact ⟨l, hsl⟩
end
end Go.Proofs.YtfnfbojaiikigaaGreatDoor
