/- Several texts of this family in one: Z3 Z4 Z5 Z6 Z7 Z8 Z9 Z10 Z11 Z12 Z13 Z17. -/
import Derived.Test.YtfnfbojaiikigaaGreatDoorOC2
import Derived.Test.YtfnfbojaiikigaaGreatDoorYM1
import Derived.Laws.EntriesVeiled
set_option linter.unusedSimpArgs false
set_option linter.unusedVariables false
namespace Go.Proofs.YtfnfbojaiikigaaGreatDoor
open Go.RowKit

theorem oblk_r (w : World) (o1 o2 o3 : Obj) : Blk ((((w.alloc o1).alloc o2).alloc o3).alloc (.cells #[.int .i64 0, .int .i64 0, .int .i64 0, .int .i64 0, .int .u16 0] 53)) (w.heap.size + 1 + 1 + 1) 53 #[.int .i64 0, .int .i64 0, .int .i64 0, .int .i64 0, .int .u16 0] := by
  have h := Blk.new (((w.alloc o1).alloc o2).alloc o3) 53 #[.int .i64 0, .int .i64 0, .int .i64 0, .int .i64 0, .int .u16 0]
  rwa [World.size_alloc, World.size_alloc, World.size_alloc] at h
theorem oblk_rv (w : World) (o1 o2 o3 : Obj) (x0 x1 x2 x3 x4 : Value) : Blk ((((w.alloc o1).alloc o2).alloc o3).alloc (.cells #[x0, x1, x2, x3, x4] 53)) (w.heap.size + 1 + 1 + 1) 53 #[x0, x1, x2, x3, x4] := by
  have h := Blk.new (((w.alloc o1).alloc o2).alloc o3) 53 #[x0, x1, x2, x3, x4]
  rwa [World.size_alloc, World.size_alloc, World.size_alloc] at h
theorem or_send_ret {R' : Ending → World → Prop} {a : Act} {w : World} {x0 x1 x2 x3 x4 : Value} {g : Nat} (h2 : a.tmps[4]? = some (.pointer (some ⟨g, 0, none⟩))) (hb : Blk w g 53 #[x0, x1, x2, x3, x4])
    (hd : a.defers = []) (hR : R' (.returned (.agg #[x0, x1, x2, x3, x4])) w) : bodyPost Tryz.prog Tryz.f62 R' .ret a w := by
  have r0 := hb.cell 0
  have r1 := hb.cell 1
  have r2 := hb.cell 2
  have r3 := hb.cell 3
  have r4 := hb.cell 4
  simp only [List.getElem?_toArray, List.getElem?_cons_zero, List.getElem?_cons_succ] at r0 r1 r2 r3 r4
  refine bodyPost_ret (v := .agg #[x0, x1, x2, x3, x4]) (by simp [results, Tryz.results62, go_sem, h2, r0, r1, r2, r3, r4]) hd hR
set_option maxRecDepth 100000 in
set_option maxHeartbeats 4000000 in
theorem or_send (s : Ost) (i : Int) (w : World) (hw : 0 ≤ s.wait ∧ s.wait < 65536) (hi : 0 ≤ i ∧ i < 16) :
    Calls Tryz.prog 62 #[osV s, .int .i64 i] w fun e w' => e = .returned (osV (sendO s i)) ∧ Below w.heap.size w w' := by
  obtain ⟨z, hz⟩ : ∃ z, z = sendO s i := ⟨_, rfl⟩
  rw [← hz]
  unfold sendO clrW at hz
  obtain ⟨a, b, c, d, wt⟩ := s
  obtain ⟨hi1, hi2⟩ := hi
  obtain ⟨hw1, hw2⟩ := hw
  unfold osV
  dsimp only at hw1 hw2 hz ⊢
  by_cases h1 : c < 0
  · rw [if_pos h1] at hz
    have HZ := Lib.hid hz
    clear hz
    go_enter Tryz.func62, Tryz.ntmps62
    go_wp2
    all_goals go_region
    all_goals go_wp2
    all_goals
      apply or_send_ret (g := w.heap.size + 1) (h2 := rfl) (hd := rfl)
      case hb =>
        repeat (with_reducible refine Blk.drewNB ?_ _)
        first | exact blk_two _ _ _ _ | exact (blk_two _ _ _ _).drew
      case hR =>
        refine ⟨by rw [HZ.out] <;> rfl, ?_⟩
        repeat (with_reducible refine Below.drewN_ ?_ _)
        first | exact below_two _ _ _ | exact Below.drew (below_two _ _ _)
  · rw [if_neg h1] at hz
    have HZ := Lib.hid hz
    clear hz
    go_enter Tryz.func62, Tryz.ntmps62
    go_wp2
    all_goals go_region
    all_goals go_wp2
    all_goals
      apply or_send_ret (g := w.heap.size + 1) (h2 := rfl) (hd := rfl)
      case hb =>
        repeat (with_reducible refine Blk.drewNB ?_ _)
        first | exact blk_two _ _ _ _ | exact (blk_two _ _ _ _).drew
      case hR =>
        refine ⟨by rw [HZ.out] <;> rfl, ?_⟩
        repeat (with_reducible refine Below.drewN_ ?_ _)
        first | exact below_two _ _ _ | exact Below.drew (below_two _ _ _)
set_option maxRecDepth 100000 in
set_option maxHeartbeats 4000000 in
theorem or_moves (c : Chs) (s : Ost) (bv wv pv ov : Value) (w : World) (h : ChAt w (· < w.heap.size) bv wv pv ov c) (hc : OkC c) (hs : OkOs c s) (h1 : s.ball ≠ c.bows.length) (h2 : vacO s = false) :
    Calls Tryz.prog 105 #[chV c bv wv pv ov, osV s] w fun e w' => ∃ A n k, e = .returned (.slice A n k) ∧ Below w.heap.size w w' ∧ Sl 3 elOtc w' (fun b => w.heap.size ≤ b ∧ b < w'.heap.size) (.slice A n k) (mvO c s) := by
  unfold chV osV
  obtain ⟨ball, need, str, par, wait⟩ := s
  obtain ⟨A, ca, rfl, hc1, hc2⟩ := h.mdl.bat.shape
  obtain ⟨A1, ca1, rfl, hc3, hc4⟩ := h.mdl.bow.shape
  obtain ⟨A2, ca2, rfl, hc5, hc6⟩ := h.bow.shape
  obtain ⟨A3, ca3, rfl, hc7, hc8⟩ := h.ord.shape
  have hx := OSB.new w c (.slice A c.mdl.bats.length ca) (.slice A1 c.mdl.bows.length ca1) (.slice A2 c.bows.length ca2) (.slice A3 c.ord.length ca3) ⟨ball, need, str, par, wait⟩
  have HX := Lib.hid hx
  have HM := Lib.hid h
  obtain ⟨i, j, bt, bw, e1, e2, s0, s1, i0, i1, j0, j1, f1, f2, hsh, hq5⟩ := mvO_at hc hs h1 h2
  have sn := hs.str.2
  have sb := hs.ball.1
  dsimp only at e1 e2 s0 s1 sn sb
  obtain ⟨a, rfl⟩ : ∃ a : Nat, str = (a : Int) := ⟨str.toNat, by omega⟩
  obtain ⟨e, rfl⟩ : ∃ a : Nat, ball = (a : Int) := ⟨ball.toNat, by omega⟩
  obtain ⟨i, rfl⟩ : ∃ a : Nat, i = (a : Int) := ⟨i.toNat, by omega⟩
  obtain ⟨j, rfl⟩ : ∃ a : Nat, j = (a : Int) := ⟨j.toNat, by omega⟩
  rw [Int.toNat_natCast] at e1 e2 f1 f2
  have la : a < c.ord.length := by omega
  have le : e < c.bows.length := by omega
  have li : i < c.mdl.bats.length := by omega
  have lj : j < c.mdl.bows.length := by omega
  have ga : c.ord[a] = (i : Int) := by rw [List.getElem?_eq_getElem la] at e1; exact Option.some.inj e1
  have ge : c.bows[e] = (j : Int) := by rw [List.getElem?_eq_getElem le] at e2; exact Option.some.inj e2
  have gi : c.mdl.bats[i] = bt := by rw [List.getElem?_eq_getElem li] at f1; exact Option.some.inj f1
  have gj : c.mdl.bows[j] = bw := by rw [List.getElem?_eq_getElem lj] at f2; exact Option.some.inj f2
  obtain ⟨b0, o0, rfl, hb0, z0⟩ := int_at h.ord la
  obtain ⟨b1, o1, rfl, hb1, z1⟩ := int_at h.bow le
  obtain ⟨b2, o2, v, rfl, hb2, hq3, z2, hv, hq1⟩ := bat_at h.mdl.bat li
  obtain ⟨b3, o3, rfl, hb3, hq4, z3, hq2⟩ := bow_at h.mdl.bow lj
  rw [ga] at z0
  rw [ge] at z1
  rw [gi] at hv
  rw [gj] at z3
  have ks := fun W (hW : Below w.heap.size w W) => m_Shift bt.dist v bw.shift W (hv.keep elOtc_good (Same.of_below hW) fun b h => Nat.lt_of_lt_of_le h hW.size)
  rw [hsh] at ks
  obtain ⟨n, hn⟩ : ∃ n, n = bw.shift := ⟨_, rfl⟩
  rw [← hn] at ks z3
  obtain ⟨l, hl⟩ : ∃ l, l = mvO c ⟨(e : Int), need, (a : Int), par, wait⟩ := ⟨_, rfl⟩
  rw [← hl] at ks ⊢
  have KS := Lib.hid ks
  obtain ⟨W, hW⟩ : ∃ W, W = (w.alloc (.cells (chC c (.slice (some ⟨b2, o2, none⟩) c.mdl.bats.length ca) (.slice (some ⟨b3, o3, none⟩) c.mdl.bows.length ca1) (.slice (some ⟨b1, o1, none⟩) c.bows.length ca2) (.slice (some ⟨b0, o0, none⟩) c.ord.length ca3)) 50)).alloc (.cells #[.int .i64 (e : Int), .int .i64 need, .int .i64 (a : Int), .int .i64 par, .int .u16 wait] 53) := ⟨_, rfl⟩
  have hx2 : OSB w W w.heap.size c (.slice (some ⟨b2, o2, none⟩) c.mdl.bats.length ca) (.slice (some ⟨b3, o3, none⟩) c.mdl.bows.length ca1) (.slice (some ⟨b1, o1, none⟩) c.bows.length ca2) (.slice (some ⟨b0, o0, none⟩) c.ord.length ca3) ⟨(e : Int), need, (a : Int), par, wait⟩ := by rw [hW]; exact hx
  have y0 : W.cell? ⟨b0, o0 + a, none⟩ = some (.int .i64 (i : Int)) := (hx2.bel.cell (p := ⟨b0, o0 + a, none⟩) hb0).trans z0
  have y1 : W.cell? ⟨b1, o1 + e, none⟩ = some (.int .i64 (j : Int)) := (hx2.bel.cell (p := ⟨b1, o1 + e, none⟩) hb1).trans z1
  have y2 : W.cell? ⟨b2, o2 + i * 2 + 1, none⟩ = some v := (hx2.bel.cell (p := ⟨b2, o2 + i * 2 + 1, none⟩) hb2).trans z2
  have y3 : W.cell? ⟨b3, o3 + j * 2 + 1, none⟩ = some (.int .i64 n) := (hx2.bel.cell (p := ⟨b3, o3 + j * 2 + 1, none⟩) hb3).trans z3
  have HX2 := Lib.hid hx2
  have Z0 := Lib.hid z0
  have Z1 := Lib.hid z1
  have Z2 := Lib.hid z2
  have Z3 := Lib.hid z3
  have B0 := Lib.hid hb0
  have B1 := Lib.hid hb1
  have B2 := Lib.hid hb2
  have B3 := Lib.hid hb3
  have HW := Lib.hid hW
  have p1 : (0 : Int) ≤ (a : Int) := by omega
  have p2 : (a : Int) < (c.ord.length : Int) := by omega
  have p3 : (0 : Int) ≤ (e : Int) := by omega
  have p4 : (e : Int) < (c.bows.length : Int) := by omega
  have p5 : (0 : Int) ≤ (i : Int) := by omega
  have p6 : (i : Int) < (c.mdl.bats.length : Int) := by omega
  have p7 : (0 : Int) ≤ (j : Int) := by omega
  have p8 : (j : Int) < (c.mdl.bows.length : Int) := by omega
  clear hq1 hq2 hq3 hq4 hq5 ks hn hl hsh hv z0 z1 z2 z3 hb0 hb1 hb2 hb3 ga ge gi gj la le li lj e1 e2 f1 f2 s0 s1 i0 i1 j0 j1 sn sb h1 h2 hs hc hx h HM HX hx2 hW y0 y1 y2 y3
  go_enter Tryz.func105, Tryz.ntmps105
  go_wp2
  unfold chC at HW
  rw [← HW.out]
  clear HW
  have y0 : W.cell? ⟨b0, o0 + a, none⟩ = some (.int .i64 (i : Int)) := (HX2.out.bel.cell (p := ⟨b0, o0 + a, none⟩) B0.out).trans Z0.out
  have y1 : W.cell? ⟨b1, o1 + e, none⟩ = some (.int .i64 (j : Int)) := (HX2.out.bel.cell (p := ⟨b1, o1 + e, none⟩) B1.out).trans Z1.out
  have y2 : W.cell? ⟨b2, o2 + i * 2 + 1, none⟩ = some v := (HX2.out.bel.cell (p := ⟨b2, o2 + i * 2 + 1, none⟩) B2.out).trans Z2.out
  have y3 : W.cell? ⟨b3, o3 + j * 2 + 1, none⟩ = some (.int .i64 n) := (HX2.out.bel.cell (p := ⟨b3, o3 + j * 2 + 1, none⟩) B3.out).trans Z3.out
  obtain ⟨x0, x1, x2, x3, x4, x5, x6, t0, t1, t2, t3, t4⟩ := HX2.out.cells
  dsimp only at t0 t1 t2 t3 t4
  have HXD := Lib.hid HX2.out.drew
  go_region_held3 (fun w' => w'.cell? ⟨w.heap.size, 0, none⟩ = some (.slice (some ⟨b2, o2, none⟩) c.mdl.bats.length ca) ∧ w'.cell? ⟨w.heap.size, 1, none⟩ = some (.slice (some ⟨b3, o3, none⟩) c.mdl.bows.length ca1) ∧ w'.cell? ⟨w.heap.size, 2, none⟩ = some (.slice (some ⟨b1, o1, none⟩) c.bows.length ca2) ∧ w'.cell? ⟨w.heap.size, 6, none⟩ = some (.slice (some ⟨b0, o0, none⟩) c.ord.length ca3) ∧ w'.cell? ⟨w.heap.size + 1, 0, none⟩ = some (.int .i64 (e : Int)) ∧ w'.cell? ⟨w.heap.size + 1, 2, none⟩ = some (.int .i64 (a : Int)) ∧ w'.cell? ⟨b0, o0 + a, none⟩ = some (.int .i64 (i : Int)) ∧ w'.cell? ⟨b1, o1 + e, none⟩ = some (.int .i64 (j : Int)) ∧ w'.cell? ⟨b2, o2 + i * 2 + 1, none⟩ = some v ∧ w'.cell? ⟨b3, o3 + j * 2 + 1, none⟩ = some (.int .i64 n)) (first | exact ⟨x0, x1, x2, x6, t0, t2, u0, u1, u2, u3⟩ | exact ⟨x0, x1, x2, x6, t0, t2, y0, y1, y2, y3⟩ | go_keep) ((go_at_call 90; refine (KS.out _ HXD.out.bel).mono ?_; rintro e4 w4 ⟨v4, rfl, hs4, hb4⟩; obtain ⟨A4, c4, rfl, hc41, hc42⟩ := hs4.shape; have HX4 := Lib.hid (HXD.out.below hb4); obtain ⟨x0, x1, x2, x3, x4, x5, x6, t0, t1, t2, t3, t4⟩ := HX4.out.cells; dsimp only at t0 t1 t2 t3 t4; have u0 := (hb4.cell (p := ⟨b0, o0 + a, none⟩) (Nat.lt_of_lt_of_le B0.out HXD.out.bel.size)).trans y0; have u1 := (hb4.cell (p := ⟨b1, o1 + e, none⟩) (Nat.lt_of_lt_of_le B1.out HXD.out.bel.size)).trans y1; have u2 := (hb4.cell (p := ⟨b2, o2 + i * 2 + 1, none⟩) (Nat.lt_of_lt_of_le B2.out HXD.out.bel.size)).trans y2; have u3 := (hb4.cell (p := ⟨b3, o3 + j * 2 + 1, none⟩) (Nat.lt_of_lt_of_le B3.out HXD.out.bel.size)).trans y3; have HS4 := Lib.hid hs4; clear hs4 hb4))
  all_goals go_wp2
  go_ret
  exact ⟨_, _, _, rfl, HX4.out.bel, HS4.out.keep elOtc_good (Same.refl _ _) fun b h => ⟨Nat.le_trans HXD.out.bel.size h.1, h.2⟩⟩
theorem leftO_le {c : Chs} {s : Ost} (hc : OkT c) (hs : OkOs c s) : leftO c s ≤ 12 := by
  have := hc.nb; have := hs.ball
  unfold leftO; omega
set_option maxRecDepth 100000 in
set_option maxHeartbeats 4000000 in
theorem or_power (c : Chs) (s : Ost) (bv wv pv ov : Value) (w : World) (h : ChAt w (· < w.heap.size) bv wv pv ov c) (hc : OkT c) (hs : OkOs c s) :
    Calls Tryz.prog 104 #[chV c bv wv pv ov, osV s] w fun e w' => e = .returned (.int .i64 (pow16 (leftO c s))) ∧ Below w.heap.size w w' := by
  unfold chV osV
  obtain ⟨ball, need, str, par, wait⟩ := s
  obtain ⟨A, ca, rfl, hc1, hc2⟩ := h.mdl.bat.shape
  obtain ⟨A1, ca1, rfl, hc3, hc4⟩ := h.mdl.bow.shape
  obtain ⟨A2, ca2, rfl, hc5, hc6⟩ := h.bow.shape
  obtain ⟨A3, ca3, rfl, hc7, hc8⟩ := h.ord.shape
  have hx := OSB.new w c (.slice A c.mdl.bats.length ca) (.slice A1 c.mdl.bows.length ca1) (.slice A2 c.bows.length ca2) (.slice A3 c.ord.length ca3) ⟨ball, need, str, par, wait⟩
  have HX := Lib.hid hx
  have HM := Lib.hid h
  obtain ⟨n, hn⟩ : ∃ n, n = leftO c ⟨ball, need, str, par, wait⟩ := ⟨_, rfl⟩
  have hn12 := leftO_le hc hs
  rw [← hn] at hn12
  have hb := hs.ball
  dsimp only at hb
  have hbn : (c.bows.length : Int) - ball = (n : Int) := by rw [hn]; unfold leftO; dsimp only; omega
  rw [← hn]
  obtain ⟨z, hz⟩ : ∃ z, z = pow16 n := ⟨_, rfl⟩
  rw [← hz]
  have hnb := hc.ok.nb
  obtain ⟨hb1, hb2⟩ := hb
  obtain ⟨hnb1, hnb2⟩ := hnb
  clear hs hc hn hx h
  have hcase : n = 0 ∨ n = 1 ∨ n = 2 ∨ n = 3 ∨ n = 4 ∨ n = 5 ∨ n = 6 ∨ n = 7 ∨ n = 8 ∨ n = 9 ∨ n = 10 ∨ n = 11 ∨ n = 12 := by omega
  clear hn12
  rcases hcase with rfl | rfl | rfl | rfl | rfl | rfl | rfl | rfl | rfl | rfl | rfl | rfl | rfl
  all_goals
    have HZ := Lib.hid hz
    have hq := hbn
    simp only [Int.natCast_zero, Int.natCast_one, Int.cast_ofNat_Int] at hq
    clear hz hbn
    go_enter Tryz.func104, Tryz.ntmps104
    go_wp2
    go_ret
    exact ⟨ret_i (by rw [HZ.out]; first | rfl | decide), HX.out.bel⟩
theorem or_step_ret {R' : Ending → World → Prop} {a : Act} {w : World} {x0 x1 x2 x3 x4 : Value} {g : Nat} (h2 : a.tmps[6]? = some (.pointer (some ⟨g, 0, none⟩))) (hb : Blk w g 53 #[x0, x1, x2, x3, x4])
    (hd : a.defers = []) (hR : R' (.returned (.agg #[x0, x1, x2, x3, x4])) w) : bodyPost Tryz.prog Tryz.f106 R' .ret a w := by
  have r0 := hb.cell 0
  have r1 := hb.cell 1
  have r2 := hb.cell 2
  have r3 := hb.cell 3
  have r4 := hb.cell 4
  simp only [List.getElem?_toArray, List.getElem?_cons_zero, List.getElem?_cons_succ] at r0 r1 r2 r3 r4
  refine bodyPost_ret (v := .agg #[x0, x1, x2, x3, x4]) (by simp [results, Tryz.results106, go_sem, h2, r0, r1, r2, r3, r4]) hd hR
set_option maxRecDepth 100000 in
set_option maxHeartbeats 4000000 in
theorem or_step (c : Chs) (s : Ost) (o : Otc) (A A1 A2 A3 : Option Addr) (ca ca1 ca2 ca3 : Nat) (w : World) (hc : OkT c) (hs : OkOs c s) (h1 : s.ball ≠ c.bows.length) (h2 : vacO s = false) (hr : 0 ≤ o.runs ∧ o.runs ≤ 7) :
    Calls Tryz.prog 106 #[.agg #[.slice A c.mdl.bats.length ca, .slice A1 c.mdl.bows.length ca1, .slice A2 c.bows.length ca2, .int .i64 c.over, .int .i64 c.done, .int .i64 c.need, .slice A3 c.ord.length ca3], osV s, .agg #[.int .i64 o.runs, .bool o.wick, .int .i64 o.wt]] w fun e w' => e = .returned (osV (stepO c s o)) ∧ Below w.heap.size w w' := by
  obtain ⟨z, hz⟩ : ∃ z, z = stepO c s o := ⟨_, rfl⟩
  rw [← hz]
  unfold stepO at hz
  obtain ⟨ball, need, str, par, wait⟩ := s
  obtain ⟨pr, pw, pt⟩ := o
  unfold osV
  dsimp only at hr hz ⊢
  have b1 := hs.ball
  have b2 := hs.need
  have b4 := hs.str
  have b5 := hs.par
  have b6 := hc.ok.nb
  have b7 := hc.ok.need
  have b8 := hc.np
  have b9 := hc.ok.over
  have b10 := hc.ok.done
  have b11 := hs.w16
  dsimp only at b1 b2 b4 b5 b11 h1
  obtain ⟨m, hm⟩ : ∃ m, max (need - pr) 0 = m := ⟨_, rfl⟩
  have hm2 : max 0 (need - pr) = m := by rw [← hm]; omega
  have hm3 : 0 ≤ m ∧ m ≤ 84 := by omega
  rw [hm] at hz
  have hsw : swapC c (ball + 1) ⟨pr, pw, pt⟩ = (decide (pr % 2 = 1) != decide ((c.done + (ball + 1)) % c.over = 0)) := rfl
  have e1 : (pr % 2 == 1) = decide (pr % 2 = 1) := by by_cases h : pr % 2 = 1 <;> simp [h]
  have e2 : ((c.done + (ball + 1)) % c.over == 0) = decide ((c.done + (ball + 1)) % c.over = 0) := by by_cases h : (c.done + (ball + 1)) % c.over = 0 <;> simp [h]
  rw [hsw] at hz
  obtain ⟨x1, hx1⟩ : ∃ x, x = decide (pr % 2 = 1) := ⟨_, rfl⟩
  obtain ⟨x2, hx2⟩ : ∃ x, x = decide ((c.done + (ball + 1)) % c.over = 0) := ⟨_, rfl⟩
  rw [← hx1] at e1 hz
  rw [← hx2] at e2 hz
  obtain ⟨over, hov⟩ : ∃ x, x = c.over := ⟨_, rfl⟩
  obtain ⟨done, hdo⟩ : ∃ x, x = c.done := ⟨_, rfl⟩
  rw [← hov, ← hdo] at e2 ⊢
  rw [← hov] at b9
  rw [← hdo, ← hov] at b10
  obtain ⟨c1, c2⟩ := b1
  obtain ⟨c3, c4⟩ := b2
  obtain ⟨c7, c8⟩ := b4
  obtain ⟨c9, c10⟩ := b5
  obtain ⟨c11, c12⟩ := b6
  obtain ⟨c13, c14⟩ := b7
  obtain ⟨c15, c16⟩ := b8
  obtain ⟨c17, c18⟩ := b9
  obtain ⟨c19, c20⟩ := b10
  obtain ⟨c21, c22⟩ := hr
  obtain ⟨c23, c24⟩ := hm3
  obtain ⟨c25, c26⟩ := b11
  clear hx1 hx2 hov hdo hsw hs hc h1 h2
  cases pw
  all_goals
    simp only [Bool.false_eq_true, if_true, if_false] at hz
    cases x1 <;> cases x2 <;> simp only [bne_self_eq_false, if_true, if_false, Bool.false_eq_true, Bool.bne_false, Bool.bne_true, Bool.not_false, Bool.not_true] at hz
    all_goals
      have HZ := Lib.hid hz
      clear hz
      go_enter Tryz.func106, Tryz.ntmps106
      go_wp2
      go_quiet (fail)
      go_wp2
      apply or_step_ret (g := w.heap.size + 1 + 1 + 1) (h2 := rfl) (hd := rfl)
      case hb =>
        first
          | with_reducible exact oblk_rv _ _ _ _ _ _ _ _ _
          | (with_reducible apply Blk.put5
             repeat (first | with_reducible refine Blk.drewNB ?_ _ | with_reducible refine blk_far1 ?_ _ _)
             with_reducible exact oblk_r _ _ _ _)
      case hR =>
        refine ⟨by rw [HZ.out] <;> rfl, ?_⟩
        first
          | with_reducible exact below_r _ _ _ _ _
          | (with_reducible refine below_set5 ?_ (le3 _) _ _ _ _ _
             repeat (first | with_reducible refine Below.drewN_ ?_ _ | with_reducible refine below_far1 ?_ _ _)
             with_reducible exact below_r _ _ _ _ _)
theorem or_opened_ret {R' : Ending → World → Prop} {a : Act} {w : World} {x0 x1 x2 x3 x4 : Value} {g : Nat} (h2 : a.tmps[6]? = some (.pointer (some ⟨g, 0, none⟩))) (hb : Blk w g 53 #[x0, x1, x2, x3, x4])
    (hd : a.defers = []) (hR : R' (.returned (.agg #[x0, x1, x2, x3, x4])) w) : bodyPost Tryz.prog Tryz.f69 R' .ret a w := by
  have r0 := hb.cell 0
  have r1 := hb.cell 1
  have r2 := hb.cell 2
  have r3 := hb.cell 3
  have r4 := hb.cell 4
  simp only [List.getElem?_toArray, List.getElem?_cons_zero, List.getElem?_cons_succ] at r0 r1 r2 r3 r4
  refine bodyPost_ret (v := .agg #[x0, x1, x2, x3, x4]) (by simp [results, Tryz.results69, go_sem, h2, r0, r1, r2, r3, r4]) hd hR
set_option maxRecDepth 100000 in
set_option maxHeartbeats 4000000 in
theorem or_opened (c : Chs) (a b : Nat) (bv wv pv ov : Value) (w : World) (h : ChAt w (· < w.heap.size) bv wv pv ov c) (ht : OkT c) (ha : a < c.ord.length) (hb : b < c.ord.length) :
    Calls Tryz.prog 69 #[chV c bv wv pv ov, .int .i64 (a : Int), .int .i64 (b : Int)] w fun e w' => e = .returned (osV (openO c a b)) ∧ Below w.heap.size w w' := by
  unfold chV
  obtain ⟨A, ca, rfl, hc1, hc2⟩ := h.mdl.bat.shape
  obtain ⟨A1, ca1, rfl, hc3, hc4⟩ := h.mdl.bow.shape
  obtain ⟨A2, ca2, rfl, hc5, hc6⟩ := h.bow.shape
  obtain ⟨A3, ca3, rfl, hc7, hc8⟩ := h.ord.shape
  obtain ⟨z, hz⟩ : ∃ z, z = openO c a b := ⟨_, rfl⟩
  rw [← hz]
  unfold openO lessW allW oneW at hz
  have hnp := ht.np
  unfold osV
  obtain ⟨hnp1, hnp2⟩ := hnp
  obtain ⟨n, hn⟩ : ∃ n, n = c.ord.length := ⟨_, rfl⟩
  rw [← hn] at hz hnp1 hnp2 ha hb ⊢
  have g1 : (0 : Int) ≤ (n : Int) := by omega
  have g2 : (n : Int) < 16 := by omega
  have g3 : (0 : Int) ≤ (a : Int) := by omega
  have g4 : (a : Int) < 16 := by omega
  have g5 : (0 : Int) ≤ (b : Int) := by omega
  have g6 : (b : Int) < 16 := by omega
  have HZ := Lib.hid hz
  clear hz h ht hn
  go_enter Tryz.func69, Tryz.ntmps69
  go_wp2
  all_goals go_region
  all_goals go_wp2
  all_goals
    apply or_opened_ret (g := w.heap.size + 1) (h2 := rfl) (hd := rfl)
    case hb =>
      repeat (with_reducible refine Blk.drewNB ?_ _)
      first | exact blk_two _ _ _ _ | exact (blk_two _ _ _ _).drew
    case hR =>
      refine ⟨by rw [HZ.out] <;> rfl, ?_⟩
      repeat (with_reducible refine Below.drewN_ ?_ _)
      first | exact below_two _ _ _ | exact Below.drew (below_two _ _ _)
end Go.Proofs.YtfnfbojaiikigaaGreatDoor

namespace Go.Proofs.YtfnfbojaiikigaaGreatDoor
open Go.RowKit Go.Maps

def keyOs (s : Ost) : Lit := .string (keyBytes [.int .i64 s.ball, .int .i64 s.need, .int .i64 s.str, .int .i64 s.par, .int .u16 s.wait])
structure SmolO (s : Ost) : Prop where
  ball : -1000 ≤ s.ball ∧ s.ball ≤ 1000
  need : -1000 ≤ s.need ∧ s.need ≤ 1000
  str : -1000 ≤ s.str ∧ s.str ≤ 1000
  par : -1000 ≤ s.par ∧ s.par ≤ 1000
  w16 : 0 ≤ s.wait ∧ s.wait < 65536
theorem OkOs.smol {c : Chs} {s : Ost} (hc : OkT c) (h : OkOs c s) : SmolO s := by
  have := hc.nb; have := hc.ok.need; have := hc.np; have := h.ball; have := h.need; have := h.str; have := h.par
  exact ⟨by omega, by omega, by omega, by omega, h.w16⟩
theorem law45 : Keyed Tryz.prog 53 := Keyed.of_law (deep_law_gate (by kernel_rfl) (of_decide_eq_true (by kernel_rfl)) (of_decide_eq_true (by kernel_rfl)) (by kernel_rfl) (by kernel_rfl))
theorem okey_of {s : Ost} (h : SmolO s) : keyOf Tryz.prog 53 (osV s) = some (keyOs s) := by
  have hkt : Tryz.prog.keyType 53 = true := by kernel_rfl
  have hce : Tryz.prog.cellsOf 53 = 5 := by kernel_rfl
  have hci : Tryz.prog.cellsOf 3 = 1 := by kernel_rfl
  have hcu : Tryz.prog.cellsOf 51 = 1 := by kernel_rfl
  obtain ⟨m, hm⟩ : ∃ m, Tryz.prog.types.size = m + 1 := ⟨Tryz.prog.types.size - 1, by kernel_rfl⟩
  have w0 := wf_small h.ball
  have w1 := wf_small h.need
  have w2 := wf_small h.str
  have w3 := wf_small h.par
  have w4 : (Lit.int .u16 s.wait).wf = true := WalkArith.wf_u16 (by have := h.w16; omega)
  unfold keyOf osV keyOs
  simp only [Tryz.underlying53]
  rw [if_pos (by simp [hkt, Value.formed, Tryz.underlying53, hce]), hm]
  unfold Program.keyLits
  simp only [Tryz.underlying53, Value.cells]
  rw [if_pos ⟨by rw [hce]; rfl, by kernel_rfl⟩]
  simp [hci, hcu, Program.keyLits, Tryz.underlying3, Tryz.underlying51, w0, w1, w2, w3, w4]
theorem okey_inj {s t : Ost} (hs : SmolO s) (ht : SmolO t) (h : keyOs s = keyOs t) : s = t := by
  have e := keyOf_inj_deep (P := Tryz.prog) (m := Tryz.prog.types.size + 1) (k := 53) (by kernel_rfl) (by kernel_rfl) (okey_of hs) (h ▸ okey_of ht)
  obtain ⟨a1, a2, a3, a4, a5⟩ := s
  obtain ⟨b1, b2, b3, b4, b5⟩ := t
  unfold osV at e
  simp at e
  obtain ⟨rfl, rfl, rfl, rfl, rfl⟩ := e
  rfl
theorem okey_lit (s : Ost) : WideAt.IsKeyLit (keyOs s) := by unfold keyOs; trivial
/-- Every state of the map has its value. -/
def KnownO (c : Chs) (D : DataW Unit) : Prop := ∀ s, OkOs c s → Maps.has D (keyOs s) = true → D.atKey (keyOs s) (.lit (.int .i64 0)) = .lit (.int .i64 (vO c s))
theorem KnownO.none (c : Chs) : KnownO c (.map []) := fun s _ h => by cases h
theorem KnownO.put {c : Chs} {D : DataW Unit} (h : KnownO c D) (hD : IsMap D) (hc : OkT c) {s : Ost} (hs : OkOs c s) : KnownO c (D.put (keyOs s) (.lit (.int .i64 (vO c s)))) := fun t ht hh => by
  by_cases e : keyOs t = keyOs s
  · have := okey_inj (ht.smol hc) (hs.smol hc) e
    subst this
    exact atKey_put_same hD (okey_lit _) _ _
  · rw [has_put_other e] at hh
    rw [atKey_put_other e]
    exact h t ht hh
/-- Nothing is taken out. -/
def GrewO (D D' : DataW Unit) : Prop := ∀ s, Maps.has D (keyOs s) = true → Maps.has D' (keyOs s) = true
theorem GrewO.refl (D : DataW Unit) : GrewO D D := fun _ h => h
theorem GrewO.trans {A B C : DataW Unit} (h : GrewO A B) (k : GrewO B C) : GrewO A C := fun s x => k s (h s x)
theorem GrewO.put {D : DataW Unit} (hD : IsMap D) (s : Ost) (v : DataW Unit) : GrewO D (D.put (keyOs s) v) := fun t h => by
  by_cases e : keyOs t = keyOs s
  · rw [e]; exact has_put_same hD (okey_lit _) _
  · rw [has_put_other e]; exact h
abbrev ValsO (w : World) (b N : Nat) (D : DataW Unit) : Prop := w.ownsMap Tryz.prog 53 (plainElem Tryz.prog 2) b N D
def rankO (c : Chs) (s : Ost) : Nat := 2 * leftO c s + (if vacO s = true then 1 else 0)
def cntR : Nat → Nat
  | 0 => 1
  | m + 1 => 1 + (if m % 2 = 0 then 6 else 16) * cntR m
theorem cntR_step (m : Nat) : cntR m ≤ cntR (m + 1) := by
  rw [cntR]; split <;> omega
theorem cntR_mono {k m : Nat} (h : k ≤ m) : cntR k ≤ cntR m := by
  induction m with
  | zero => obtain rfl : k = 0 := by omega
            exact Nat.le_refl _
  | succ m ih =>
    by_cases e : k = m + 1
    · subst e; exact Nat.le_refl _
    · exact Nat.le_trans (ih (by omega)) (cntR_step m)
/-- What a function that values states of an order does. -/
def SolveO (f : FuncId) (c : Chs) (m : Nat) : Prop := ∀ (s : Ost), rankO c s = m → OkOs c s → ∀ (bv wv pv ov : Value) (F : Nat → Prop) (b N : Nat) (D : DataW Unit) (w : World), ChAt w F bv wv pv ov c → (∀ x, F x → x < w.heap.size ∧ x ≠ b) → ValsO w b N D → KnownO c D → N + cntR m ≤ 2000000000000000000 →
  Calls Tryz.prog f #[chV c bv wv pv ov, osV s, .map (some b)] w fun e w' => e = .returned (.int .i64 (vO c s)) ∧ Only b w w' ∧ ∃ D', ValsO w' b (N + cntR m) D' ∧ KnownO c D' ∧ GrewO D D' ∧ Maps.has D' (keyOs s) = true
/-- The states that follow have a lesser rank. -/
theorem rank_send {c : Chs} {s : Ost} {i : Int} (ht : OkT c) (h : OkOs c s) (hv : vacO s = true) (hi : 0 ≤ i ∧ i < c.ord.length) (hb : bitW s.wait i = true) : OkOs c (sendO s i) ∧ rankO c (sendO s i) + 1 = rankO c s := by
  obtain ⟨k1, k2, k3, k4⟩ := sendO_ok ht h hv hi hb
  refine ⟨k1, ?_⟩
  unfold rankO leftO
  rw [k2, hv, k3]; simp
theorem rank_step {c : Chs} {s : Ost} {o : Otc} (h : OkOs c s) (h2 : s.ball ≠ c.bows.length) (hv : vacO s = false) (ho : 0 ≤ o.runs) : OkOs c (stepO c s o) ∧ rankO c (stepO c s o) + 1 ≤ rankO c s := by
  obtain ⟨k1, k2, k3⟩ := stepO_ok h h2 hv ho
  have := h.ball
  refine ⟨k1, ?_⟩
  unfold rankO leftO
  rw [hv, k2]
  split
  · simp; omega
  · simp; omega
/-- A box of a task, a box of a map's variable, beside a map. -/
structure EnvO (W : World) (F : Nat → Prop) (b g0 g2 : Nat) (c : Chs) (bv wv pv ov : Value) : Prop where
  ch : ChAt W F bv wv pv ov c
  hF : ∀ x, F x → x < W.heap.size ∧ x ≠ b
  t0 : Blk W g0 50 #[bv, wv, pv, .int .i64 c.over, .int .i64 c.done, .int .i64 c.need, ov]
  m2 : Blk W g2 93 #[.map (some b)]
  n0 : g0 ≠ b
  n2 : g2 ≠ b
theorem EnvO.only {W W' : World} {F : Nat → Prop} {b g0 g2 : Nat} {c : Chs} {bv wv pv ov : Value} (h : EnvO W F b g0 g2 c bv wv pv ov) (ho : Only b W W') : EnvO W' F b g0 g2 c bv wv pv ov :=
  ⟨h.ch.keep (ho.same h.hF) fun _ h => h, fun x hx => ⟨Nat.lt_of_lt_of_le (h.hF x hx).1 ho.size, (h.hF x hx).2⟩, h.t0.grown ho (by intro e; injection e with e; exact h.n0 e.symm), h.m2.grown ho (by intro e; injection e with e; exact h.n2 e.symm), h.n0, h.n2⟩
theorem ovals_below {W W' : World} {b N : Nat} {D : DataW Unit} (h : ValsO W b N D) (hb : Below W.heap.size W W') : ValsO W' b N D := h.kept (Only.of_below (g := b + 1) hb) (by simp)
end Go.Proofs.YtfnfbojaiikigaaGreatDoor

namespace Go.Proofs.YtfnfbojaiikigaaGreatDoor
open Go.RowKit Go.Maps

/-- A task and a state boxed in value's frame, the maker's boxes and the map beside them. -/
structure SolV (w W : World) (F : Nat → Prop) (b g0 g2 N : Nat) (D0 : DataW Unit) (c : Chs) (bv wv pv ov : Value) (s : Ost) : Prop where
  only : Only b w W
  box : Blk W w.heap.size 50 #[bv, wv, pv, .int .i64 c.over, .int .i64 c.done, .int .i64 c.need, ov]
  st : Blk W (w.heap.size + 1) 53 #[.int .i64 s.ball, .int .i64 s.need, .int .i64 s.str, .int .i64 s.par, .int .u16 s.wait]
  blt : b < w.heap.size
  env : EnvO W F b g0 g2 c bv wv pv ov
  vals : ∃ D, ValsO W b N D ∧ KnownO c D ∧ GrewO D0 D
section
variable {w W W' : World} {F : Nat → Prop} {b g0 g2 N N' : Nat} {D0 : DataW Unit} {c : Chs} {bv wv pv ov : Value} {s : Ost}
theorem SolV.below (h : SolV w W F b g0 g2 N D0 c bv wv pv ov s) (hb : Below W.heap.size W W') : SolV w W' F b g0 g2 N D0 c bv wv pv ov s :=
  ⟨h.only.trans (Only.of_below hb), h.box.below hb h.box.lt, h.st.below hb h.st.lt, h.blt, h.env.only (Only.of_below hb), let ⟨D, h1, h2, h3⟩ := h.vals; ⟨D, ovals_below h1 hb, h2, h3⟩⟩
theorem SolV.alloc (h : SolV w W F b g0 g2 N D0 c bv wv pv ov s) (o : Obj) : SolV w (W.alloc o) F b g0 g2 N D0 c bv wv pv ov s := h.below (Below.alloc (Below.refl _ _) (Nat.le_refl _) o)
theorem SolV.into (h : SolV w W F b g0 g2 N D0 c bv wv pv ov s) (ho : Only b W W') (hv : ∃ D, ValsO W' b N' D ∧ KnownO c D ∧ GrewO D0 D) : SolV w W' F b g0 g2 N' D0 c bv wv pv ov s :=
  ⟨h.only.trans ho, h.box.grown ho (by intro e; injection e with e; have := h.blt; omega), h.st.grown ho (by intro e; injection e with e; have := h.blt; omega), h.blt, h.env.only ho, hv⟩
theorem SolV.cells (h : SolV w W F b g0 g2 N D0 c bv wv pv ov s) : W.cell? ⟨w.heap.size, 0, none⟩ = some bv ∧ W.cell? ⟨w.heap.size, 1, none⟩ = some wv ∧ W.cell? ⟨w.heap.size, 2, none⟩ = some pv ∧ W.cell? ⟨w.heap.size, 3, none⟩ = some (.int .i64 c.over) ∧ W.cell? ⟨w.heap.size, 4, none⟩ = some (.int .i64 c.done) ∧ W.cell? ⟨w.heap.size, 5, none⟩ = some (.int .i64 c.need) ∧ W.cell? ⟨w.heap.size, 6, none⟩ = some ov ∧
    W.cell? ⟨w.heap.size + 1, 0, none⟩ = some (.int .i64 s.ball) ∧ W.cell? ⟨w.heap.size + 1, 1, none⟩ = some (.int .i64 s.need) ∧ W.cell? ⟨w.heap.size + 1, 2, none⟩ = some (.int .i64 s.str) ∧ W.cell? ⟨w.heap.size + 1, 3, none⟩ = some (.int .i64 s.par) ∧ W.cell? ⟨w.heap.size + 1, 4, none⟩ = some (.int .u16 s.wait) :=
  ⟨h.box.cell 0, h.box.cell 1, h.box.cell 2, h.box.cell 3, h.box.cell 4, h.box.cell 5, h.box.cell 6, h.st.cell 0, h.st.cell 1, h.st.cell 2, h.st.cell 3, h.st.cell 4⟩
theorem SolV.new {D : DataW Unit} (he : EnvO w F b g0 g2 c bv wv pv ov) (h1 : ValsO w b N D) (h2 : KnownO c D) : SolV w ((w.alloc (.cells #[bv, wv, pv, .int .i64 c.over, .int .i64 c.done, .int .i64 c.need, ov] 50)).alloc (.cells #[.int .i64 s.ball, .int .i64 s.need, .int .i64 s.str, .int .i64 s.par, .int .u16 s.wait] 53)) F b g0 g2 N D c bv wv pv ov s :=
  let hx := OSB.new w c bv wv pv ov s
  ⟨Only.of_below hx.bel, hx.box, hx.st, h1.lt, he.only (Only.of_below hx.bel), D, ovals_below h1 hx.bel, h2, GrewO.refl _⟩
/-- The chase lies still. -/
theorem SolV.chb (h : SolV w W F b g0 g2 N D0 c bv wv pv ov s) : ChAt W (· < W.heap.size) bv wv pv ov c := h.env.ch.keep (Same.refl _ _) fun x hx => (h.env.hF x hx).1
end
/-- What the function handed to value does. -/
def LookO (f : FuncId) (F : Nat → Prop) (b g0 g2 K m : Nat) (c : Chs) (bv wv pv ov : Value) : Prop := ∀ (x : Ost), OkOs c x → rankO c x < m → ∀ (N : Nat) (D : DataW Unit) (W : World), EnvO W F b g0 g2 c bv wv pv ov → ValsO W b N D → KnownO c D → N + K ≤ 2000000000000000000 →
  Calls Tryz.prog f #[osV x, .pointer (some ⟨g0, 0, none⟩), .pointer (some ⟨g2, 0, none⟩)] W fun e W' => e = .returned (.tuple #[.int .i64 (vO c x), .bool true]) ∧ Only b W W' ∧ ∃ D', ValsO W' b (N + K) D' ∧ KnownO c D' ∧ GrewO D D'
theorem bestF_at {f : Int → Int} {w : Int} {k : Nat} (h : bitW w k = true) : bestF f w (k + 1) = max (bestF f w k) (f k) := by rw [bestF, if_pos h]
theorem bestF_not {f : Int → Int} {w : Int} {k : Nat} (h : bitW w k = false) : bestF f w (k + 1) = bestF f w k := by rw [bestF, if_neg (by simp [h])]
set_option maxRecDepth 100000 in
set_option maxHeartbeats 8000000 in
theorem or_value (c : Chs) (ht : OkT c) (s : Ost) (hs : OkOs c s) (F : Nat → Prop) (b g0 g2 K N : Nat) (D : DataW Unit) (bv wv pv ov : Value) (w : World) (hlook : LookO 97 F b g0 g2 K (rankO c s) c bv wv pv ov) (henv : EnvO w F b g0 g2 c bv wv pv ov) (hown : ValsO w b N D) (hkn : KnownO c D) (hN : N + (if rankO c s % 2 = 1 then 6 else 16) * K ≤ 2000000000000000000) :
    Calls Tryz.prog 70 #[chV c bv wv pv ov, osV s, .func (.func 97) #[] #[.pointer (some ⟨g0, 0, none⟩), .pointer (some ⟨g2, 0, none⟩)]] w fun e w' => e = .returned (.tuple #[.int .i64 (vO c s), .bool true]) ∧ Only b w w' ∧ ∃ D', ValsO w' b (N + (if rankO c s % 2 = 1 then 6 else 16) * K) D' ∧ KnownO c D' ∧ GrewO D D' := by
  obtain ⟨z, hz⟩ : ∃ z, z = vO c s := ⟨_, rfl⟩
  have hbd := vO_bd ht _ s hs rfl
  have hp16 := pow16_le (leftO_le ht hs)
  have hz0 : 0 ≤ z ∧ z ≤ 281474976710656 := by rw [hz]; omega
  have hnp := ht.np
  have hch := henv.ch
  have hFF := henv.hF
  rw [← hz]
  obtain ⟨A, ca, rfl, hc1, hc2⟩ := hch.mdl.bat.shape
  obtain ⟨A1, ca1, rfl, hc3, hc4⟩ := hch.mdl.bow.shape
  obtain ⟨A2, ca2, rfl, hc5, hc6⟩ := hch.bow.shape
  obtain ⟨A3, ca3, rfl, hc7, hc8⟩ := hch.ord.shape
  have hsol := SolV.new (s := s) henv hown hkn
  have HSOL := Lib.hid hsol
  have kend := fun W (hW : ChAt W (· < W.heap.size) (.slice A c.mdl.bats.length ca) (.slice A1 c.mdl.bows.length ca1) (.slice A2 c.bows.length ca2) (.slice A3 c.ord.length ca3) c) => or_ended c s _ _ _ _ W hW
  have kvac := fun W => or_vacant s W
  have kpow := fun W (hW : ChAt W (· < W.heap.size) (.slice A c.mdl.bats.length ca) (.slice A1 c.mdl.bows.length ca1) (.slice A2 c.bows.length ca2) (.slice A3 c.ord.length ca3) c) => or_power c s _ _ _ _ W hW ht hs
  unfold chV at kend kpow ⊢
  have hwon := fun h => vO_won (c := c) (s := s) h
  have hlost := fun h h2 => vO_lost (c := c) (s := s) h h2
  obtain ⟨Q, hQ⟩ : ∃ q, q = (if rankO c s % 2 = 1 then 6 else 16) * K := ⟨_, rfl⟩
  rw [← hQ] at hN ⊢
  have tok0 : True := trivial
  by_cases h0 : s.need = 0
  · have hw0 := hwon h0
    rw [← hz] at hw0
    rw [← hw0] at kpow
    have KP := Lib.hid kpow
    have e0 : (s.need == 0) = true := beq_iff_eq.2 h0
    obtain ⟨ball, need, str, par, wait⟩ := s
    unfold osV at KP ⊢
    dsimp only at e0
    obtain ⟨y0, y1, y2, y3, y4, y5, y6, t0, t1, t2, t3, t4⟩ := HSOL.out.cells
    dsimp only at KP t0 t1 t2 t3 t4
    clear kend kvac kpow hwon hlost hw0 h0 hz hbd hp16 hlook henv hown hkn hs hch hFF hQ hsol ht y0 y1 y2 y3 y4 y5 y6 t0 t1 t2 t3 t4
    go_enter Tryz.func70, Tryz.ntmps70
    go_wp2_with (clear tok0; go_at_call 104; refine (KP.out _ HSOL.out.chb).mono ?_; rintro e w2 ⟨rfl, hb2⟩; have HS2 := Lib.hid (HSOL.out.below hb2); clear hb2; have tok1 : True := trivial)
    go_ret2
    exact ⟨rfl, HS2.out.only, by obtain ⟨D2, h1, h2, h3⟩ := HS2.out.vals; exact ⟨D2, h1.mono (by omega), h2, h3⟩⟩
  have e0 : (s.need == 0) = false := beq_eq_false_iff_ne.2 h0
  by_cases h1 : s.ball = c.bows.length
  · have hl := hlost h0 h1
    rw [← hz] at hl
    have hend : endO c s = true := by unfold endO; simp [h1]
    rw [hend] at kend
    have KE := Lib.hid kend
    obtain ⟨ball, need, str, par, wait⟩ := s
    unfold osV at KE ⊢
    dsimp only at e0 KE
    subst hl
    clear kend kvac kpow hwon hlost h0 h1 hz hbd hp16 hlook henv hown hkn hs hch hFF hQ hsol ht hend
    go_enter Tryz.func70, Tryz.ntmps70
    go_wp2_with (clear tok0; go_at_call 61; refine (KE.out _ HSOL.out.chb).mono ?_; rintro e w2 ⟨rfl, hb2⟩; have HS2 := Lib.hid (HSOL.out.below hb2); clear hb2; have tok1 : True := trivial)
    go_ret2
    exact ⟨rfl, HS2.out.only, by obtain ⟨D2, h1, h2, h3⟩ := HS2.out.vals; exact ⟨D2, h1.mono (by omega), h2, h3⟩⟩
  have hend : endO c s = false := by unfold endO; simp [h0, h1]
  rw [hend] at kend
  have KE := Lib.hid kend
  clear hwon hlost kpow
  cases hv : vacO s
  · -- a ball is bowled
    rw [hv] at kvac
    have KV := Lib.hid kvac
    have kmv := fun W (hW : ChAt W (· < W.heap.size) (.slice A c.mdl.bats.length ca) (.slice A1 c.mdl.bows.length ca1) (.slice A2 c.bows.length ca2) (.slice A3 c.ord.length ca3) c) => or_moves c s _ _ _ _ W hW ht.ok hs h1 hv
    obtain ⟨_, _, _, _, _, _, _, _, _, _, _, _, _, _, _, hd⟩ := mvO_at ht.ok hs h1 hv
    have hrun := vO_run ht.ok hs h0 h1 hv
    rw [← hz] at hrun
    obtain ⟨l, hle⟩ : ∃ l, mvO c s = l := ⟨_, rfl⟩
    rw [hle] at hd hrun kmv
    have hok := checkD_ok hd
    have hlen : l.length ≤ 16 := hok.len.2
    have hoe : ∀ (k : Nat) (hk : k < l.length), OkO l[k] := fun k hk => hok.each _ (List.getElem_mem hk)
    have kstep := fun k (hk : k < l.length) W => or_step c s l[k] A A1 A2 A3 ca ca1 ca2 ca3 W ht hs h1 hv ⟨(hoe k hk).r0, (hoe k hk).r7⟩
    have krec := fun k (hk : k < l.length) N' D' W => hlook (stepO c s l[k]) (rank_step hs h1 hv (hoe k hk).r0).1 (by have := (rank_step hs h1 hv (hoe k hk).r0).2; omega) N' D' W
    have hprod : ∀ (k : Nat) (hk : k < l.length), 0 ≤ l[k].wt * vO c (stepO c s l[k]) ∧ l[k].wt * vO c (stepO c s l[k]) ≤ 281474976710656 := fun k hk => by
      obtain ⟨k1, k2, _⟩ := stepO_ok hs h1 hv (hoe k hk).r0
      have h8 := ht.nb
      have h9 := hs.ball
      exact prod_bd (n := leftO c (stepO c s l[k])) (by unfold leftO; rw [k2]; omega) ⟨(hoe k hk).w1, (hoe k hk).w16⟩ (vO_bd ht _ _ k1 rfl)
    have hsum : ∀ (k : Nat) (hk : k < l.length) (sm : Int), sm = sumI ((l.take k).map fun o => o.wt * vO c (stepO c s o)) → sm + l[k].wt * vO c (stepO c s l[k]) = sumI ((l.take (k + 1)).map fun o => o.wt * vO c (stepO c s o)) := fun k hk sm h => by
      rw [h, sum_take (fun o : Otc => o.wt * vO c (stepO c s o)) hk]
    have hK : 16 * K ≤ Q := by
      have hpar : rankO c s % 2 = 0 := by unfold rankO; rw [hv]; simp
      rw [hQ, if_neg (by omega)]; exact Nat.le_refl _
    have KMV := Lib.hid kmv
    have KSTEP := Lib.hid kstep
    have KREC := Lib.hid krec
    have HPR := Lib.hid hprod
    have HSUM := Lib.hid hsum
    have HFIN := Lib.hid hrun.symm
    obtain ⟨ball, need, str, par, wait⟩ := s
    unfold osV at KE KV KMV KSTEP KREC ⊢
    dsimp only at e0 KE KV KMV KSTEP KREC
    clear kend kvac kmv kstep krec hprod hsum hrun hd hok hoe hle h0 h1 hz hbd hp16 hlook henv hown hkn hs hch hFF hQ hsol ht hend hv
    go_enter Tryz.func70, Tryz.ntmps70
    go_wp2_with (first
      | (clear tok0; go_at_call 61; refine (KE.out _ HSOL.out.chb).mono ?_; rintro e w2 ⟨rfl, hb2⟩; have HS2 := Lib.hid (HSOL.out.below hb2); obtain ⟨y0, y1, y2, y3, y4, y5, y6, t0, t1, t2, t3, t4⟩ := HS2.out.cells; dsimp only at t0 t1 t2 t3 t4; clear hb2; have tok1 : True := trivial)
      | (clear tok1; go_at_call 60; refine (KV.out _).mono ?_; rintro e w3 ⟨rfl, hb2⟩; have HS3 := Lib.hid (HS2.out.below hb2); clear y0 y1 y2 y3 y4 y5 y6 t0 t1 t2 t3 t4; obtain ⟨y0, y1, y2, y3, y4, y5, y6, t0, t1, t2, t3, t4⟩ := HS3.out.cells; dsimp only at t0 t1 t2 t3 t4; clear hb2; have tok2 : True := trivial)
      | (clear tok2; go_at_call 105; refine (KMV.out _ HS3.out.chb).mono ?_; rintro e w4 ⟨A4, n4, k4, rfl, hb3, hs3⟩; obtain ⟨Az, kz, hze, hz1, hz2⟩ := hs3.shape; have hn4 : n4 = l.length := (by injection hze); subst hn4; have HS4 := Lib.hid (HS3.out.below hb3); have HL4 := Lib.hid (hs3.keep (G := fun x => x < w4.heap.size ∧ x ≠ b) elOtc_good (Same.refl _ _) fun x hx => ⟨hx.2, by have := HS3.out.blt; have := HS3.out.only.size; omega⟩); clear y0 y1 y2 y3 y4 y5 y6 t0 t1 t2 t3 t4; obtain ⟨y0, y1, y2, y3, y4, y5, y6, t0, t1, t2, t3, t4⟩ := HS4.out.cells; dsimp only at t0 t1 t2 t3 t4; clear hb3 hs3 hze hz1 hz2; have tok3 : True := trivial))
    go_loopw [8, 61] (fun v i wr => ∃ (k : Nat) (sm : Int), k ≤ l.length ∧ i = .int .i64 k ∧ v = .int .i64 sm ∧ 0 ≤ sm ∧ sm ≤ 281474976710656 * k ∧ Hid (SolV w wr F b g0 g2 (N + k * K) D c (.slice A c.mdl.bats.length ca) (.slice A1 c.mdl.bows.length ca1) (.slice A2 c.bows.length ca2) (.slice A3 c.ord.length ca3) ⟨ball, need, str, par, wait⟩) ∧ Hid (Sl 3 elOtc wr (fun x => x < wr.heap.size ∧ x ≠ b) (.slice A4 l.length k4) l) ∧ Hid (sm = sumI ((l.take k).map fun o => o.wt * vO c (stepO c ⟨ball, need, str, par, wait⟩ o)))) (fun _ i _ => l.length - (intOf i).toNat)
    case atStart => exact ⟨0, 0, Nat.zero_le _, rfl, rfl, by omega, by omega, Lib.hid (by rw [Nat.zero_mul]; exact HS4.out), HL4, Lib.hid rfl⟩
    case round =>
      clear HS2 HS3 HS4 HL4 y0 y1 y2 y3 y4 y5 y6 t0 t1 t2 t3 t4
      obtain ⟨k, sm, hk, rfl, rfl, hs0, hs1, HS, HL, hss⟩ := hrel
      by_cases hlt : k < l.length
      · obtain ⟨b0, o, rfl, hbl, j0, j1, j2⟩ := otc_at HL.out hlt
        have hp := HPR.out k hlt
        have hst := HSUM.out k hlt sm hss.out
        have kS := KSTEP.out k hlt
        have kR := KREC.out k hlt
        obtain ⟨s', hs'⟩ : ∃ x, x = stepO c ⟨ball, need, str, par, wait⟩ l[k] := ⟨_, rfl⟩
        rw [← hs'] at hp hst
        simp only [← hs'] at kS kR
        obtain ⟨vv, hvv⟩ : ∃ x, x = vO c s' := ⟨_, rfl⟩
        rw [← hvv] at hp hst
        simp only [← hvv] at kR
        obtain ⟨⟨pr, pw, pt⟩, hp'⟩ : ∃ p, p = l[k] := ⟨_, rfl⟩
        rw [← hp'] at j0 j1 j2 hp hst
        simp only [← hp'] at kS
        dsimp only at j0 j1 j2 hp hst kS
        obtain ⟨hp0, hp1⟩ := hp
        have hkq : k * K + K ≤ Q := by have := Nat.mul_le_mul_right K (show k + 1 ≤ 16 by omega); rw [Nat.add_mul, Nat.one_mul] at this; omega
        have HST := Lib.hid hst
        have KS := Lib.hid kS
        have KR := Lib.hid kR
        have HKQ := Lib.hid hkq
        clear hst kS kR hs' hvv hp' hss hkq
        have HSA := Lib.hid (HS.out.alloc (.cells #[.int .i64 pr, .bool pw, .int .i64 pt] 46))
        have HLA := Lib.hid (sl_only HL.out (Only.of_below (g := b) (Below.alloc (Below.refl wr.heap.size wr) (Nat.le_refl _) (.cells #[.int .i64 pr, .bool pw, .int .i64 pt] 46))))
        have HCA := Lib.hid (Blk.new wr 46 #[.int .i64 pr, .bool pw, .int .i64 pt])
        obtain ⟨y0, y1, y2, y3, y4, y5, y6, t0, t1, t2, t3, t4⟩ := HS.out.cells; dsimp only at t0 t1 t2 t3 t4
        have hl1 := HS.out.box.lt
        have hl2 := HS.out.st.lt
        have hwb : b < wr.heap.size := by have := HS.out.blt; have := HS.out.only.size; omega
        have tok5 : True := trivial
        go_wp2_with (first
          | (clear tok5; go_at_call 106; refine (KS.out _).mono ?_; rintro e w5 ⟨rfl, hb5⟩; have HS5 := Lib.hid (HSA.out.below hb5); have HL5 := Lib.hid (sl_only HLA.out (Only.of_below hb5)); have HC5 := Lib.hid (HCA.out.below hb5 HCA.out.lt); clear y0 y1 y2 y3 y4 y5 y6 t0 t1 t2 t3 t4; obtain ⟨y0, y1, y2, y3, y4, y5, y6, t0, t1, t2, t3, t4⟩ := HS5.out.cells; dsimp only at t0 t1 t2 t3 t4; have u0 := HC5.out.cell 0; have u1 := HC5.out.cell 1; have u2 := HC5.out.cell 2; clear hb5 hl1 hl2; have tok6 : True := trivial)
          | (clear tok6; go_at_call 97; obtain ⟨D5, hv5, hk5, hg5⟩ := HS5.out.vals; refine (KR.out _ D5 _ HS5.out.env hv5 hk5 (by have := HKQ.out; omega)).mono ?_; rintro e w6 ⟨rfl, ho6, hv6⟩; have HS6 := Lib.hid (show SolV w w6 F b g0 g2 (N + (k + 1) * K) D c (.slice A c.mdl.bats.length ca) (.slice A1 c.mdl.bows.length ca1) (.slice A2 c.bows.length ca2) (.slice A3 c.ord.length ca3) ⟨ball, need, str, par, wait⟩ from HS5.out.into ho6 (by obtain ⟨D7, h1, h2, h3⟩ := hv6; exact ⟨D7, h1.mono (by rw [Nat.add_mul]; omega), h2, hg5.trans h3⟩)); have HL6 := Lib.hid (sl_only HL5.out ho6); have HC6 := Lib.hid (HC5.out.grown ho6 (by intro e; injection e with e; omega)); clear y0 y1 y2 y3 y4 y5 y6 t0 t1 t2 t3 t4; clear u0 u1 u2; obtain ⟨y0, y1, y2, y3, y4, y5, y6, t0, t1, t2, t3, t4⟩ := HS6.out.cells; dsimp only at t0 t1 t2 t3 t4; have u0 := HC6.out.cell 0; have u1 := HC6.out.cell 1; have u2 := HC6.out.cell 2; clear ho6 hv6 hv5 hk5 hg5; have tok7 : True := trivial))
        go_roundw
        case rel => exact ⟨k + 1, sm + pt * vv, by omega, by go_num, by first | rfl | rw [IntWalk.i64_in (pt * vv) (by omega), IntWalk.i64_in (sm + pt * vv) (by omega)], by omega, by push_cast; omega, HS6, HL6, HST⟩
        case measure => simp [intOf]; omega
      · obtain rfl : k = l.length := by omega
        have hs2 := hss.out
        rw [List.take_of_length_le (Nat.le_refl _), HFIN.out] at hs2
        subst hs2
        have hlq : l.length * K ≤ 16 * K := Nat.mul_le_mul_right K hlen
        clear hss
        go_wp2
        go_ret2
        exact ⟨rfl, HS.out.only, by obtain ⟨D2, h1, h2, h3⟩ := HS.out.vals; exact ⟨D2, h1.mono (by omega), h2, h3⟩⟩
  · -- somebody has to be sent
    rw [hv] at kvac
    have KV := Lib.hid kvac
    have hvc := vO_vac ht hs h0 h1 hv
    rw [← hz] at hvc
    have h16 := hs.w16
    have ksend := fun (i : Nat) (hi : i < c.ord.length) W => or_send s (i : Int) W h16 ⟨by omega, by omega⟩
    have krec := fun (i : Nat) (hi : i < c.ord.length) (hb : bitW s.wait i = true) N' D' W => hlook (sendO s i) (rank_send ht hs hv (i := i) ⟨by omega, by omega⟩ hb).1 (by have := (rank_send ht hs hv (i := i) ⟨by omega, by omega⟩ hb).2; omega) N' D' W
    have hvb : ∀ (i : Nat) (hi : i < c.ord.length) (hb : bitW s.wait i = true), 0 ≤ vO c (sendO s i) ∧ vO c (sendO s i) ≤ 281474976710656 := fun i hi hb => by
      obtain ⟨k1, _⟩ := sendO_ok ht hs hv (i := i) ⟨by omega, by omega⟩ hb
      have h5 := vO_bd ht _ _ k1 rfl
      have h6 := pow16_le (leftO_le ht k1)
      omega
    have hat := fun (i : Nat) (hb : bitW s.wait i = true) => bestF_at (f := fun i => vO c (sendO s i)) hb
    have hnt := fun (i : Nat) (hb : bitW s.wait i = false) => bestF_not (f := fun i => vO c (sendO s i)) hb
    have hK : 6 * K ≤ Q := by
      have hpar : rankO c s % 2 = 1 := by unfold rankO; rw [hv]; simp
      rw [hQ, if_pos hpar]; exact Nat.le_refl _
    obtain ⟨n, hn⟩ : ∃ n, n = c.ord.length := ⟨_, rfl⟩
    have HAT := Lib.hid hat
    have HNT := Lib.hid hnt
    have HVB := Lib.hid hvb
    have KSEND := Lib.hid ksend
    have KREC := Lib.hid krec
    have HFIN := Lib.hid hvc.symm
    obtain ⟨ball, need, str, par, wait⟩ := s
    unfold osV at KE KV KSEND KREC ⊢
    dsimp only at e0 KE KV KSEND KREC HAT HNT HVB h16
    obtain ⟨h16a, h16b⟩ := h16
    clear kend kvac ksend krec hat hnt hvb hvc h0 h1 hz hbd hp16 hlook henv hown hkn hs hch hFF hQ hsol ht hend hv
    go_enter Tryz.func70, Tryz.ntmps70
    go_wp2_with (first
      | (clear tok0; go_at_call 61; refine (KE.out _ HSOL.out.chb).mono ?_; rintro e w2 ⟨rfl, hb2⟩; have HS2 := Lib.hid (HSOL.out.below hb2); obtain ⟨y0, y1, y2, y3, y4, y5, y6, t0, t1, t2, t3, t4⟩ := HS2.out.cells; dsimp only at t0 t1 t2 t3 t4; clear hb2; have tok1 : True := trivial)
      | (clear tok1; go_at_call 60; refine (KV.out _).mono ?_; rintro e w3 ⟨rfl, hb2⟩; have HS3 := Lib.hid (HS2.out.below hb2); clear y0 y1 y2 y3 y4 y5 y6 t0 t1 t2 t3 t4; obtain ⟨y0, y1, y2, y3, y4, y5, y6, t0, t1, t2, t3, t4⟩ := HS3.out.cells; dsimp only at t0 t1 t2 t3 t4; clear hb2; have tok2 : True := trivial))
    go_loopw [8, 33] (fun v i wr => ∃ (k : Nat) (sm : Int), k ≤ c.ord.length ∧ i = .int .i64 k ∧ v = .int .i64 sm ∧ 0 ≤ sm ∧ sm ≤ 281474976710656 ∧ Hid (SolV w wr F b g0 g2 (N + k * K) D c (.slice A c.mdl.bats.length ca) (.slice A1 c.mdl.bows.length ca1) (.slice A2 c.bows.length ca2) (.slice A3 c.ord.length ca3) ⟨ball, need, str, par, wait⟩) ∧ Hid (sm = bestF (fun i => vO c (sendO ⟨ball, need, str, par, wait⟩ i)) wait k)) (fun _ i _ => c.ord.length - (intOf i).toNat)
    case atStart => exact ⟨0, 0, Nat.zero_le _, rfl, rfl, by omega, by omega, Lib.hid (by rw [Nat.zero_mul]; exact HS3.out), Lib.hid rfl⟩
    case round =>
      clear HS2 HS3 y0 y1 y2 y3 y4 y5 y6 t0 t1 t2 t3 t4
      obtain ⟨k, sm, hk, rfl, rfl, hs0, hs1, HS, hss⟩ := hrel
      obtain ⟨y0, y1, y2, y3, y4, y5, y6, t0, t1, t2, t3, t4⟩ := HS.out.cells; dsimp only at t0 t1 t2 t3 t4
      by_cases hlt : k < c.ord.length
      · have hk0 : (0 : Int) ≤ (k : Int) := by omega
        have hk16 : (k : Int) < 16 := by omega
        cases hbit : bitW wait k
        · have hst := HNT.out k hbit
          rw [← hss.out] at hst
          have HST := Lib.hid hst.symm
          have f1 : (bits .and .u16 (wait / 2 ^ k) 1 == 1) = false := hbit
          clear hst hss hbit
          go_wp2
          go_roundw
          case rel => exact ⟨k + 1, sm, by omega, by go_num, rfl, by omega, by omega, Lib.hid (HS.out.into (Only.refl _ _) (by obtain ⟨D7, h1, h2, h3⟩ := HS.out.vals; exact ⟨D7, h1.mono (by rw [Nat.add_mul]; omega), h2, h3⟩)), HST⟩
          case measure => simp [intOf]; omega
        · have hst := HAT.out k hbit
          rw [← hss.out] at hst
          have kS := KSEND.out k hlt
          have kR := KREC.out k hlt hbit
          have hp := HVB.out k hlt hbit
          obtain ⟨s', hs'⟩ : ∃ x, x = sendO ⟨ball, need, str, par, wait⟩ k := ⟨_, rfl⟩
          rw [← hs'] at hp hst
          simp only [← hs'] at kS kR
          obtain ⟨vv, hvv⟩ : ∃ x, x = vO c s' := ⟨_, rfl⟩
          rw [← hvv] at hp hst
          simp only [← hvv] at kR
          obtain ⟨hp0, hp1⟩ := hp
          have hkq : k * K + K ≤ Q := by have := Nat.mul_le_mul_right K (show k + 1 ≤ 6 by omega); rw [Nat.add_mul, Nat.one_mul] at this; omega
          have HST := Lib.hid hst.symm
          have KS := Lib.hid kS
          have KR := Lib.hid kR
          have HKQ := Lib.hid hkq
          have f1 : (bits .and .u16 (wait / 2 ^ k) 1 == 1) = true := hbit
          have hwb : b < wr.heap.size := by have := HS.out.blt; have := HS.out.only.size; omega
          clear hst kS kR hs' hvv hss hkq hbit
          have tok5 : True := trivial
          go_wp2_with (first
            | (clear tok5; go_at_call 62; refine (KS.out _).mono ?_; rintro e w5 ⟨rfl, hb5⟩; have HS5 := Lib.hid (HS.out.below hb5); clear y0 y1 y2 y3 y4 y5 y6 t0 t1 t2 t3 t4; obtain ⟨y0, y1, y2, y3, y4, y5, y6, t0, t1, t2, t3, t4⟩ := HS5.out.cells; dsimp only at t0 t1 t2 t3 t4; clear hb5; have tok6 : True := trivial)
            | (clear tok6; go_at_call 97; obtain ⟨D5, hv5, hk5, hg5⟩ := HS5.out.vals; refine (KR.out _ D5 _ HS5.out.env hv5 hk5 (by have := HKQ.out; omega)).mono ?_; rintro e w6 ⟨rfl, ho6, hv6⟩; have HS6 := Lib.hid (show SolV w w6 F b g0 g2 (N + (k + 1) * K) D c (.slice A c.mdl.bats.length ca) (.slice A1 c.mdl.bows.length ca1) (.slice A2 c.bows.length ca2) (.slice A3 c.ord.length ca3) ⟨ball, need, str, par, wait⟩ from HS5.out.into ho6 (by obtain ⟨D7, h1, h2, h3⟩ := hv6; exact ⟨D7, h1.mono (by rw [Nat.add_mul]; omega), h2, hg5.trans h3⟩)); clear y0 y1 y2 y3 y4 y5 y6 t0 t1 t2 t3 t4; obtain ⟨y0, y1, y2, y3, y4, y5, y6, t0, t1, t2, t3, t4⟩ := HS6.out.cells; dsimp only at t0 t1 t2 t3 t4; clear ho6 hv6 hv5 hk5 hg5; have tok7 : True := trivial))
          go_roundw
          case rel => exact ⟨k + 1, max sm vv, by omega, by go_num, by first | rfl | (rw [Int.max_comm]), by omega, by omega, HS6, HST⟩
          case measure => simp [intOf]; omega
      · obtain rfl : k = c.ord.length := by omega
        have hs2 := hss.out
        rw [HFIN.out] at hs2
        subst hs2
        have hlq : c.ord.length * K ≤ 6 * K := Nat.mul_le_mul_right K (by omega)
        clear hss
        go_wp2
        go_ret2
        exact ⟨rfl, HS.out.only, by obtain ⟨D2, h1, h2, h3⟩ := HS.out.vals; exact ⟨D2, h1.mono (by omega), h2, h3⟩⟩
end Go.Proofs.YtfnfbojaiikigaaGreatDoor

namespace Go.Proofs.YtfnfbojaiikigaaGreatDoor
open Go.RowKit Go.Maps

set_option maxRecDepth 100000 in
set_option maxHeartbeats 4000000 in
theorem or_look (c : Chs) (m K : Nat) (ih : ∀ k, k < m → SolveO 58 c k) (hK : ∀ k, k < m → cntR k ≤ K) (F : Nat → Prop) (b g0 g2 : Nat) (bv wv pv ov : Value) : LookO 97 F b g0 g2 K m c bv wv pv ov := by
  intro x hx hr N D W henv hown hkn hN
  have hch := henv.ch
  obtain ⟨A, ca, rfl, hc1, hc2⟩ := hch.mdl.bat.shape
  obtain ⟨A1, ca1, rfl, hc3, hc4⟩ := hch.mdl.bow.shape
  obtain ⟨A2, ca2, rfl, hc5, hc6⟩ := hch.bow.shape
  obtain ⟨A3, ca3, rfl, hc7, hc8⟩ := hch.ord.shape
  have hb1 : Below W.heap.size W (W.alloc (.cells #[.int .i64 x.ball, .int .i64 x.need, .int .i64 x.str, .int .i64 x.par, .int .u16 x.wait] 53)) := Below.alloc (Below.refl _ _) (Nat.le_refl _) _
  have he1 := henv.only (Only.of_below (g := b) hb1)
  have hKx := hK _ hr
  have kS := (ih (rankO c x) hr x rfl hx _ _ _ _ F b N D _ he1.ch he1.hF (ovals_below hown hb1) hkn (by omega)).mono fun e w2 ⟨h1, h2, D', h3, h4, h5, h6⟩ => (⟨h1, (Only.of_below hb1).trans h2, D', h3.mono (show N + cntR (rankO c x) ≤ N + K by omega), h4, h5⟩ : e = Ending.returned (.int .i64 (vO c x)) ∧ Only b W w2 ∧ ∃ D', ValsO w2 b (N + K) D' ∧ KnownO c D' ∧ GrewO D D')
  unfold chV osV at kS
  unfold osV
  have hl0 := henv.t0.lt
  have hl2 := henv.m2.lt
  have y0 : W.cell? ⟨g0, 0, none⟩ = some (.slice A c.mdl.bats.length ca) := henv.t0.cell 0
  have y1 : W.cell? ⟨g0, 1, none⟩ = some (.slice A1 c.mdl.bows.length ca1) := henv.t0.cell 1
  have y2 : W.cell? ⟨g0, 2, none⟩ = some (.slice A2 c.bows.length ca2) := henv.t0.cell 2
  have y3 : W.cell? ⟨g0, 3, none⟩ = some (.int .i64 c.over) := henv.t0.cell 3
  have y4 : W.cell? ⟨g0, 4, none⟩ = some (.int .i64 c.done) := henv.t0.cell 4
  have y5 : W.cell? ⟨g0, 5, none⟩ = some (.int .i64 c.need) := henv.t0.cell 5
  have y6 : W.cell? ⟨g0, 6, none⟩ = some (.slice A3 c.ord.length ca3) := henv.t0.cell 6
  have y7 : W.cell? ⟨g2, 0, none⟩ = some (.map (some b)) := henv.m2.cell 0
  obtain ⟨v, hv⟩ : ∃ v, v = vO c x := ⟨_, rfl⟩
  rw [← hv] at kS ⊢
  obtain ⟨x0, x1, x2, x3, x4⟩ := x
  dsimp only at kS ⊢
  have KS := Lib.hid kS
  clear kS hv hb1 he1 hKx hch henv hown hkn hN hr hx ih hK
  go_enter Tryz.func97, Tryz.ntmps97
  go_wp2_with (go_at_call 58; refine KS.out.mono ?_; rintro e w2 ⟨rfl, h2, h3⟩; have H2 := Lib.hid h2; have H3 := Lib.hid h3; clear h2 h3)
  go_ret2
  exact ⟨rfl, H2.out, H3.out⟩
/-- A task, a state and a map's variable boxed in solve's frame, the map beside them. -/
structure SolW (w W : World) (F : Nat → Prop) (b N : Nat) (D0 : DataW Unit) (c : Chs) (bv wv pv ov : Value) (s : Ost) : Prop where
  only : Only b w W
  st : Blk W (w.heap.size + 1) 53 #[.int .i64 s.ball, .int .i64 s.need, .int .i64 s.str, .int .i64 s.par, .int .u16 s.wait]
  blt : b < w.heap.size
  env : EnvO W F b w.heap.size (w.heap.size + 1 + 1) c bv wv pv ov
  vals : ∃ D, ValsO W b N D ∧ KnownO c D ∧ GrewO D0 D
section
variable {w W W' : World} {F : Nat → Prop} {b N N' : Nat} {D0 : DataW Unit} {c : Chs} {bv wv pv ov : Value} {s : Ost}
theorem SolW.into (h : SolW w W F b N D0 c bv wv pv ov s) (ho : Only b W W') (hv : ∃ D, ValsO W' b N' D ∧ KnownO c D ∧ GrewO D0 D) : SolW w W' F b N' D0 c bv wv pv ov s :=
  ⟨h.only.trans ho, h.st.grown ho (by intro e; injection e with e; have := h.blt; omega), h.blt, h.env.only ho, hv⟩
theorem SolW.cells (h : SolW w W F b N D0 c bv wv pv ov s) : W.cell? ⟨w.heap.size, 0, none⟩ = some bv ∧ W.cell? ⟨w.heap.size, 1, none⟩ = some wv ∧ W.cell? ⟨w.heap.size, 2, none⟩ = some pv ∧ W.cell? ⟨w.heap.size, 3, none⟩ = some (.int .i64 c.over) ∧ W.cell? ⟨w.heap.size, 4, none⟩ = some (.int .i64 c.done) ∧ W.cell? ⟨w.heap.size, 5, none⟩ = some (.int .i64 c.need) ∧ W.cell? ⟨w.heap.size, 6, none⟩ = some ov ∧
    W.cell? ⟨w.heap.size + 1, 0, none⟩ = some (.int .i64 s.ball) ∧ W.cell? ⟨w.heap.size + 1, 1, none⟩ = some (.int .i64 s.need) ∧ W.cell? ⟨w.heap.size + 1, 2, none⟩ = some (.int .i64 s.str) ∧ W.cell? ⟨w.heap.size + 1, 3, none⟩ = some (.int .i64 s.par) ∧ W.cell? ⟨w.heap.size + 1, 4, none⟩ = some (.int .u16 s.wait) ∧ W.cell? ⟨w.heap.size + 1 + 1, 0, none⟩ = some (.map (some b)) :=
  ⟨h.env.t0.cell 0, h.env.t0.cell 1, h.env.t0.cell 2, h.env.t0.cell 3, h.env.t0.cell 4, h.env.t0.cell 5, h.env.t0.cell 6, h.st.cell 0, h.st.cell 1, h.st.cell 2, h.st.cell 3, h.st.cell 4, h.env.m2.cell 0⟩
theorem SolW.new {D : DataW Unit} (hch : ChAt w F bv wv pv ov c) (hF : ∀ x, F x → x < w.heap.size ∧ x ≠ b) (h1 : ValsO w b N D) (h2 : KnownO c D) : SolW w (((w.alloc (.cells #[bv, wv, pv, .int .i64 c.over, .int .i64 c.done, .int .i64 c.need, ov] 50)).alloc (.cells #[.int .i64 s.ball, .int .i64 s.need, .int .i64 s.str, .int .i64 s.par, .int .u16 s.wait] 53)).alloc (.cells #[.map (some b)] 93)) F b N D c bv wv pv ov s ∧ ValsO (((w.alloc (.cells #[bv, wv, pv, .int .i64 c.over, .int .i64 c.done, .int .i64 c.need, ov] 50)).alloc (.cells #[.int .i64 s.ball, .int .i64 s.need, .int .i64 s.str, .int .i64 s.par, .int .u16 s.wait] 53)).alloc (.cells #[.map (some b)] 93)) b N D := by
  have hx := OSB.new w c bv wv pv ov s
  have hb := hx.bel.alloc hx.bel.size (.cells #[.map (some b)] 93)
  have hm := Blk.new ((w.alloc (.cells #[bv, wv, pv, .int .i64 c.over, .int .i64 c.done, .int .i64 c.need, ov] 50)).alloc (.cells #[.int .i64 s.ball, .int .i64 s.need, .int .i64 s.str, .int .i64 s.par, .int .u16 s.wait] 53)) 93 #[.map (some b)]
  rw [World.size_alloc, World.size_alloc] at hm
  have ho := Only.of_below (g := b) hb
  have hlt := h1.lt
  have hv := ovals_below h1 hb
  exact ⟨⟨ho, hx.st.alloc _, hlt, ⟨hch.keep (ho.same hF) fun _ h => h, fun x hx => ⟨Nat.lt_of_lt_of_le (hF x hx).1 ho.size, (hF x hx).2⟩, hx.box.alloc _, hm, by omega, by omega⟩, D, hv, h2, GrewO.refl _⟩, hv⟩
end
theorem cnt_fit {m K N : Nat} (h : (m = 0 ∧ K = 0) ∨ (∃ k, m = k + 1 ∧ K = cntR k)) : (if m % 2 = 1 then 6 else 16) * K + 1 ≤ cntR m := by
  rcases h with ⟨rfl, rfl⟩ | ⟨k, rfl, rfl⟩
  · exact Nat.le_refl _
  · rw [cntR]
    by_cases h : k % 2 = 0
    · rw [if_pos h, if_pos (by omega)]; omega
    · rw [if_neg h, if_neg (by omega)]; omega
set_option maxRecDepth 100000 in
set_option maxHeartbeats 4000000 in
theorem or_solve_at (c : Chs) (ht : OkT c) (m : Nat) (ih : ∀ k, k < m → SolveO 58 c k) : SolveO 58 c m := by
  intro s hm hs bv wv pv ov F b N D w h hF hown hkn hN
  have hkey := okey_of (hs.smol ht)
  obtain ⟨z, hz⟩ : ∃ z, z = vO c s := ⟨_, rfl⟩
  have hbd := vO_bd ht _ s hs rfl
  have hp16 := pow16_le (leftO_le ht hs)
  have hz0 : 0 ≤ z ∧ z ≤ 281474976710656 := by rw [hz]; omega
  have hit : Maps.has D (keyOs s) = true → D.atKey (keyOs s) (.lit (.int .i64 0)) = .lit (.int .i64 z) := fun hh => by rw [hz]; exact hkn s hs hh
  have hput : ∀ (D2 : DataW Unit), KnownO c D2 → IsMap D2 → GrewO D D2 → KnownO c (D2.put (keyOs s) (.lit (.int .i64 z))) ∧ GrewO D (D2.put (keyOs s) (.lit (.int .i64 z))) ∧ Maps.has (D2.put (keyOs s) (.lit (.int .i64 z))) (keyOs s) = true := fun D2 h1 h2 h3 => ⟨by rw [hz]; exact h1.put h2 ht hs, h3.trans (GrewO.put h2 s _), has_put_same h2 (okey_lit s) _⟩
  obtain ⟨K, hK1, hK2⟩ : ∃ K, ((m = 0 ∧ K = 0) ∨ (∃ k, m = k + 1 ∧ K = cntR k)) ∧ ∀ k, k < m → cntR k ≤ K := by
    cases m with
    | zero => exact ⟨0, .inl ⟨rfl, rfl⟩, fun k hk => by omega⟩
    | succ k => exact ⟨cntR k, .inr ⟨k, rfl, rfl⟩, fun j hj => cntR_mono (by omega)⟩
  have hfit := cnt_fit (N := N) hK1
  obtain ⟨A, ca, rfl, hc1, hc2⟩ := h.mdl.bat.shape
  obtain ⟨A1, ca1, rfl, hc3, hc4⟩ := h.mdl.bow.shape
  obtain ⟨A2, ca2, rfl, hc5, hc6⟩ := h.bow.shape
  obtain ⟨A3, ca3, rfl, hc7, hc8⟩ := h.ord.shape
  obtain ⟨hsw, hv0⟩ := SolW.new (s := s) h hF hown hkn
  have hval := fun W (he : EnvO W F b w.heap.size (w.heap.size + 1 + 1) c (.slice A c.mdl.bats.length ca) (.slice A1 c.mdl.bows.length ca1) (.slice A2 c.bows.length ca2) (.slice A3 c.ord.length ca3)) D2 (h1 : ValsO W b N D2) (h2 : KnownO c D2) => or_value c ht s hs F b w.heap.size (w.heap.size + 1 + 1) K N D2 _ _ _ _ W (by rw [hm]; exact or_look c m K ih hK2 F b _ _ _ _ _ _) he h1 h2 (by rw [hm]; omega)
  rw [hm, ← hz] at hval
  obtain ⟨Q, hQ⟩ : ∃ q, q = (if m % 2 = 1 then 6 else 16) * K := ⟨_, rfl⟩
  rw [← hQ] at hfit hval
  obtain ⟨CC, hCC⟩ : ∃ q, q = cntR m := ⟨_, rfl⟩
  rw [← hCC] at hfit hN ⊢
  obtain ⟨NN, hNN⟩ : ∃ q, q = N + Q := ⟨_, rfl⟩
  rw [← hNN] at hval
  have hN9 : NN + 1 ≤ N + CC := by omega
  have hN8 : NN < 2000000000000000000 := by omega
  have hN7 : N ≤ N + CC := by omega
  rw [← hz]
  unfold chV at hval ⊢
  have HW := Lib.hid hsw
  have HV0 := Lib.hid hv0
  have HPUT := Lib.hid hput
  have HKN := Lib.hid hkn
  cases hh : Maps.has D (keyOs s)
  case true =>
    have HIT := Lib.hid (hit hh)
    have HH := Lib.hid hh
    obtain ⟨ball, need, str, par, wait⟩ := s
    unfold osV at hkey ⊢
    dsimp only at hkey ⊢
    have HKEY := Lib.hid hkey
    clear hkey hit hput hkn hval ih hz hbd hp16 hs hm hK1 hK2 hfit hQ hCC hNN hsw hv0 hown h hF ht hN hN8 hN9
    go_enter Tryz.func58, Tryz.ntmps58
    go_wp2_with (at_lookup; refine wpList_lookup_own_ok_int _ rfl _ _ 93 rfl 53 2 .i64 law45 Tryz.underlying93 Tryz.underlying2 (zero_i64 _) b N D rfl HV0.out _ _ rfl HKEY.out ?_; intro cc hat hwc; have HC := Lib.hid (show cc = z from by have := hat.symm.trans HIT.out; injection this with this; injection this); clear hat hwc)
    go_ret
    exact ⟨ret_i HC.out, HW.out.only, D, HV0.out.mono hN7, HKN.out, GrewO.refl _, HH.out⟩
  case false =>
    obtain ⟨ball, need, str, par, wait⟩ := s
    unfold osV at hkey hval ⊢
    dsimp only at hkey hval ⊢
    have HKEY := Lib.hid hkey
    have HVAL := Lib.hid hval
    obtain ⟨y0, y1, y2, y3, y4, y5, y6, t0, t1, t2, t3, t4, t5⟩ := HW.out.cells
    dsimp only at t0 t1 t2 t3 t4
    have tok0 : True := trivial
    clear hkey hit hput hkn hval ih hz hbd hp16 hs hm hK1 hK2 hfit hQ hCC hNN hsw hv0 hown h hF ht hN hN7 y0 y1 y2 y3 y4 y5 y6 t0 t1 t2 t3 t4 t5
    go_enter Tryz.func58, Tryz.ntmps58
    go_wp2_with (first
      | (at_lookup; refine wpList_lookup_own_ok_int _ rfl _ _ 93 rfl 53 2 .i64 law45 Tryz.underlying93 Tryz.underlying2 (zero_i64 _) b N D rfl HV0.out _ _ rfl HKEY.out ?_; intro cc hat hwc; clear hat hwc)
      | (clear tok0; go_at_call 70; refine (HVAL.out _ HW.out.env D HV0.out HKN.out).mono ?_; rintro e w2 ⟨rfl, ho2, hv2⟩; have HW2 := Lib.hid (show SolW w w2 F b NN D c (.slice A c.mdl.bats.length ca) (.slice A1 c.mdl.bows.length ca1) (.slice A2 c.bows.length ca2) (.slice A3 c.ord.length ca3) ⟨ball, need, str, par, wait⟩ from HW.out.into ho2 hv2); obtain ⟨y0, y1, y2, y3, y4, y5, y6, t0, t1, t2, t3, t4, t5⟩ := HW2.out.cells; dsimp only at t0 t1 t2 t3 t4; obtain ⟨D2, hv9, hk9, hg9⟩ := HW2.out.vals; have HV9 := Lib.hid hv9; have HK9 := Lib.hid hk9; have HG8 := Lib.hid hg9; clear ho2 hv2 hv9 hk9 hg9; have tok1 : True := trivial)
      | (at_mapUpdate; refine wpList_mapUpdate_own _ rfl _ _ _ 93 rfl 53 2 law45 Tryz.underlying93 _ b NN D2 rfl HV9.out (by unfold maxLen; omega) _ _ _ rfl rfl HKEY.out _ [] (plainElem_int Tryz.underlying2 (WalkArith.wf_i64 (by omega))) ?_; intro w9 hown9 hgrow9; have HG9 := Lib.hid hgrow9; have HO9 := Lib.hid hown9; clear hgrow9 hown9))
    go_ret
    exact ⟨rfl, HW2.out.only.trans HG9.out, _, HO9.out.mono hN9, HPUT.out _ HK9.out HV9.out.isMap HG8.out⟩
theorem or_solve (c : Chs) (ht : OkT c) (m : Nat) : SolveO 58 c m :=
  Nat.strongRecOn m fun m ih => or_solve_at c ht m ih
end Go.Proofs.YtfnfbojaiikigaaGreatDoor

namespace Go.Proofs.YtfnfbojaiikigaaGreatDoor
open Go.RowKit Go.Maps

def elOst (_ : World) (_ : Nat → Prop) (cs : List Value) (s : Ost) : Prop := cs = [.int .i64 s.ball, .int .i64 s.need, .int .i64 s.str, .int .i64 s.par, .int .u16 s.wait]
theorem elOst_good : Good elOst := ⟨fun h _ _ => h⟩
/-- What holds of the states that follow. -/
structure NextOk (c : Chs) (s x : Ost) (y : Int) : Prop where
  ok : OkOs c x
  rank : rankO c x < rankO c s
  v0 : 0 ≤ vO c x ∧ vO c x ≤ 281474976710656
  p0 : 0 ≤ y * vO c x ∧ y * vO c x ≤ 281474976710656
theorem vO_48 {c : Chs} (ht : OkT c) {x : Ost} (hx : OkOs c x) : 0 ≤ vO c x ∧ vO c x ≤ 281474976710656 := by
  have h1 := vO_bd ht _ x hx rfl
  have h2 := pow16_le (leftO_le ht hx)
  omega
/-- The rows under way; they lie behind the world wB. -/
structure NxO (w wB W : World) (c : Chs) (bv wv pv ov : Value) (s : Ost) (v1 v2 : Value) (l1 : List Ost) (l2 : List Int) (n : Nat) : Prop where
  b0 : OSB w wB w.heap.size c bv wv pv ov s
  o1 : OwnSl 5 elOst 53 wB.heap.size W v1 l1
  o2 : OwnSl 1 elInt 2 wB.heap.size W v2 l2
  sb : Below wB.heap.size wB W
  n1 : l1.length ≤ n
  n2 : l2.length ≤ n
section
variable {w wB W W' : World} {c : Chs} {bv wv pv ov v1 v2 v' : Value} {s : Ost} {l1 : List Ost} {l2 : List Int} {n : Nat}
theorem NxO.base (h : NxO w wB W c bv wv pv ov s v1 v2 l1 l2 n) : OSB w W w.heap.size c bv wv pv ov s := h.b0.below h.sb
theorem NxO.below (h : NxO w wB W c bv wv pv ov s v1 v2 l1 l2 n) (hb : Below W.heap.size W W') : NxO w wB W' c bv wv pv ov s v1 v2 l1 l2 n := ⟨h.b0, h.o1.below elOst_good hb, h.o2.below elInt_good hb, h.sb.trans (hb.mono h.sb.size), h.n1, h.n2⟩
theorem NxO.alloc (h : NxO w wB W c bv wv pv ov s v1 v2 l1 l2 n) (o : Obj) : NxO w wB (W.alloc o) c bv wv pv ov s v1 v2 l1 l2 n := h.below (Below.alloc (Below.refl _ _) (Nat.le_refl _) o)
theorem NxO.le {m : Nat} (h : NxO w wB W c bv wv pv ov s v1 v2 l1 l2 n) (hm : n ≤ m) : NxO w wB W c bv wv pv ov s v1 v2 l1 l2 m := ⟨h.b0, h.o1, h.o2, h.sb, Nat.le_trans h.n1 hm, Nat.le_trans h.n2 hm⟩
theorem NxO.start (h : OSB w W w.heap.size c bv wv pv ov s) : NxO w W W c bv wv pv ov s (.slice none 0 0) (.slice none 0 0) [] [] 0 := ⟨h, OwnSl.nil _, OwnSl.nil _, Below.refl _ _, Nat.le_refl _, Nat.le_refl _⟩
end
/-- What nexts hands back. -/
def NxPost (w : World) (r : List Ost × List Int) (e : Ending) (w' : World) : Prop :=
  ∃ A n k A2 n2 k2, e = .returned (.tuple #[.slice A n k, .slice A2 n2 k2]) ∧ Below w.heap.size w w' ∧ Sl 5 elOst w' (fun b => w.heap.size ≤ b ∧ b < w'.heap.size) (.slice A n k) r.1 ∧ Sl 1 elInt w' (fun b => w.heap.size ≤ b ∧ b < w'.heap.size) (.slice A2 n2 k2) r.2
theorem NxO.post {w wB W : World} {c : Chs} {bv wv pv ov : Value} {s : Ost} {A A2 : Option Addr} {n k n2 k2 : Nat} {l1 : List Ost} {l2 : List Int} {m : Nat} (h : NxO w wB W c bv wv pv ov s (.slice A n k) (.slice A2 n2 k2) l1 l2 m) : NxPost w (l1, l2) (.returned (.tuple #[.slice A n k, .slice A2 n2 k2])) W :=
  ⟨_, _, _, _, _, _, rfl, h.base.bel, (h.o1.sl elOst_good).keep elOst_good (Same.refl _ _) fun b hb => ⟨Nat.le_trans h.b0.bel.size hb.1, hb.2⟩, (h.o2.sl elInt_good).keep elInt_good (Same.refl _ _) fun b hb => ⟨Nat.le_trans h.b0.bel.size hb.1, hb.2⟩⟩
end Go.Proofs.YtfnfbojaiikigaaGreatDoor

namespace Go.Proofs.YtfnfbojaiikigaaGreatDoor
open Go.RowKit Go.Maps

end Go.Proofs.YtfnfbojaiikigaaGreatDoor

namespace Go.Proofs.YtfnfbojaiikigaaGreatDoor
open Go.RowKit Go.Maps

/-- A task and a state boxed, a map beside them of which P holds. -/
structure SolF (w W : World) (F : Nat → Prop) (b N : Nat) (P : DataW Unit → Prop) (c : Chs) (bv wv pv ov : Value) (s : Ost) : Prop where
  only : Only b w W
  box : Blk W w.heap.size 50 #[bv, wv, pv, .int .i64 c.over, .int .i64 c.done, .int .i64 c.need, ov]
  st : Blk W (w.heap.size + 1) 53 #[.int .i64 s.ball, .int .i64 s.need, .int .i64 s.str, .int .i64 s.par, .int .u16 s.wait]
  blt : b < w.heap.size
  ch : ChAt W F bv wv pv ov c
  hF : ∀ x, F x → x < W.heap.size ∧ x ≠ b
  vals : ∃ D, ValsO W b N D ∧ KnownO c D ∧ P D
section
variable {w W W' : World} {F : Nat → Prop} {b N N' : Nat} {P P' : DataW Unit → Prop} {c : Chs} {bv wv pv ov : Value} {s : Ost}
theorem SolF.below (h : SolF w W F b N P c bv wv pv ov s) (hb : Below W.heap.size W W') : SolF w W' F b N P c bv wv pv ov s :=
  ⟨h.only.trans (Only.of_below hb), h.box.below hb h.box.lt, h.st.below hb h.st.lt, h.blt, h.ch.keep ((Only.of_below (g := b) hb).same h.hF) fun _ h => h, fun x hx => ⟨Nat.lt_of_lt_of_le (h.hF x hx).1 hb.size, (h.hF x hx).2⟩, let ⟨D, h1, h2, h3⟩ := h.vals; ⟨D, ovals_below h1 hb, h2, h3⟩⟩
theorem SolF.alloc (h : SolF w W F b N P c bv wv pv ov s) (o : Obj) : SolF w (W.alloc o) F b N P c bv wv pv ov s := h.below (Below.alloc (Below.refl _ _) (Nat.le_refl _) o)
theorem SolF.into (h : SolF w W F b N P c bv wv pv ov s) (ho : Only b W W') (hv : ∃ D, ValsO W' b N' D ∧ KnownO c D ∧ P' D) : SolF w W' F b N' P' c bv wv pv ov s :=
  ⟨h.only.trans ho, h.box.grown ho (by intro e; injection e with e; have := h.blt; omega), h.st.grown ho (by intro e; injection e with e; have := h.blt; omega), h.blt, h.ch.keep (ho.same h.hF) fun _ h => h, fun x hx => ⟨Nat.lt_of_lt_of_le (h.hF x hx).1 ho.size, (h.hF x hx).2⟩, hv⟩
theorem SolF.cells (h : SolF w W F b N P c bv wv pv ov s) : W.cell? ⟨w.heap.size, 0, none⟩ = some bv ∧ W.cell? ⟨w.heap.size, 1, none⟩ = some wv ∧ W.cell? ⟨w.heap.size, 2, none⟩ = some pv ∧ W.cell? ⟨w.heap.size, 3, none⟩ = some (.int .i64 c.over) ∧ W.cell? ⟨w.heap.size, 4, none⟩ = some (.int .i64 c.done) ∧ W.cell? ⟨w.heap.size, 5, none⟩ = some (.int .i64 c.need) ∧ W.cell? ⟨w.heap.size, 6, none⟩ = some ov ∧
    W.cell? ⟨w.heap.size + 1, 0, none⟩ = some (.int .i64 s.ball) ∧ W.cell? ⟨w.heap.size + 1, 1, none⟩ = some (.int .i64 s.need) ∧ W.cell? ⟨w.heap.size + 1, 2, none⟩ = some (.int .i64 s.str) ∧ W.cell? ⟨w.heap.size + 1, 3, none⟩ = some (.int .i64 s.par) ∧ W.cell? ⟨w.heap.size + 1, 4, none⟩ = some (.int .u16 s.wait) :=
  ⟨h.box.cell 0, h.box.cell 1, h.box.cell 2, h.box.cell 3, h.box.cell 4, h.box.cell 5, h.box.cell 6, h.st.cell 0, h.st.cell 1, h.st.cell 2, h.st.cell 3, h.st.cell 4⟩
theorem SolF.new {D : DataW Unit} (hch : ChAt w F bv wv pv ov c) (hF : ∀ x, F x → x < w.heap.size ∧ x ≠ b) (h1 : ValsO w b N D) (h2 : KnownO c D) (h3 : P D) : SolF w ((w.alloc (.cells #[bv, wv, pv, .int .i64 c.over, .int .i64 c.done, .int .i64 c.need, ov] 50)).alloc (.cells #[.int .i64 s.ball, .int .i64 s.need, .int .i64 s.str, .int .i64 s.par, .int .u16 s.wait] 53)) F b N P c bv wv pv ov s :=
  let hx := OSB.new w c bv wv pv ov s
  let ho := Only.of_below (g := b) hx.bel
  ⟨ho, hx.box, hx.st, h1.lt, hch.keep (ho.same hF) fun _ h => h, fun x hx => ⟨Nat.lt_of_lt_of_le (hF x hx).1 ho.size, (hF x hx).2⟩, D, ovals_below h1 hx.bel, h2, h3⟩
theorem SolF.chb (h : SolF w W F b N P c bv wv pv ov s) : ChAt W (· < W.heap.size) bv wv pv ov c := h.ch.keep (Same.refl _ _) fun x hx => (h.hF x hx).1
end
end Go.Proofs.YtfnfbojaiikigaaGreatDoor

namespace Go.Proofs.YtfnfbojaiikigaaGreatDoor
open Go.RowKit Go.Maps

theorem cntR16 : cntR 16 ≤ 20000000000000000 := by decide
theorem rank16 {c : Chs} {s : Ost} (ht : OkT c) (h : OkOs c s) (hv : vacO s = false) : rankO c s ≤ 16 := by
  have := ht.nb; have := h.ball
  unfold rankO leftO
  rw [hv]; simp; omega
/-- A valuing function, with one bound for all states in which both ends are taken. -/
def SolveK (f : FuncId) (c : Chs) : Prop := ∀ (s : Ost), OkOs c s → vacO s = false → ∀ (bv wv pv ov : Value) (F : Nat → Prop) (b N : Nat) (D : DataW Unit) (w : World), ChAt w F bv wv pv ov c → (∀ x, F x → x < w.heap.size ∧ x ≠ b) → ValsO w b N D → KnownO c D → N + cntR 16 ≤ 2000000000000000000 →
  Calls Tryz.prog f #[chV c bv wv pv ov, osV s, .map (some b)] w fun e w' => e = .returned (.int .i64 (vO c s)) ∧ Only b w w' ∧ ∃ D', ValsO w' b (N + cntR 16) D' ∧ KnownO c D'
theorem solveK_of {f : FuncId} {c : Chs} (ht : OkT c) (h : ∀ m, SolveO f c m) : SolveK f c := fun s hs hv bv wv pv ov F b N D w h1 h2 h3 h4 h5 => by
  have hr := cntR_mono (rank16 ht hs hv)
  refine (h _ s rfl hs bv wv pv ov F b N D w h1 h2 h3 h4 (by omega)).mono ?_
  rintro e w2 ⟨a1, a2, D7, a3, a4, _, _⟩
  exact ⟨a1, a2, D7, a3.mono (by omega), a4⟩
/-- A task and a state boxed, a map of the frame's own behind them. -/
structure SndO (w W : World) (b N : Nat) (c : Chs) (bv wv pv ov : Value) (s : Ost) : Prop where
  base : OSB w W w.heap.size c bv wv pv ov s
  hb : w.heap.size + 1 < b
  vals : ∃ D, ValsO W b N D ∧ KnownO c D
section
variable {w W W' : World} {b N N' : Nat} {c : Chs} {bv wv pv ov : Value} {s : Ost}
theorem SndO.below (h : SndO w W b N c bv wv pv ov s) (hb : Below W.heap.size W W') : SndO w W' b N c bv wv pv ov s := ⟨h.base.below hb, h.hb, let ⟨D, h1, h2⟩ := h.vals; ⟨D, ovals_below h1 hb, h2⟩⟩
theorem SndO.drew (h : SndO w W b N c bv wv pv ov s) : SndO w W.drew b N c bv wv pv ov s := h.below (Below.drew (Below.refl _ _))
theorem SndO.into (h : SndO w W b N c bv wv pv ov s) (ho : Only b W W') (hv : ∃ D, ValsO W' b N' D ∧ KnownO c D) : SndO w W' b N' c bv wv pv ov s := by
  have hbb := h.hb
  exact ⟨⟨h.base.bel.trans (ho.below (by omega) h.base.bel.size), h.base.box.grown ho (by intro e; injection e with e; omega), h.base.st.grown ho (by intro e; injection e with e; omega)⟩, h.hb, hv⟩
theorem SndO.cells (h : SndO w W b N c bv wv pv ov s) : W.cell? ⟨w.heap.size, 0, none⟩ = some bv ∧ W.cell? ⟨w.heap.size, 1, none⟩ = some wv ∧ W.cell? ⟨w.heap.size, 2, none⟩ = some pv ∧ W.cell? ⟨w.heap.size, 3, none⟩ = some (.int .i64 c.over) ∧ W.cell? ⟨w.heap.size, 4, none⟩ = some (.int .i64 c.done) ∧ W.cell? ⟨w.heap.size, 5, none⟩ = some (.int .i64 c.need) ∧ W.cell? ⟨w.heap.size, 6, none⟩ = some ov ∧
    W.cell? ⟨w.heap.size + 1, 0, none⟩ = some (.int .i64 s.ball) ∧ W.cell? ⟨w.heap.size + 1, 1, none⟩ = some (.int .i64 s.need) ∧ W.cell? ⟨w.heap.size + 1, 2, none⟩ = some (.int .i64 s.str) ∧ W.cell? ⟨w.heap.size + 1, 3, none⟩ = some (.int .i64 s.par) ∧ W.cell? ⟨w.heap.size + 1, 4, none⟩ = some (.int .u16 s.wait) := h.base.cells
theorem SndO.new (h : OSB w W w.heap.size c bv wv pv ov s) : SndO w (W.alloc (.map #[] 0)) W.heap.size 0 c bv wv pv ov s :=
  ⟨h.below (Below.alloc (Below.refl _ _) (Nat.le_refl _) _), h.st.lt, _, World.ownsMap_made W _ _ _, KnownO.none c⟩
theorem SndO.le (h : SndO w W b N c bv wv pv ov s) (hN : N ≤ N') : SndO w W b N' c bv wv pv ov s := ⟨h.base, h.hb, let ⟨D, h1, h2⟩ := h.vals; ⟨D, h1.mono hN, h2⟩⟩
end
end Go.Proofs.YtfnfbojaiikigaaGreatDoor

namespace Go.Proofs.YtfnfbojaiikigaaGreatDoor
open Go.RowKit Go.Maps

/-- A task boxed, the result's cells behind it. -/
structure Bs0 (w W : World) (c : Chs) (bv wv pv ov : Value) : Prop where
  bel : Below w.heap.size w W
  box : Blk W w.heap.size 50 #[bv, wv, pv, .int .i64 c.over, .int .i64 c.done, .int .i64 c.need, ov]
  res : Blk W (w.heap.size + 1) 68 #[.int .i64 0, .int .i64 0]
section
variable {w W W' : World} {c : Chs} {bv wv pv ov : Value}
theorem Bs0.below (h : Bs0 w W c bv wv pv ov) (hb : Below W.heap.size W W') : Bs0 w W' c bv wv pv ov := ⟨h.bel.trans (hb.mono h.bel.size), h.box.below hb h.box.lt, h.res.below hb h.res.lt⟩
theorem Bs0.cell7 (h : Bs0 w W c bv wv pv ov) : W.cell? ⟨w.heap.size, 0, none⟩ = some bv ∧ W.cell? ⟨w.heap.size, 1, none⟩ = some wv ∧ W.cell? ⟨w.heap.size, 2, none⟩ = some pv ∧ W.cell? ⟨w.heap.size, 3, none⟩ = some (.int .i64 c.over) ∧ W.cell? ⟨w.heap.size, 4, none⟩ = some (.int .i64 c.done) ∧ W.cell? ⟨w.heap.size, 5, none⟩ = some (.int .i64 c.need) ∧ W.cell? ⟨w.heap.size, 6, none⟩ = some ov :=
  ⟨h.box.cell 0, h.box.cell 1, h.box.cell 2, h.box.cell 3, h.box.cell 4, h.box.cell 5, h.box.cell 6⟩
theorem Bs0.rcell (h : Bs0 w W c bv wv pv ov) : W.cell? ⟨w.heap.size + 1, 0, none⟩ = some (.int .i64 0) ∧ W.cell? ⟨w.heap.size + 1, 1, none⟩ = some (.int .i64 0) ∧ W.frozen? ⟨w.heap.size + 1, 0, none⟩ = false ∧ W.frozen? ⟨w.heap.size + 1, 1, none⟩ = false := ⟨h.res.cell 0, h.res.cell 1, h.res.frozen 0, h.res.frozen 1⟩
theorem Bs0.new (w : World) (c : Chs) (bv wv pv ov : Value) : Bs0 w ((w.alloc (.cells #[bv, wv, pv, .int .i64 c.over, .int .i64 c.done, .int .i64 c.need, ov] 50)).alloc (.cells #[.int .i64 0, .int .i64 0] 68)) c bv wv pv ov := by
  have h1 := Blk.new w 50 #[bv, wv, pv, .int .i64 c.over, .int .i64 c.done, .int .i64 c.need, ov]
  exact ⟨below_two w _ _, h1.alloc _, blk_two w _ _ _⟩
theorem Blk.put2 {w : World} {g : Nat} {t : TypeId} {a b : Value} (h : Blk w g t #[a, b]) (x0 x1 : Value) : Blk ((w.setCell ⟨g, 0, none⟩ x0).setCell ⟨g, 1, none⟩ x1) g t #[x0, x1] := (h.set_ 0 x0).set_ 1 x1
theorem below_put2 {B : Nat} {a w : World} (h : Below B a w) {g : Nat} (hg : B ≤ g) (x0 x1 : Value) : Below B a ((w.setCell ⟨g, 0, none⟩ x0).setCell ⟨g, 1, none⟩ x1) := Below.setCell (Below.setCell h hg x0) hg x1
end
/-- Besides: a map in block b, the pair in block b + 1. -/
structure BstO (w W : World) (b N : Nat) (c : Chs) (bv wv pv ov : Value) (p q : Int) : Prop where
  base : Bs0 w W c bv wv pv ov
  hb : w.heap.size + 1 < b
  pair : Blk W (b + 1) 68 #[.int .i64 p, .int .i64 q]
  vals : ∃ D, ValsO W b N D ∧ KnownO c D
section
variable {w W W' : World} {b N N' : Nat} {c : Chs} {bv wv pv ov : Value} {p q : Int}
theorem BstO.below (h : BstO w W b N c bv wv pv ov p q) (hb : Below W.heap.size W W') : BstO w W' b N c bv wv pv ov p q := ⟨h.base.below hb, h.hb, h.pair.below hb h.pair.lt, let ⟨D, h1, h2⟩ := h.vals; ⟨D, ovals_below h1 hb, h2⟩⟩
theorem BstO.drew (h : BstO w W b N c bv wv pv ov p q) : BstO w W.drew b N c bv wv pv ov p q := h.below (Below.drew (Below.refl _ _))
theorem BstO.into (h : BstO w W b N c bv wv pv ov p q) (ho : Only b W W') (hv : ∃ D, ValsO W' b N' D ∧ KnownO c D) : BstO w W' b N' c bv wv pv ov p q := by
  have hbb := h.hb
  exact ⟨⟨h.base.bel.trans (ho.below (by omega) h.base.bel.size), h.base.box.grown ho (by intro e; injection e with e; omega), h.base.res.grown ho (by intro e; injection e with e; omega)⟩, h.hb, h.pair.grown ho (by intro e; injection e with e; omega), hv⟩
theorem BstO.cell7 (h : BstO w W b N c bv wv pv ov p q) : W.cell? ⟨w.heap.size, 0, none⟩ = some bv ∧ W.cell? ⟨w.heap.size, 1, none⟩ = some wv ∧ W.cell? ⟨w.heap.size, 2, none⟩ = some pv ∧ W.cell? ⟨w.heap.size, 3, none⟩ = some (.int .i64 c.over) ∧ W.cell? ⟨w.heap.size, 4, none⟩ = some (.int .i64 c.done) ∧ W.cell? ⟨w.heap.size, 5, none⟩ = some (.int .i64 c.need) ∧ W.cell? ⟨w.heap.size, 6, none⟩ = some ov := h.base.cell7
theorem BstO.pcell (h : BstO w W b N c bv wv pv ov p q) : W.cell? ⟨b + 1, 0, none⟩ = some (.int .i64 p) ∧ W.cell? ⟨b + 1, 1, none⟩ = some (.int .i64 q) ∧ W.frozen? ⟨b + 1, 0, none⟩ = false ∧ W.frozen? ⟨b + 1, 1, none⟩ = false := ⟨h.pair.cell 0, h.pair.cell 1, h.pair.frozen 0, h.pair.frozen 1⟩
theorem BstO.stored (h : BstO w W b N c bv wv pv ov p q) (p' q' : Int) : BstO w ((W.setCell ⟨b + 1, 0, none⟩ (.int .i64 p')).setCell ⟨b + 1, 1, none⟩ (.int .i64 q')) b N c bv wv pv ov p' q' := by
  have hbb := h.hb
  have n1 : w.heap.size ≠ b + 1 := by omega
  have n2 : w.heap.size + 1 ≠ b + 1 := by omega
  have hle : Below (b + 1) W ((W.setCell ⟨b + 1, 0, none⟩ (.int .i64 p')).setCell ⟨b + 1, 1, none⟩ (.int .i64 q')) := below_put2 (Below.refl _ _) (Nat.le_refl _) _ _
  exact ⟨⟨below_put2 h.base.bel (by omega) _ _, (h.base.box.far (p := ⟨b + 1, 0, none⟩) n1 _).far (p := ⟨b + 1, 1, none⟩) n1 _, (h.base.res.far (p := ⟨b + 1, 0, none⟩) n2 _).far (p := ⟨b + 1, 1, none⟩) n2 _⟩, h.hb, h.pair.put2 _ _, let ⟨D, h1, h2⟩ := h.vals; ⟨D, h1.kept (Only.setCell (Only.setCell (Only.refl (b + 1) W) (.inl rfl) _) (.inl rfl) _) (by simp), h2⟩⟩
theorem BstO.le (h : BstO w W b N c bv wv pv ov p q) (hN : N ≤ N') : BstO w W b N' c bv wv pv ov p q := ⟨h.base, h.hb, h.pair, let ⟨D, h1, h2⟩ := h.vals; ⟨D, h1.mono hN, h2⟩⟩
theorem BstO.new (h : Bs0 w W c bv wv pv ov) (p q : Int) : BstO w ((W.alloc (.map #[] 0)).alloc (.cells #[.int .i64 p, .int .i64 q] 68)) W.heap.size 0 c bv wv pv ov p q := by
  have hm : ValsO (W.alloc (.map #[] 0)) W.heap.size 0 (.map []) := World.ownsMap_made W _ _ _
  exact ⟨h.below (below_two W _ _), h.res.lt, blk_two W _ _ _, _, ovals_below hm (Below.alloc (Below.refl _ _) (Nat.le_refl _) _), KnownO.none c⟩
end
theorem or_Best_ret {R' : Ending → World → Prop} {a : Act} {w : World} {x0 x1 v3 v4 : Value} {g : Nat} (h2 : a.tmps[2]? = some (.pointer (some ⟨g, 0, none⟩))) (h3 : a.tmps[3]? = some v3) (h4 : a.tmps[4]? = some v4) (hb : Blk w g 68 #[x0, x1])
    (hd : a.defers = []) (hR : R' (.returned (.tuple #[.agg #[x0, x1], v3, v4])) w) : bodyPost Tryz.prog Tryz.f33 R' .ret a w := by
  have r0 := hb.cell 0
  have r1 := hb.cell 1
  simp only [List.getElem?_toArray, List.getElem?_cons_zero, List.getElem?_cons_succ] at r0 r1
  refine bodyPost_ret (v := .tuple #[.agg #[x0, x1], v3, v4]) (by simp [results, Tryz.results33, go_sem, h2, h3, h4, r0, r1]) hd hR
set_option maxRecDepth 100000 in
set_option maxHeartbeats 6000000 in
theorem or_Best (c : Chs) (bv wv pv ov : Value) (w : World) (h : ChAt w (· < w.heap.size) bv wv pv ov c) :
    Calls Tryz.prog 33 #[chV c bv wv pv ov] w fun e w' => e = .returned (.tuple #[.agg #[.int .i64 (bestOS c).1.1, .int .i64 (bestOS c).1.2], .int .i64 (bestOS c).2.1, .int .i64 (bestOS c).2.2]) ∧ Below w.heap.size w w' := by
  unfold chV
  obtain ⟨A, ca, rfl, hc1, hc2⟩ := h.mdl.bat.shape
  obtain ⟨A1, ca1, rfl, hc3, hc4⟩ := h.mdl.bow.shape
  obtain ⟨A2, ca2, rfl, hc5, hc6⟩ := h.bow.shape
  obtain ⟨A3, ca3, rfl, hc7, hc8⟩ := h.ord.shape
  have HX := Lib.hid (Bs0.new w c (.slice A c.mdl.bats.length ca) (.slice A1 c.mdl.bows.length ca1) (.slice A2 c.bows.length ca2) (.slice A3 c.ord.length ca3))
  have HM := Lib.hid h
  obtain ⟨z, hz⟩ : ∃ z, z = bestOS c := ⟨_, rfl⟩
  rw [← hz]
  unfold bestOS at hz
  have k1 := fun W (hW : Below w.heap.size w W) => or_Check c _ _ _ _ W (HM.out.below hW)
  skip
  unfold chV at k1
  obtain ⟨u, hu⟩ : ∃ u, u = checkO c := ⟨_, rfl⟩
  rw [← hu] at k1 hz
  have K1 := Lib.hid k1
  have tok0 : True := trivial
  have hmm := @run_makeMap Tryz.prog
  by_cases h0 : u = 0
  case neg =>
    rw [if_pos h0] at hz
    have HZ := Lib.hid hz
    have eu : (u != 0) = true := by simp [h0]
    clear hz h0 k1 hu h
    go_enter Tryz.func33, Tryz.ntmps33
    go_wp2_with (clear tok0; go_at_call 21; refine (K1.out _ HX.out.bel).mono ?_; rintro e w2 ⟨rfl, hb2⟩; have HX2 := Lib.hid (HX.out.below hb2); obtain ⟨x0, x1, x2, x3, x4, x5, x6⟩ := HX2.out.cell7; obtain ⟨z0, z1, zf0, zf1⟩ := HX2.out.rcell; have hl1 := HX2.out.box.lt; have hl2 := HX2.out.res.lt; clear hb2; have tok1 : True := trivial)
    refine or_Best_ret rfl rfl rfl (HX2.out.res.put2 _ _) rfl ⟨by rw [HZ.out] <;> rfl, ?_⟩
    exact below_put2 HX2.out.bel (by omega) _ _
  rw [if_neg (by omega)] at hz
  have eu : (u != 0) = false := by simp [h0]
  have ht := okT_of (c := c) (by omega)
  rw [bestS_same ht (0, 0) (0, 0)] at hz
  have hnp := ht.np
  have kop := fun (a b : Nat) (ha : a < c.ord.length) (hb : b < c.ord.length) W (hW : Below w.heap.size w W) => or_opened c a b _ _ _ _ W (HM.out.below hW) ht ha hb
  have ksol : ∀ (i j : Nat) (hi : i < c.ord.length) (hj : j < c.ord.length) (hne : i ≠ j) (W : World) (b N : Nat) (p q : Int) (hW : BstO w W b N c (.slice A c.mdl.bats.length ca) (.slice A1 c.mdl.bows.length ca1) (.slice A2 c.bows.length ca2) (.slice A3 c.ord.length ca3) p q) (hN : N + cntR 16 ≤ 2000000000000000000), Calls Tryz.prog 58 #[chV c (.slice A c.mdl.bats.length ca) (.slice A1 c.mdl.bows.length ca1) (.slice A2 c.bows.length ca2) (.slice A3 c.ord.length ca3), osV (openO c i j), .map (some b)] W fun e W' => e = .returned (.int .i64 (vO c (openO c i j))) ∧ BstO w W' b (N + cntR 16) c (.slice A c.mdl.bats.length ca) (.slice A1 c.mdl.bows.length ca1) (.slice A2 c.bows.length ca2) (.slice A3 c.ord.length ca3) p q ∧ Only b W W' := fun i j hi hj hne W b N p q hW hN => by
    obtain ⟨q1, q2, _⟩ := openO_ok ht hi hj hne
    obtain ⟨D, d1, d2⟩ := hW.vals
    have hbb := hW.hb
    refine (solveK_of ht (or_solve c ht) (openO c i j) q1 q2 _ _ _ _ (· < w.heap.size) b N D W (HM.out.keep (Same.of_below hW.base.bel) fun _ h => h) (fun x hx => ⟨Nat.lt_of_lt_of_le hx hW.base.bel.size, by have : x < w.heap.size := hx; omega⟩) d1 d2 hN).mono ?_
    rintro e W' ⟨a1, a2, a3⟩
    exact ⟨a1, hW.into a2 a3, a2⟩
  have hvb : ∀ (i j : Nat) (hi : i < c.ord.length) (hj : j < c.ord.length) (hne : i ≠ j), 0 ≤ vO c (openO c i j) ∧ vO c (openO c i j) ≤ 281474976710656 := fun i j hi hj hne => vO_48 ht (openO_ok ht hi hj hne).1
  unfold bestS at hz
  obtain ⟨f, hf⟩ : ∃ f : Int → Int → Int, f = fun a b => vO c (openO c a b) := ⟨_, rfl⟩
  have hfe : ∀ i j : Nat, vO c (openO c i j) = f i j := fun i j => by rw [hf]
  rw [← hf] at hz
  simp only [hfe] at ksol hvb
  have hrow : ∀ (a b : Nat) (r : (Int × Int) × Int), rowB f a (b + 1) r = if a = b then rowB f a b r else if (rowB f a b r).2 < f a b then (((a : Int), (b : Int)), f a b) else rowB f a b r := fun a b r => by rw [rowB]
  have hall : ∀ (a : Nat), allB f c.ord.length (a + 1) ((0, 0), -1) = rowB f a c.ord.length (allB f c.ord.length a ((0, 0), -1)) := fun a => by rw [allB]
  have hK := cntR16
  obtain ⟨K, hKe⟩ : ∃ K, K = cntR 16 := ⟨_, rfl⟩
  rw [← hKe] at ksol hK
  unfold chV at kop
  unfold chV at ksol
  have HROW := Lib.hid hrow
  have HALL := Lib.hid hall
  have HVB := Lib.hid hvb
  have KOP := Lib.hid kop
  have KSOL := Lib.hid ksol
  have HZ := Lib.hid hz
  obtain ⟨hnp1, hnp2⟩ := hnp
  clear hz h0 k1 hu h ht kop ksol hvb hrow hall hKe hfe hf
  go_enter Tryz.func33, Tryz.ntmps33
  go_wp2_with (clear tok0; go_at_call 21; refine (K1.out _ HX.out.bel).mono ?_; rintro e w2 ⟨rfl, hb2⟩; have HX2 := Lib.hid (HX.out.below hb2); obtain ⟨x0, x1, x2, x3, x4, x5, x6⟩ := HX2.out.cell7; obtain ⟨z0, z1, zf0, zf1⟩ := HX2.out.rcell; have hl1 := HX2.out.box.lt; have hl2 := HX2.out.res.lt; clear hb2; have tok1 : True := trivial)
  go_loopw [8, 23] (fun mo i wr => ∃ (a : Nat) (p q m : Int), a ≤ c.ord.length ∧ i = .int .i64 a ∧ mo = .int .i64 m ∧ -1 ≤ m ∧ m ≤ 281474976710656 ∧ Hid (BstO w wr w2.heap.size (a * 6 * K) c (.slice A c.mdl.bats.length ca) (.slice A1 c.mdl.bows.length ca1) (.slice A2 c.bows.length ca2) (.slice A3 c.ord.length ca3) p q) ∧ Hid (((p, q), m) = allB f c.ord.length a ((0, 0), -1))) (fun _ i _ => c.ord.length - (intOf i).toNat)
  case atStart => exact ⟨0, 0, 0, -1, Nat.zero_le _, rfl, rfl, by omega, by omega, Lib.hid (by first | (rw [Nat.zero_mul]; exact BstO.new HX2.out 0 0) | (rw [Nat.zero_mul, Nat.zero_mul]; exact BstO.new HX2.out 0 0)), Lib.hid rfl⟩
  case round =>
    clear x0 x1 x2 x3 x4 x5 x6 z0 z1 zf0 zf1 hl1 hl2
    obtain ⟨a, p, q, m, ha, rfl, rfl, hm0, hm1, HS, hss⟩ := hrel
    obtain ⟨x0, x1, x2, x3, x4, x5, x6⟩ := HS.out.cell7; 
    obtain ⟨wo, hwo⟩ : ∃ wo : World, wo = wr := ⟨_, rfl⟩
    subst hwo
    by_cases hat : a < c.ord.length
    · have hA := HALL.out a
      rw [← hss.out] at hA
      obtain ⟨R, hR⟩ : ∃ R : (Int × Int) × Int, R = ((p, q), m) := ⟨_, rfl⟩
      rw [← hR] at hA
      have HA := Lib.hid hA
      have HR := Lib.hid (show ((p, q), m) = rowB f a 0 R by rw [hR]; rfl)
      clear hA hR hss
      go_wp2
      go_loopw [8, 29] (fun mo i wr => ∃ (b : Nat) (p q m : Int), b ≤ c.ord.length ∧ i = .int .i64 b ∧ mo = .int .i64 m ∧ -1 ≤ m ∧ m ≤ 281474976710656 ∧ Hid (BstO w wr w2.heap.size ((a * 6 + b) * K) c (.slice A c.mdl.bats.length ca) (.slice A1 c.mdl.bows.length ca1) (.slice A2 c.bows.length ca2) (.slice A3 c.ord.length ca3) p q) ∧ Hid (((p, q), m) = rowB f a b R)) (fun _ i _ => c.ord.length - (intOf i).toNat)
      case atStart => exact ⟨0, p, q, m, Nat.zero_le _, rfl, rfl, hm0, hm1, HS, HR⟩
      case round =>
        clear x0 x1 x2 x3 x4 x5 x6 HS HR
        obtain ⟨b, p, q, m, hb, rfl, rfl, hm0, hm1, HS, hss⟩ := hrel
        obtain ⟨x0, x1, x2, x3, x4, x5, x6⟩ := HS.out.cell7; 
        by_cases hbt : b < c.ord.length
        · have hst := HROW.out a b R
          rw [← hss.out] at hst
          by_cases hab : a = b
          · rw [if_pos hab] at hst
            have HST := Lib.hid hst.symm
            have e1 : ((a : Int) == (b : Int)) = true := by rw [hab]; simp
            clear hst hss hab
            go_wp2
            go_roundw
            case rel => exact ⟨b + 1, p, q, m, by omega, by go_num, rfl, hm0, hm1, Lib.hid (HS.out.le (Nat.mul_le_mul_right K (by omega))), HST⟩
            case measure => simp [intOf]; omega
          · rw [if_neg hab] at hst
            have e1 : ((a : Int) == (b : Int)) = false := by simp; omega
            have kO := KOP.out a b hat hbt
            have kR := KSOL.out a b hat hbt hab
            have hp := HVB.out a b hat hbt hab
            obtain ⟨⟨t0, t1, t2, t3, t4⟩, hs'⟩ : ∃ x, x = openO c a b := ⟨_, rfl⟩
            simp only [← hs'] at kO kR
            obtain ⟨vv, hvv'⟩ : ∃ x, x = f a b := ⟨_, rfl⟩
            rw [← hvv'] at hp hst
            simp only [← hvv'] at kR
            unfold osV at kO kR
            dsimp only at hst kO kR
            obtain ⟨hp0, hp1⟩ := hp
            have hkK : (a * 6 + b) * K + K ≤ 2000000000000000000 := by have := Nat.mul_le_mul_right K (show (a * 6 + b) + 1 ≤ 36 by omega); rw [Nat.add_mul, Nat.one_mul] at this; omega
            have hkk : (a * 6 + (b + 1)) * K = (a * 6 + b) * K + K := by rw [show a * 6 + (b + 1) = (a * 6 + b) + 1 by omega, Nat.add_mul (a * 6 + b), Nat.one_mul]
            have KO := Lib.hid kO
            have KR := Lib.hid kR
            have HKK := Lib.hid hkk
            have HHK := Lib.hid hkK
            clear kO kR hs' hvv' hss hkk hkK hab
            go_wp2
            have HSD := Lib.hid HS.out.drew
            clear x0 x1 x2 x3 x4 x5 x6
            obtain ⟨x0, x1, x2, x3, x4, x5, x6⟩ := HSD.out.cell7; 
            have tok9 : True := trivial
            go_region_held3 (fun w' => w'.cell? ⟨w.heap.size, 0, none⟩ = some (.slice A c.mdl.bats.length ca) ∧ w'.cell? ⟨w.heap.size, 1, none⟩ = some (.slice A1 c.mdl.bows.length ca1) ∧ w'.cell? ⟨w.heap.size, 2, none⟩ = some (.slice A2 c.bows.length ca2) ∧ w'.cell? ⟨w.heap.size, 3, none⟩ = some (.int .i64 c.over) ∧ w'.cell? ⟨w.heap.size, 4, none⟩ = some (.int .i64 c.done) ∧ w'.cell? ⟨w.heap.size, 5, none⟩ = some (.int .i64 c.need) ∧ w'.cell? ⟨w.heap.size, 6, none⟩ = some (.slice A3 c.ord.length ca3)) (first | exact ⟨x0, x1, x2, x3, x4, x5, x6⟩ | go_keep) (first
              | (clear tok9; go_at_call 69; refine (KO.out _ HSD.out.base.bel).mono ?_; rintro e w6 ⟨rfl, hb6⟩; have HS6 := Lib.hid (HSD.out.below hb6); clear x0 x1 x2 x3 x4 x5 x6; obtain ⟨x0, x1, x2, x3, x4, x5, x6⟩ := HS6.out.cell7; clear hb6; have tok10 : True := trivial)
              | (clear tok10; go_at_call 58; refine (KR.out _ _ _ _ _ HS6.out HHK.out).mono ?_; rintro e w7 ⟨rfl, hs7, ho7⟩; have HS7 := Lib.hid hs7; clear x0 x1 x2 x3 x4 x5 x6; obtain ⟨x0, x1, x2, x3, x4, x5, x6⟩ := HS7.out.cell7; obtain ⟨p0, p1, pf0, pf1⟩ := HS7.out.pcell; clear hs7 ho7; have tok11 : True := trivial))
            by_cases hgt : m < vv
            · rw [if_pos hgt] at hst
              have HST := Lib.hid hst.symm
              clear hst
              all_goals go_wp2
              go_roundw
              case rel => exact ⟨b + 1, a, b, vv, by omega, by go_num, rfl, by omega, by omega, Lib.hid (by rw [HKK.out]; exact HS7.out.stored a b), HST⟩
              case measure => simp [intOf]; omega
            · rw [if_neg hgt] at hst
              have HST := Lib.hid hst.symm
              clear hst
              all_goals go_wp2
              go_roundw
              case rel => exact ⟨b + 1, p, q, m, by omega, by go_num, rfl, by omega, by omega, Lib.hid (by rw [HKK.out]; exact HS7.out), HST⟩
              case measure => simp [intOf]; omega
        · obtain rfl : b = c.ord.length := by omega
          have HF := Lib.hid (show ((p, q), m) = allB f c.ord.length (a + 1) ((0, 0), -1) by rw [HA.out, hss.out])
          clear hss
          go_wp2
          go_roundw
          case rel => exact ⟨a + 1, p, q, m, by omega, by go_num, rfl, hm0, hm1, Lib.hid (HS.out.le (Nat.mul_le_mul_right K (by omega))), HF⟩
          case measure => simp [intOf]; omega
    · obtain rfl : a = c.ord.length := by omega
      have HF := Lib.hid (show z = ((p, q), m, 0) by rw [HZ.out, ← hss.out])
      obtain ⟨p0, p1, pf0, pf1⟩ := HS.out.pcell
      obtain ⟨z0, z1, zf0, zf1⟩ := HS.out.base.rcell
      clear hss
      go_wp2
      refine or_Best_ret rfl rfl rfl (HS.out.base.res.put2 _ _) rfl ⟨by rw [HF.out] <;> rfl, ?_⟩
      exact below_put2 HS.out.base.bel (by omega) _ _
end Go.Proofs.YtfnfbojaiikigaaGreatDoor

namespace Go.Proofs.YtfnfbojaiikigaaGreatDoor
open Go.RowKit

def exO1 : List UInt8 := [48, 58, 56, 32, 52, 58, 56]
def exO1d : List Otc := [⟨0, false, 8⟩, ⟨4, false, 8⟩]
def exO2 : List UInt8 := [48, 58, 49, 54]
def exO2d : List Otc := [⟨0, false, 16⟩]
theorem exO1_text : textC exO1d = (exO1, 0) := by
  have h0 : checkD exO1d = 0 := by kernel_rfl
  have e0 := otcW_dig3 0 8 false (by omega) (by omega)
  have e1 := otcW_dig3 4 8 false (by omega) (by omega)
  unfold textC
  rw [if_neg (fun k => k h0)]
  show (Lib.join [otcW ⟨((0 : Nat) : Int), false, ((8 : Nat) : Int)⟩, otcW ⟨((4 : Nat) : Int), false, ((8 : Nat) : Int)⟩] [32], (0 : Int)) = _
  rw [e0, e1]
  kernel_rfl
theorem exO2_text : textC exO2d = (exO2, 0) := by
  have h0 : checkD exO2d = 0 := by kernel_rfl
  have e0 := otcW_dig2 0 16 false (by omega) (by omega) (by omega)
  unfold textC
  rw [if_neg (fun k => k h0)]
  show (Lib.join [otcW ⟨((0 : Nat) : Int), false, ((16 : Nat) : Int)⟩] [32], (0 : Int)) = _
  rw [e0]
  kernel_rfl
theorem exO1_parse : parseC exO1 = (exO1d, 0) := by
  have h1 : (pieces 32 exO1).all pieceOk = true := by kernel_rfl
  have h2 : (pieces 32 exO1).map pieceO = exO1d := by kernel_rfl
  unfold parseC
  rw [h1, if_neg (by simp), h2, exO1_text, if_neg (by simp)]
theorem exO2_parse : parseC exO2 = (exO2d, 0) := by
  have h1 : (pieces 32 exO2).all pieceOk = true := by kernel_rfl
  have h2 : (pieces 32 exO2).map pieceO = exO2d := by kernel_rfl
  unfold parseC
  rw [h1, if_neg (by simp), h2, exO2_text, if_neg (by simp)]
theorem bats_lit3 (W : World) (v u : Value) (d z : List Otc) (a b c : List UInt8) (hv : Sl 3 elOtc W (· < W.heap.size) v d) (hu : Sl 3 elOtc W (· < W.heap.size) u z) (ha : a.length ≤ maxLen) (hb : b.length ≤ maxLen) (hc : c.length ≤ maxLen) :
    Sl 2 elBat (W.alloc (.cells #[.string (S a), v, .string (S b), u, .string (S c), u] 77)) (· < (W.alloc (.cells #[.string (S a), v, .string (S b), u, .string (S c), u] 77)).heap.size) (.slice (some ⟨W.heap.size, 0, none⟩) 3 3) [⟨a, d⟩, ⟨b, z⟩, ⟨c, z⟩] := by
  have hk := Blk.new W 77 #[.string (S a), v, .string (S b), u, .string (S c), u]
  have hbb : Below W.heap.size W (W.alloc (.cells #[.string (S a), v, .string (S b), u, .string (S c), u] 77)) := Below.alloc (Below.refl _ _) (Nat.le_refl _) _
  have hv2 := hv.keep (G := (· < (W.alloc (.cells #[.string (S a), v, .string (S b), u, .string (S c), u] 77)).heap.size)) elOtc_good (Same.of_below hbb) fun b h => Nat.lt_of_lt_of_le h hbb.size
  have hu2 := hu.keep (G := (· < (W.alloc (.cells #[.string (S a), v, .string (S b), u, .string (S c), u] 77)).heap.size)) elOtc_good (Same.of_below hbb) fun b h => Nat.lt_of_lt_of_le h hbb.size
  have two : ∀ {x y : Value} {j : Nat} {q : Value}, [x, y][j]? = some q → (j = 0 ∧ q = x) ∨ (j = 1 ∧ q = y) := fun {x y j q} h => by
    have hj : j = 0 ∨ j = 1 := by have := (List.getElem?_eq_some_iff.1 h).1; simp at this; omega
    rcases hj with rfl | rfl
    · simp at h; exact .inl ⟨rfl, h.symm⟩
    · simp at h; exact .inr ⟨rfl, h.symm⟩
  refine ⟨_, 3, rfl, Nat.le_refl _, by decide, fun h0 => ⟨W.heap.size, 0, rfl, by simp, fun i x hi => ?_⟩⟩
  have hlt := (List.getElem?_eq_some_iff.1 hi).1
  have hcs : i = 0 ∨ i = 1 ∨ i = 2 := by simp at hlt; omega
  rcases hcs with rfl | rfl | rfl
  · simp at hi; subst hi
    refine ⟨[.string (S a), v], rfl, fun j q hq => ?_, ⟨_, rfl, hv2⟩, ha⟩
    rcases two hq with ⟨rfl, rfl⟩ | ⟨rfl, rfl⟩
    · exact hk.cell 0
    · exact hk.cell 1
  · simp at hi; subst hi
    refine ⟨[.string (S b), u], rfl, fun j q hq => ?_, ⟨_, rfl, hu2⟩, hb⟩
    rcases two hq with ⟨rfl, rfl⟩ | ⟨rfl, rfl⟩
    · exact hk.cell 2
    · exact hk.cell 3
  · simp at hi; subst hi
    refine ⟨[.string (S c), u], rfl, fun j q hq => ?_, ⟨_, rfl, hu2⟩, hc⟩
    rcases two hq with ⟨rfl, rfl⟩ | ⟨rfl, rfl⟩
    · exact hk.cell 4
    · exact hk.cell 5
theorem ints_three (W : World) (a b c : Int) (e : TypeId) : Sl 1 elInt (W.alloc (.cells #[.int .i64 a, .int .i64 b, .int .i64 c] e)) (· < (W.alloc (.cells #[.int .i64 a, .int .i64 b, .int .i64 c] e)).heap.size) (.slice (some ⟨W.heap.size, 0, none⟩) 3 3) [a, b, c] := by
  have hk := Blk.new W e #[.int .i64 a, .int .i64 b, .int .i64 c]
  refine ⟨_, 3, rfl, Nat.le_refl _, by decide, fun h0 => ⟨W.heap.size, 0, rfl, by simp, fun i x hi => ?_⟩⟩
  have hlt := (List.getElem?_eq_some_iff.1 hi).1
  have hc : i = 0 ∨ i = 1 ∨ i = 2 := by simp at hlt; omega
  have one : ∀ {y : Value} {j : Nat} {q : Value}, [y][j]? = some q → j = 0 ∧ q = y := fun {y j q} h => by
    obtain rfl : j = 0 := by have := (List.getElem?_eq_some_iff.1 h).1; simp at this; exact this
    simp at h; exact ⟨rfl, h.symm⟩
  rcases hc with rfl | rfl | rfl
  · simp at hi; subst hi
    refine ⟨[.int .i64 a], rfl, fun j u hu => ?_, rfl⟩
    obtain ⟨rfl, rfl⟩ := one hu
    exact hk.cell 0
  · simp at hi; subst hi
    refine ⟨[.int .i64 b], rfl, fun j u hu => ?_, rfl⟩
    obtain ⟨rfl, rfl⟩ := one hu
    exact hk.cell 1
  · simp at hi; subst hi
    refine ⟨[.int .i64 c], rfl, fun j u hu => ?_, rfl⟩
    obtain ⟨rfl, rfl⟩ := one hu
    exact hk.cell 2
def chM3 : Mdl := ⟨[⟨[65], exO1d⟩, ⟨[66], exO2d⟩, ⟨[67], exO2d⟩], [⟨[88], 0⟩]⟩
def ch45 : Chs := ⟨chM3, [0], 6, 0, 4, [0, 1, 2]⟩
theorem ch45_best : bestOS ch45 = ((0, 1), 8, 0) := by kernel_rfl
def awW5 (w1 : World) (v u : Value) : World :=
  ((((w1.alloc (.cells #[.string (S [65]), v, .string (S [66]), u, .string (S [67]), u] 77)).alloc (.cells #[.string (S [88]), .int .i64 0] 90)).alloc (.cells #[.slice (some ⟨w1.heap.size, 0, none⟩) 3 3, .slice (some ⟨w1.heap.size + 1, 0, none⟩) 1 1] 25)).alloc (.cells #[.int .i64 0] 3)).alloc (.cells #[.int .i64 0, .int .i64 1, .int .i64 2] 3)
theorem aw45 (w1 : World) (v u : Value) (h : Sl 3 elOtc w1 (· < w1.heap.size) v exO1d) (hu : Sl 3 elOtc w1 (· < w1.heap.size) u exO2d) : Below w1.heap.size w1 (awW5 w1 v u) ∧ ChAt (awW5 w1 v u) (· < (awW5 w1 v u).heap.size) (.slice (some ⟨w1.heap.size, 0, none⟩) 3 3) (.slice (some ⟨w1.heap.size + 1, 0, none⟩) 1 1) (.slice (some ⟨w1.heap.size + 1 + 1 + 1, 0, none⟩) 1 1) (.slice (some ⟨w1.heap.size + 1 + 1 + 1 + 1, 0, none⟩) 3 3) ch45 := by
  unfold awW5
  have s1 := bats_lit3 w1 v u exO1d exO2d [65] [66] [67] h hu (by decide) (by decide) (by decide)
  obtain ⟨W1, hW1⟩ : ∃ W, W = w1.alloc (.cells #[.string (S [65]), v, .string (S [66]), u, .string (S [67]), u] 77) := ⟨_, rfl⟩
  have z1 : W1.heap.size = w1.heap.size + 1 := by rw [hW1]; simp
  have b1 : Below w1.heap.size w1 W1 := by rw [hW1]; exact Below.alloc (Below.refl _ _) (Nat.le_refl _) _
  rw [← hW1] at s1 ⊢
  have s2 := bows_lit W1 [88] 0 (by decide)
  rw [z1] at s2
  obtain ⟨W2, hW2⟩ : ∃ W, W = W1.alloc (.cells #[.string (S [88]), .int .i64 0] 90) := ⟨_, rfl⟩
  have z2 : W2.heap.size = w1.heap.size + 1 + 1 := by rw [hW2]; simp [z1]
  have b2 : Below W1.heap.size W1 W2 := by rw [hW2]; exact Below.alloc (Below.refl _ _) (Nat.le_refl _) _
  rw [← hW2] at s2 ⊢
  obtain ⟨W3, hW3⟩ : ∃ W, W = W2.alloc (.cells #[.slice (some ⟨w1.heap.size, 0, none⟩) 3 3, .slice (some ⟨w1.heap.size + 1, 0, none⟩) 1 1] 25) := ⟨_, rfl⟩
  have z3 : W3.heap.size = w1.heap.size + 1 + 1 + 1 := by rw [hW3]; simp [z2]
  have b3 : Below W2.heap.size W2 W3 := by rw [hW3]; exact Below.alloc (Below.refl _ _) (Nat.le_refl _) _
  rw [← hW3]
  have s4 := ints_one W3 0 3
  rw [z3] at s4
  obtain ⟨W4, hW4⟩ : ∃ W, W = W3.alloc (.cells #[.int .i64 0] 3) := ⟨_, rfl⟩
  have z4 : W4.heap.size = w1.heap.size + 1 + 1 + 1 + 1 := by rw [hW4]; simp [z3]
  have b4 : Below W3.heap.size W3 W4 := by rw [hW4]; exact Below.alloc (Below.refl _ _) (Nat.le_refl _) _
  rw [← hW4] at s4 ⊢
  have s5 := ints_three W4 0 1 2 3
  rw [z4] at s5
  obtain ⟨W5, hW5⟩ : ∃ W, W = W4.alloc (.cells #[.int .i64 0, .int .i64 1, .int .i64 2] 3) := ⟨_, rfl⟩
  have b5 : Below W4.heap.size W4 W5 := by rw [hW5]; exact Below.alloc (Below.refl _ _) (Nat.le_refl _) _
  rw [← hW5] at s5 ⊢
  have c4 := b5
  have c3 := b4.trans (c4.mono b4.size)
  have c2 := b3.trans (c3.mono b3.size)
  have c1 := b2.trans (c2.mono b2.size)
  exact ⟨b1.trans (c1.mono b1.size), ⟨⟨Sl.up elBat_good s1 c1 c1.size (n := 0), Sl.up elBow_good s2 c2 c2.size (n := 0)⟩, Sl.up elInt_good s4 c4 c4.size (n := 0), s5⟩⟩
set_option maxRecDepth 100000 in
set_option maxHeartbeats 2000000 in
theorem law45_awake (w : World) (hg : GlobN w) : Calls Tryz.prog 19 #[] w fun e w' => e = .returned (.bool true) ∧ Below w.heap.size w w' := by
  have k1 : Calls Tryz.prog 39 #[.string ⟨#[48, 58, 56, 32, 52, 58, 56]⟩] w fun e W' => ∃ A c, e = .returned (.tuple #[.slice A 2 c, .int .i64 0]) ∧ Sl 3 elOtc W' (· < W'.heap.size) (.slice A 2 c) exO1d ∧ Below w.heap.size w W' := by
    refine (ch_Parse (S exO1) w hg (by decide)).mono ?_
    rintro e W' ⟨v, rfl, hs, hb⟩
    rw [S_data, exO1_parse] at hs ⊢
    obtain ⟨A, c, rfl, _⟩ := hs.shape
    exact ⟨A, c, rfl, hs.keep elOtc_good (Same.refl _ _) fun _ h => h.2, hb⟩
  have k2 : ∀ W, Below w.heap.size w W → Calls Tryz.prog 39 #[.string ⟨#[48, 58, 49, 54]⟩] W fun e W' => ∃ A c, e = .returned (.tuple #[.slice A 1 c, .int .i64 0]) ∧ Sl 3 elOtc W' (· < W'.heap.size) (.slice A 1 c) exO2d ∧ Below W.heap.size W W' := fun W hW => by
    refine (ch_Parse (S exO2) W (hg.below hW) (by decide)).mono ?_
    rintro e W' ⟨v, rfl, hs, hb⟩
    rw [S_data, exO2_parse] at hs ⊢
    obtain ⟨A, c, rfl, _⟩ := hs.shape
    exact ⟨A, c, rfl, hs.keep elOtc_good (Same.refl _ _) fun _ h => h.2, hb⟩
  have k3 : ∀ (w1 : World) (v u : Value), Sl 3 elOtc w1 (· < w1.heap.size) v exO1d → Sl 3 elOtc w1 (· < w1.heap.size) u exO2d → Calls Tryz.prog 33 #[.agg #[.slice (some ⟨w1.heap.size, 0, none⟩) 3 3, .slice (some ⟨w1.heap.size + 1, 0, none⟩) 1 1, .slice (some ⟨w1.heap.size + 1 + 1 + 1, 0, none⟩) 1 1, .int .i64 6, .int .i64 0, .int .i64 4, .slice (some ⟨w1.heap.size + 1 + 1 + 1 + 1, 0, none⟩) 3 3]] (awW5 w1 v u) fun e W' => e = .returned (.tuple #[.agg #[.int .i64 0, .int .i64 1], .int .i64 8, .int .i64 0]) ∧ Below w1.heap.size w1 W' := fun w1 v u h1 h2 => by
    have h3 := aw45 w1 v u h1 h2
    have := or_Best ch45 _ _ _ _ _ h3.2
    rw [ch45_best] at this
    refine this.mono ?_
    rintro e W' ⟨rfl, hb⟩
    exact ⟨rfl, h3.1.trans (hb.mono h3.1.size)⟩
  have K1 := Lib.hid k1
  have K2 := Lib.hid k2
  have K3 := Lib.hid k3
  have tok0 : True := trivial
  clear k1 k2 k3 hg
  go_enter Tryz.func19, Tryz.ntmps19
  go_wp2_with (first
    | (clear tok0; go_at_call 39; ((with_reducible refine K1.out.mono ?_); rintro e w1 ⟨A1, c1, rfl, hs1, hb1⟩; have HS1 := Lib.hid hs1; have HB1 := Lib.hid hb1; clear hs1 hb1; have tok1 : True := trivial))
    | (clear tok1; go_at_call 39; ((with_reducible refine (K2.out _ HB1.out).mono ?_); rintro e w2 ⟨A2, c2, rfl, hs2, hb2⟩; have HS2 := Lib.hid hs2; have HS1' := Lib.hid (HS1.out.keep (G := (· < w2.heap.size)) elOtc_good (Same.of_below hb2) fun _ h => Nat.lt_of_lt_of_le h hb2.size); have HB2 := Lib.hid (HB1.out.trans (hb2.mono HB1.out.size)); clear hs2 hb2; have tok2 : True := trivial))
    | (clear tok2; go_at_call 33; refine (K3.out w2 _ _ HS1'.out HS2.out).mono ?_; rintro e w3 ⟨rfl, hb3⟩; have HB3 := Lib.hid (HB2.out.trans (hb3.mono HB2.out.size)); clear hb3; have tok3 : True := trivial))
  go_ret
  exact ⟨rfl, HB3.out.alloc HB3.out.size _⟩
end Go.Proofs.YtfnfbojaiikigaaGreatDoor

namespace Go.Proofs.YtfnfbojaiikigaaGreatDoor
open Go.RowKit

def bigT (c : Chs) : Bool := decide (30 < c.mdl.bats.length) || decide (30 < c.mdl.bows.length) || decide (4 < c.ord.length) || decide (4 < c.bows.length) || decide (16 < c.need)
def smallT (c : Chs) : Bool := !bigT c && c.mdl.bats.all (fun b => decide (b.dist.length ≤ 100))
theorem bigT_ways (c : Chs) : (bigT c = true ∧ (30 < (c.mdl.bats.length : Int) ∨ (¬ 30 < (c.mdl.bats.length : Int) ∧ 30 < (c.mdl.bows.length : Int)) ∨ (¬ 30 < (c.mdl.bats.length : Int) ∧ ¬ 30 < (c.mdl.bows.length : Int) ∧ 4 < (c.ord.length : Int)) ∨ (¬ 30 < (c.mdl.bats.length : Int) ∧ ¬ 30 < (c.mdl.bows.length : Int) ∧ ¬ 4 < (c.ord.length : Int) ∧ 4 < (c.bows.length : Int)) ∨ (¬ 30 < (c.mdl.bats.length : Int) ∧ ¬ 30 < (c.mdl.bows.length : Int) ∧ ¬ 4 < (c.ord.length : Int) ∧ ¬ 4 < (c.bows.length : Int) ∧ 16 < c.need))) ∨
    (bigT c = false ∧ ¬ 30 < (c.mdl.bats.length : Int) ∧ ¬ 30 < (c.mdl.bows.length : Int) ∧ ¬ 4 < (c.ord.length : Int) ∧ ¬ 4 < (c.bows.length : Int) ∧ ¬ 16 < c.need) := by
  cases h : bigT c
  · refine .inr ⟨rfl, ?_⟩
    unfold bigT at h
    simp only [Bool.or_eq_false_iff, decide_eq_false_iff_not] at h
    omega
  · refine .inl ⟨rfl, ?_⟩
    unfold bigT at h
    simp only [Bool.or_eq_true, decide_eq_true_eq] at h
    omega
set_option maxRecDepth 100000 in
set_option maxHeartbeats 2000000 in
theorem law45_Small (c : Chs) (bv wv pv ov : Value) (w : World) (h : ChAt w (· < w.heap.size) bv wv pv ov c) :
    Calls Tryz.prog 25 #[chV c bv wv pv ov] w fun e w' => e = .returned (.bool (smallT c)) ∧ Below w.heap.size w w' := by
  unfold chV
  obtain ⟨z, hz⟩ : ∃ z, z = smallT c := ⟨_, rfl⟩
  rw [← hz]
  unfold smallT at hz
  obtain ⟨A, ca, rfl, hc1, hc2⟩ := h.mdl.bat.shape
  obtain ⟨A1, ca1, rfl, hc3, hc4⟩ := h.mdl.bow.shape
  obtain ⟨A2, ca2, rfl, hc5, hc6⟩ := h.bow.shape
  obtain ⟨A3, ca3, rfl, hc7, hc8⟩ := h.ord.shape
  have HX := Lib.hid (OTB.new w c (.slice A c.mdl.bats.length ca) (.slice A1 c.mdl.bows.length ca1) (.slice A2 c.bows.length ca2) (.slice A3 c.ord.length ca3))
  have HL := Lib.hid h.mdl.bat
  have hw := bigT_ways c
  clear h
  rcases hw with ⟨hb, hw⟩ | ⟨hb, g1, g2, g3, g4, g5⟩
  · rw [hb, Bool.not_true, Bool.false_and] at hz
    have HZ := Lib.hid hz
    clear hz hb HL
    rcases hw with g1 | ⟨g1, g2⟩ | ⟨g1, g2, g3⟩ | ⟨g1, g2, g3, g4⟩ | ⟨g1, g2, g3, g4, g5⟩
    all_goals
      go_enter Tryz.func25, Tryz.ntmps25
      go_wp2
      go_ret
      exact ⟨ret_b HZ.out.symm, HX.out.bel⟩
  · rw [hb, Bool.not_false, Bool.true_and] at hz
    have HZ : Hid (z = (c.mdl.bats.drop 0).all (fun b => decide (b.dist.length ≤ 100))) := hz
    clear hz hb
    go_enter Tryz.func25, Tryz.ntmps25
    go_wp2
    go_loopw [38] (fun i wr => ∃ k : Nat, k ≤ c.mdl.bats.length ∧ i = .int .i64 k ∧ Hid (OTB w wr w.heap.size c (.slice A c.mdl.bats.length ca) (.slice A1 c.mdl.bows.length ca1) (.slice A2 c.bows.length ca2) (.slice A3 c.ord.length ca3)) ∧ Hid (z = (c.mdl.bats.drop k).all (fun b => decide (b.dist.length ≤ 100)))) (fun i _ => c.mdl.bats.length - (intOf i).toNat)
    case atStart => exact ⟨0, Nat.zero_le _, rfl, HX, HZ⟩
    case round =>
      clear HX HZ
      obtain ⟨k, hk, rfl, HW, hzz⟩ := hrel
      by_cases hlt : k < c.mdl.bats.length
      · obtain ⟨b0, o, v, rfl, hbl, yy0, yy1, hv, hpl⟩ := bat_at HL.out hlt
        have y0 := (HW.out.bel.cell (p := ⟨b0, o + k * 2, none⟩) hbl).trans yy0
        have y1 := (HW.out.bel.cell (p := ⟨b0, o + k * 2 + 1, none⟩) hbl).trans yy1
        have hz2 := hzz.out
        rw [small44_drop hlt] at hz2
        obtain ⟨A9, c9, hve, _, _⟩ := hv.shape
        obtain ⟨p, hp⟩ : ∃ b, b = c.mdl.bats[k] := ⟨_, rfl⟩
        rw [← hp] at y0 hz2 hve
        obtain ⟨n2, hn2⟩ : ∃ n, n = p.dist.length := ⟨_, rfl⟩
        obtain ⟨pn, hpn⟩ : ∃ n, n = p.name := ⟨_, rfl⟩
        rw [← hn2] at hve hz2
        rw [← hpn] at y0
        subst hve
        have HA := Lib.hid (HW.out.alloc (.cells #[.string (S pn), .slice A9 n2 c9] 77))
        clear hzz hp hn2 hpn yy0 yy1 hv hpl
        by_cases hs : n2 ≤ 100
        · rw [decide_eq_true hs, Bool.true_and] at hz2
          have HZZ := Lib.hid hz2
          have g9 : ¬ (100 : Int) < (n2 : Int) := by omega
          clear hz2 hs
          go_wp2
          go_roundw
          case rel => exact ⟨k + 1, by omega, by go_num, HA, HZZ⟩
          case measure => simp [intOf]; omega
        · rw [decide_eq_false hs, Bool.false_and] at hz2
          have HZZ := Lib.hid hz2
          have g9 : (100 : Int) < (n2 : Int) := by omega
          clear hz2 hs
          go_wp2
          go_ret
          exact ⟨ret_b HZZ.out.symm, HA.out.bel⟩
      · obtain rfl : k = c.mdl.bats.length := by omega
        have hz2 := hzz.out
        rw [List.drop_of_length_le (Nat.le_refl _), List.all_nil] at hz2
        have HZZ := Lib.hid hz2
        clear hz2 hzz
        go_wp2
        go_ret
        exact ⟨ret_b HZZ.out.symm, HW.out.bel⟩
end Go.Proofs.YtfnfbojaiikigaaGreatDoor

namespace Go.Proofs.YtfnfbojaiikigaaGreatDoor
open Go.RowKit

def tinyOT (c : Chs) : Chs := { c with ord := c.ord.take 4, bows := c.bows.take 4, need := 0 }
def tinyB (c : Chs) : Bool := smallT (tinyOT c) && decide ((c.ord.length : Int) ≤ 100) && decide ((c.bows.length : Int) ≤ 100)
theorem take_min (l : List Int) (n k : Nat) (h : n = (l.take k).length) : l.take n = l.take k := by
  rw [h, List.length_take]
  rcases Nat.le_total k l.length with h6 | h6
  · rw [Nat.min_eq_left h6]
  · rw [Nat.min_eq_right h6, List.take_of_length_le (Nat.le_refl _), List.take_of_length_le h6]
theorem tiny_bel (w : World) (o : Obj) (n i j k : Nat) (x y z : Value) : Below w.heap.size w (((((w.alloc o).drewN n).setCell ⟨w.heap.size, i, none⟩ x).setCell ⟨w.heap.size, j, none⟩ y).setCell ⟨w.heap.size, k, none⟩ z) :=
  Below.setCell (Below.setCell (Below.setCell (Below.drewN_ (Below.alloc (Below.refl _ _) (Nat.le_refl _) o) n) (Nat.le_refl _) x) (Nat.le_refl _) y) (Nat.le_refl _) z
theorem bel_back {w W W' : World} (h : Below w.heap.size w W) (hb : Below W.heap.size W W') : Below w.heap.size w W' := h.trans (hb.mono h.size)
set_option maxRecDepth 100000 in
set_option maxHeartbeats 1500000 in
theorem law45_tiny (c : Chs) (bv wv pv ov : Value) (w : World) (h : ChAt w (· < w.heap.size) bv wv pv ov c) :
    Calls Tryz.prog 20 #[chV c bv wv pv ov] w fun e w' => e = .returned (.bool (tinyB c)) ∧ Below w.heap.size w w' := by
  unfold chV
  obtain ⟨A, ca, rfl, hc1, hc2⟩ := h.mdl.bat.shape
  obtain ⟨A1, ca1, rfl, hc3, hc4⟩ := h.mdl.bow.shape
  obtain ⟨A2, ca2, rfl, hc5, hc6⟩ := h.bow.shape
  obtain ⟨A3, ca3, rfl, hc7, hc8⟩ := h.ord.shape
  obtain ⟨n1, hn1⟩ : ∃ n, n = (c.ord.take 4).length := ⟨_, rfl⟩
  obtain ⟨n2, hn2⟩ : ∃ n, n = (c.bows.take 4).length := ⟨_, rfl⟩
  have e1 : min (c.ord.length : Int) 4 = (n1 : Int) := by rw [hn1, List.length_take]; omega
  have e2 : min (c.bows.length : Int) 4 = (n2 : Int) := by rw [hn2, List.length_take]; omega
  have l1 : n1 ≤ ca3 := by rw [hn1, List.length_take]; omega
  have l2 : n2 ≤ ca2 := by rw [hn2, List.length_take]; omega
  have k2 : ∀ W, Below w.heap.size w W → Calls Tryz.prog 25 #[.agg #[.slice A c.mdl.bats.length ca, .slice A1 c.mdl.bows.length ca1, .slice A2 n2 ca2, .int .i64 c.over, .int .i64 c.done, .int .i64 0, .slice A3 n1 ca3]] W fun e W' => e = .returned (.bool (smallT (tinyOT c))) ∧ Below W.heap.size W W' := fun W hW => by
    have hm := h.below hW
    have m1 : n1 ≤ c.ord.length := by rw [hn1, List.length_take]; omega
    have m2 : n2 ≤ c.bows.length := by rw [hn2, List.length_take]; omega
    have t1 := hm.ord.take (k := n1) m1
    have t2 := hm.bow.take (k := n2) m2
    rw [take_min _ _ _ hn1] at t1
    rw [take_min _ _ _ hn2] at t2
    have hk := law45_Small (tinyOT c) (.slice A c.mdl.bats.length ca) (.slice A1 c.mdl.bows.length ca1) (.slice A2 n2 ca2) (.slice A3 n1 ca3) W ⟨hm.mdl, t2, t1⟩
    exact hk
  have HX := Lib.hid (OTB.new w c (.slice A c.mdl.bats.length ca) (.slice A1 c.mdl.bows.length ca1) (.slice A2 c.bows.length ca2) (.slice A3 c.ord.length ca3))
  have K2 := Lib.hid k2
  unfold tinyB
  obtain ⟨z, hz⟩ : ∃ z, z = smallT (tinyOT c) := ⟨_, rfl⟩
  rw [← hz] at K2 ⊢
  have HB0 := Lib.hid (Below.alloc (Below.refl w.heap.size w) (Nat.le_refl _) (.cells #[.slice A c.mdl.bats.length ca, .slice A1 c.mdl.bows.length ca1, .slice A2 c.bows.length ca2, .int .i64 c.over, .int .i64 c.done, .int .i64 c.need, .slice A3 c.ord.length ca3] 50))
  clear k2 h hn1 hn2 hz
  have HT := Lib.hid (fun (o : Obj) (n i j k : Nat) (x y z : Value) => tiny_bel w o n i j k x y z)
  cases z
  · simp only [Bool.false_and]
    go_enter Tryz.func20, Tryz.ntmps20
    go_wp2
    go_quiet (fail)
    go_wp2
    go_region
    all_goals go_wp2_with (go_at_call 25; refine (K2.out _ (HT.out _ _ _ _ _ _ _ _)).mono ?_; rintro e w2 ⟨rfl, hb⟩; have HB2 := Lib.hid (bel_back (HT.out _ _ _ _ _ _ _ _) hb); clear hb)
    all_goals go_ret
    all_goals exact ⟨by first | rfl | exact ret_b (by simp [*]), HB2.out⟩
  by_cases g1 : (c.ord.length : Int) ≤ 100
  case neg =>
    rw [show (true && decide ((c.ord.length : Int) ≤ 100) && decide ((c.bows.length : Int) ≤ 100)) = false by simp [g1]]
    go_enter Tryz.func20, Tryz.ntmps20
    go_wp2
    go_quiet (fail)
    go_wp2
    go_region
    all_goals go_wp2_with (go_at_call 25; refine (K2.out _ (HT.out _ _ _ _ _ _ _ _)).mono ?_; rintro e w2 ⟨rfl, hb⟩; have HB2 := Lib.hid (bel_back (HT.out _ _ _ _ _ _ _ _) hb); clear hb)
    all_goals go_ret
    all_goals exact ⟨by first | rfl | exact ret_b (by simp [*]), HB2.out⟩
  by_cases g2 : (c.bows.length : Int) ≤ 100
  case neg =>
    rw [show (true && decide ((c.ord.length : Int) ≤ 100) && decide ((c.bows.length : Int) ≤ 100)) = false by simp [g2]]
    go_enter Tryz.func20, Tryz.ntmps20
    go_wp2
    go_quiet (fail)
    go_wp2
    go_region
    all_goals go_wp2_with (go_at_call 25; refine (K2.out _ (HT.out _ _ _ _ _ _ _ _)).mono ?_; rintro e w2 ⟨rfl, hb⟩; have HB2 := Lib.hid (bel_back (HT.out _ _ _ _ _ _ _ _) hb); clear hb)
    all_goals go_ret
    all_goals exact ⟨by first | rfl | exact ret_b (by simp [*]), HB2.out⟩
  rw [show (true && decide ((c.ord.length : Int) ≤ 100) && decide ((c.bows.length : Int) ≤ 100)) = true by simp [g1, g2]]
  go_enter Tryz.func20, Tryz.ntmps20
  go_wp2
  go_quiet (fail)
  go_wp2
  go_region
  all_goals go_wp2_with (go_at_call 25; refine (K2.out _ (HT.out _ _ _ _ _ _ _ _)).mono ?_; rintro e w2 ⟨rfl, hb⟩; have HB2 := Lib.hid (bel_back (HT.out _ _ _ _ _ _ _ _) hb); clear hb)
  all_goals go_ret
  all_goals exact ⟨by first | rfl | exact ret_b (by simp [*]), HB2.out⟩
/-! A region that draws its order, some of whose operations are not wanted. -/
structure FreeG (P : Program) (ops : Array Oper) (V : Tab) (G : World → Prop) (needs : Nat → List Nat) (init : List Nat) (N : Nat) : Prop where
  back : ∀ (i : Nat) (o : Oper), ops[i]? = some o → ∀ e ∈ o.after, e.on < i
  dst : ∀ (i : Nat) (o : Oper), ops[i]? = some o → ∃ d, o.dst = some d ∧ d < N
  need : ∀ (i : Nat) (o : Oper), ops[i]? = some o → ∀ d ∈ needs i, d ∈ init ∨ ∃ e ∈ o.after, Region.binds .any e = true ∧ ∃ p, ops[e.on]? = some p ∧ p.dst = some d
  sV : ∀ d w w' v, V d w v → Below w.heap.size w w' → V d w' v
  sG : ∀ w w', G w → Below w.heap.size w w' → G w'
  step : ∀ (i : Nat) (o : Oper), ops[i]? = some o → ∀ a w, G w → (∀ x ∈ needs i, Holds V a w x) → (Region.wanted o (yielded ops a.tmps) = true ∧ Meets P V o a w) ∨ (Region.wanted o (yielded ops a.tmps) = false ∧ ∀ d, o.dst = some d → V d w undef)
section
variable {P : Program} {ops : Array Oper} {V : Tab} {G : World → Prop} {needs : Nat → List Nat} {init : List Nat} {N : Nat} {Q : Exit → Act → World → Prop} {a0 : Act} {w0 : World}
theorem all_listedG (hback : ∀ (i : Nat) (o : Oper), ops[i]? = some o → ∀ e ∈ o.after, e.on < i) {listed : Array Bool} (hr : Region.ready .any ops listed = []) (hsz : listed.size = ops.size) : ∀ i, i < ops.size → listed.getD i false = true := by
  intro i
  induction i using Nat.strongRecOn with
  | ind i ih =>
    intro hi
    cases hl : listed.getD i false with
    | true => rfl
    | false =>
      exfalso
      have h2 : listed.getD i true = false := by
        have hlt : i < listed.size := by omega
        simp [hlt] at hl ⊢; exact hl
      have ho : ops[i]? = some ops[i] := Array.getElem?_eq_getElem hi
      have : i ∈ Region.ready .any ops listed := mem_ready.2 ⟨h2, _, ho, fun e he _ => ih e.on (hback i _ ho e he) (by have := hback i _ ho e he; omega)⟩
      rw [hr] at this
      cases this
theorem wpAny_freeG (hF : FreeG P ops V G needs init N) (hN : N ≤ a0.tmps.size) (fin : ∀ a w, RIn ops V G init a0 w0 (Array.replicate ops.size true) a w → Q .normal a w) :
    ∀ (fuel : Nat) (listed : Array Bool) (a : Act) (w : World), listed.size = ops.size → listed.toList.count false ≤ fuel → RIn ops V G init a0 w0 listed a w → wpAny P .any ops Q fuel listed a w := by
  have hfin : ∀ (listed : Array Bool) (a : Act) (w : World), listed.size = ops.size → Region.ready .any ops listed = [] → RIn ops V G init a0 w0 listed a w → Q .normal a w := by
    intro listed a w hsz hr h
    refine fin a w ⟨h.size, h.dfr, h.g, h.below, h.ini, fun i o d ho _ hd => h.done i o d ho (all_listedG hF.back hr hsz i (Array.getElem?_eq_some_iff.1 ho).1) hd, h.keep⟩
  intro fuel
  induction fuel with
  | zero =>
    intro listed a w hsz hc h
    have hr : Region.ready .any ops listed = [] := by
      cases hr : Region.ready .any ops listed with
      | nil => rfl
      | cons j t =>
        exfalso
        have hj : j ∈ Region.ready .any ops listed := by rw [hr]; simp
        obtain ⟨h1, o, ho, _⟩ := mem_ready.1 hj
        have hlt : j < listed.size := by have := (Array.getElem?_eq_some_iff.1 ho).1; omega
        have h2 : listed[j]? = some false := by
          rw [Array.getElem?_eq_getElem hlt]; simp [hlt] at h1; rw [h1]
        have : false ∈ listed.toList := Array.mem_toList_iff.2 (Array.mem_of_getElem? h2)
        have := List.count_pos_iff.2 this
        omega
    exact ⟨hr, hfin listed a w hsz hr h⟩
  | succ fuel ih =>
    intro listed a w hsz hc h
    refine ⟨fun hr => hfin listed a w hsz hr h, fun i hi => ?_⟩
    obtain ⟨h1, o, ho, hall⟩ := mem_ready.1 hi
    obtain ⟨d, hd, hdN⟩ := hF.dst i o ho
    have hlt : i < listed.size := by have := (Array.getElem?_eq_some_iff.1 ho).1; omega
    have h2 : listed[i]? = some false := by
      rw [Array.getElem?_eq_getElem hlt]; simp [hlt] at h1; rw [h1]
    have hcnt := count_set listed.toList i (by rw [Array.getElem?_toList]; exact h2)
    have hneeds : ∀ x ∈ needs i, Holds V a w x := fun x hx => by
      rcases hF.need i o ho x hx with hx | ⟨e, he, hbi, p, hp, hpd⟩
      · exact h.ini x hx
      · exact h.done e.on p x hp (hall e he hbi) hpd
    have go : ∀ v w', Below w.heap.size w w' → V d w' v → wpAny P .any ops Q fuel (listed.setIfInBounds i true) (a.put o.dst v) w' := fun v w' hb hv => by
      rw [hd]
      refine ih _ _ _ (by simpa using hsz) (by rw [Array.toList_setIfInBounds]; omega) ⟨by unfold Act.put; simpa using h.size, h.dfr, hF.sG _ _ h.g hb, h.below.trans (hb.mono h.below.size), fun x hx => (h.ini x hx).put hF.sV hb hv, fun j p x hj hl hx => ?_, fun k hk => ?_⟩
      · by_cases hji : j = i
        · subst hji
          rw [ho] at hj; obtain rfl := Option.some.inj hj
          have hdx : d = x := Option.some.inj (hd.symm.trans hx)
          subst hdx
          refine ⟨v, ?_, hv⟩
          rw [put_get, if_pos ⟨rfl, by rw [h.size]; exact Nat.lt_of_lt_of_le hdN hN⟩]
        · have hl' : listed.getD j false = true := by rw [getD_set_ne false (Ne.symm hji)] at hl; exact hl
          exact (h.done j p x hj hl' hx).put hF.sV hb hv
      · rw [put_get, if_neg (fun hc => hk i o ho (by rw [hd, hc.1]))]
        exact h.keep k hk
    unfold wpOp
    rw [ho]
    dsimp only
    rcases hF.step i o ho a w h.g hneeds with ⟨hw, hm⟩ | ⟨hw, hm⟩
    · rw [hw, if_pos rfl]
      exact .inl (hm d hd _ _ go)
    · rw [hw, if_neg (by simp)]
      exact go undef w (Below.refl _ _) (hm d hd)
theorem wp_region_freeG {ops' : Array Oper} {id : Nat} (he : ops = ops') (hm : P.follows .mixedOrders = true) (hF : FreeG P ops' V G needs init N) (hN : N ≤ a0.tmps.size) (hG : G w0) (hini : ∀ d ∈ init, Holds V a0 w0 d)
    (fin : ∀ a w, RIn ops' V G init a0 w0 (Array.replicate ops'.size true) a w → Q .normal a w) : (Code.region id ops true).wp P Q a0 w0 := by
  subst he
  have hb : Below w0.heap.size w0 { w0 with drawn := w0.drawn + 1 } := Below.drew (Below.refl _ _)
  refine wp_region_any hm (wpAny_freeG hF hN fin _ _ _ _ (by simp) (by simp) ⟨rfl, rfl, hF.sG _ _ hG hb, hb, fun d hd => ?_, fun i o d ho hl => ?_, fun _ _ => rfl⟩)
  · obtain ⟨v, h1, h2⟩ := hini d hd
    exact ⟨v, h1, hF.sV _ _ _ _ h2 hb⟩
  · exfalso
    have hlt := (Array.getElem?_eq_some_iff.1 ho).1
    simp [hlt] at hl
end
/-- The operations of a region of a function's text. -/
def findR6 (n : Nat) : Code → Option (Array Oper)
  | .region id ops _ => if id = n then some ops else none
  | .seq a b => match findR6 n a with
    | some x => some x
    | none => findR6 n b
  | .cond _ a b => match findR6 n a with
    | some x => some x
    | none => findR6 n b
  | .block _ c => findR6 n c
  | .loop c => findR6 n c
  | .scope c => findR6 n c
  | _ => none
def backG (ops : Array Oper) : Bool := (List.range ops.size).all fun i => match ops[i]? with
  | some o => o.after.toList.all fun e => decide (e.on < i)
  | none => true
def dstG (ops : Array Oper) (N : Nat) : Bool := (List.range ops.size).all fun i => match ops[i]? with
  | some o => (match o.dst with | some d => decide (d < N) | none => false)
  | none => true
def needG (ops : Array Oper) (needs : List (List Nat)) (init : List Nat) : Bool := (List.range ops.size).all fun i => match ops[i]? with
  | some o => (needs.getD i []).all fun d => init.contains d || o.after.toList.any fun e => Region.binds .any e && (match ops[e.on]? with | some p => p.dst == some d | none => false)
  | none => true
theorem backG_of {ops : Array Oper} (h : backG ops = true) : ∀ (i : Nat) (o : Oper), ops[i]? = some o → ∀ e ∈ o.after, e.on < i := by
  intro i o ho e he
  have := List.all_eq_true.1 h i (List.mem_range.2 (Array.getElem?_eq_some_iff.1 ho).1)
  rw [ho] at this
  exact of_decide_eq_true (List.all_eq_true.1 this e (Array.mem_toList_iff.2 he))
theorem dstG_of {ops : Array Oper} {N : Nat} (h : dstG ops N = true) : ∀ (i : Nat) (o : Oper), ops[i]? = some o → ∃ d, o.dst = some d ∧ d < N := by
  intro i o ho
  have h2 := List.all_eq_true.1 h i (List.mem_range.2 (Array.getElem?_eq_some_iff.1 ho).1)
  rw [ho] at h2
  dsimp only at h2
  cases hd : o.dst with
  | none => rw [hd] at h2; cases h2
  | some d => rw [hd] at h2; exact ⟨d, rfl, of_decide_eq_true h2⟩
theorem needG_of {ops : Array Oper} {needs : List (List Nat)} {init : List Nat} (h : needG ops needs init = true) : ∀ (i : Nat) (o : Oper), ops[i]? = some o → ∀ d ∈ needs.getD i [], d ∈ init ∨ ∃ e ∈ o.after, Region.binds .any e = true ∧ ∃ p, ops[e.on]? = some p ∧ p.dst = some d := by
  intro i o ho d hd
  have := List.all_eq_true.1 h i (List.mem_range.2 (Array.getElem?_eq_some_iff.1 ho).1)
  rw [ho] at this
  have := List.all_eq_true.1 this d hd
  rcases Bool.or_eq_true_iff.1 this with h1 | h1
  · exact .inl (by simpa using h1)
  · obtain ⟨e, he, h2⟩ := List.any_eq_true.1 h1
    rw [Bool.and_eq_true] at h2
    refine .inr ⟨e, Array.mem_toList_iff.1 he, h2.1, ?_⟩
    cases hp : ops[e.on]? with
    | none => rw [hp] at h2; cases h2.2
    | some p => rw [hp] at h2; exact ⟨p, rfl, by simpa using h2.2⟩
theorem opG_of {ops : Array Oper} {i : Nat} {o : Oper} {x : Op} {d : Option Tmp} (h : (ops[i]?).map (fun o => (o.op, o.dst)) = some (x, d)) (ho : ops[i]? = some o) : o.op = x ∧ o.dst = d := by
  rw [ho] at h
  simpa using h
/-- Slots with one value each. -/
def boolOf : Value → Option Bool
  | .bool b => some b
  | _ => none
def skipG (ops : Array Oper) (needs : List (List Nat)) (cls : Nat → Option Bool) (i : Nat) : Bool := match ops[i]? with
  | some o => match o.guard with
    | some (j, b) => match (ops[j]?).bind (·.dst) with
      | some d => (needs.getD i []).contains d && !(cls d == some b)
      | none => false
    | none => false
  | none => true
theorem skip_of {ops : Array Oper} {needs : List (List Nat)} {tab : Nat → Value} {cls : Nat → Option Bool} (hc : ∀ d, boolOf (tab d) = cls d) {i : Nat} {o : Oper} (h : skipG ops needs cls i = true) (ho : ops[i]? = some o) {a : Act} {w : World} (hn : ∀ x ∈ needs.getD i [], Holds (fun d _ v => v = tab d) a w x) :
    Region.wanted o (yielded ops a.tmps) = false := by
  unfold skipG at h
  rw [ho] at h
  dsimp only at h
  unfold Region.wanted
  cases hg : o.guard with
  | none => rw [hg] at h; cases h
  | some jb =>
    obtain ⟨j, b⟩ := jb
    rw [hg] at h
    dsimp only at h ⊢
    cases hd : (ops[j]?).bind (·.dst) with
    | none => rw [hd] at h; cases h
    | some d =>
      rw [hd] at h
      dsimp only at h
      rw [Bool.and_eq_true] at h
      obtain ⟨v, h1, h2⟩ := hn d (by simpa using h.1)
      subst h2
      have hk := hc d
      have h3 : yielded ops a.tmps j = cls d := by
        unfold yielded
        rw [hd]
        show (match (some d).bind (a.tmps[·]?) with | some (.bool b) => some b | _ => none) = cls d
        rw [Option.bind_some, h1, ← hk]
        cases tab d <;> rfl
      rw [h3]
      have := h.2
      simpa using this
theorem free_not {ops : Array Oper} {o : Oper} (h : o.guard = none) {t : Array Value} : Region.wanted o (yielded ops t) = true := by unfold Region.wanted; rw [h]
theorem RIn.atG {ops : Array Oper} {V : Tab} {G : World → Prop} {init : List Nat} {a0 a : Act} {w0 w : World} (h : RIn ops V G init a0 w0 (Array.replicate ops.size true) a w) (i d : Nat) (hd : (ops[i]?).bind (·.dst) = some d) : Holds V a w d := by
  cases ho : ops[i]? with
  | none => rw [ho] at hd; cases hd
  | some o =>
    rw [ho] at hd
    have hlt := (Array.getElem?_eq_some_iff.1 ho).1
    exact h.done i o d ho (by simp [hlt]) hd
theorem listG_cons {α : Type} {n : Nat} {l : List α} (h : l.length = n + 1) : ∃ x t, l = x :: t ∧ t.length = n := by
  cases l with
  | nil => simp at h
  | cons x t => exact ⟨x, t, rfl, by simpa using h⟩
theorem guardG_of {ops : Array Oper} {i : Nat} {o : Oper} (h : (ops[i]?).map (·.guard) = some none) (ho : ops[i]? = some o) : o.guard = none := by
  rw [ho] at h
  simpa using h
/-- The region of the law's last statement. -/
noncomputable def ocOps : Array Oper := ((Tryz.f4.body).bind (findR6 3)).getD #[]
def ocNeeds : List (List Nat) := [[2], [7], [8], [9], [10], [10], [10], [10], [10], [10], [16], [16], [16], [16], [16], [16], [16], [10], [10], [25]]
def ocTab (mv : Value) (g : Nat) (d : Nat) : Value := if d = 2 then .pointer (some ⟨g, 0, none⟩) else if d = 7 then mv else if d = 8 then .bool false else if d = 9 ∨ d = 10 ∨ d = 25 ∨ d = 4 then .bool true else undef
def ocCls (d : Nat) : Option Bool := if d = 2 then none else if d = 7 then none else if d = 8 then some false else if d = 9 ∨ d = 10 ∨ d = 25 ∨ d = 4 then some true else none
theorem oc_cls (cs : Array Value) (g d : Nat) : boolOf (ocTab (.agg cs) g d) = ocCls d := by
  unfold ocTab ocCls
  repeat' split
  all_goals rfl
theorem oc_skip : (List.range 14).all (fun k => skipG ocOps ocNeeds ocCls (k + 4) && decide ((ocOps[k + 4]?).bind (·.dst) = some (k + 11))) = true := by kernel_rfl
theorem oc_undef {mv : Value} {g k : Nat} (h : k < 14) : ocTab mv g (k + 11) = undef := by
  unfold ocTab
  rw [if_neg (by omega), if_neg (by omega), if_neg (by omega), if_neg (by omega)]
theorem oc_size : ocOps.size = 20 := by kernel_rfl
theorem load_tsk {w : World} {g : Nat} {x0 x1 x2 x3 x4 x5 x6 : Value} (h : Blk w g 50 #[x0, x1, x2, x3, x4, x5, x6]) : (Instr.loadAt 50 (.pointer (some ⟨g, 0, none⟩))).run Tryz.prog w = .ok (.agg #[x0, x1, x2, x3, x4, x5, x6]) w := by
  have c0 := h.cell 0
  have c1 := h.cell 1
  have c2 := h.cell 2
  have c3 := h.cell 3
  have c4 := h.cell 4
  have c5 := h.cell 5
  have c6 := h.cell 6
  simp only [List.getElem?_toArray, List.getElem?_cons_zero, List.getElem?_cons_succ] at c0 c1 c2 c3 c4 c5 c6
  simp [go_sem, c0, c1, c2, c3, c4, c5, c6]
set_option maxRecDepth 100000 in
theorem oc_free {w : World} {c : Chs} {bv wv pv ov : Value} {s : Ost} (hk : ∀ W, Below w.heap.size w W → Calls Tryz.prog 20 #[.agg #[bv, wv, pv, .int .i64 c.over, .int .i64 c.done, .int .i64 c.need, ov]] W fun e W' => e = .returned (.bool false) ∧ Below W.heap.size W W') :
    FreeG Tryz.prog ocOps (fun d _ v => v = ocTab (.agg #[bv, wv, pv, .int .i64 c.over, .int .i64 c.done, .int .i64 c.need, ov]) w.heap.size d) (fun W => OSB w W w.heap.size c bv wv pv ov s) (fun i => ocNeeds.getD i []) [2] 26 := by
  refine ⟨backG_of (by kernel_rfl), dstG_of (by kernel_rfl), needG_of (by kernel_rfl), fun d w w' v h _ => h, fun W W' h hb => h.below hb, ?_⟩
  intro i o ho a W hG hn
  have hlt : i < 20 := by rw [← oc_size]; exact (Array.getElem?_eq_some_iff.1 ho).1
  have val : ∀ d v, (∀ x ∈ ocNeeds.getD i [], Holds (fun d _ v => v = ocTab (.agg #[bv, wv, pv, .int .i64 c.over, .int .i64 c.done, .int .i64 c.need, ov]) w.heap.size d) a W x) → ocNeeds.getD i [] = [d] → ocTab (.agg #[bv, wv, pv, .int .i64 c.over, .int .i64 c.done, .int .i64 c.need, ov]) w.heap.size d = v → a.eval (.tmp d) = v := fun d v hn hd hv => by
    obtain ⟨u, h1, h2⟩ := hn d (by rw [hd]; simp)
    subst h2
    rw [← hv]; exact eval_tmp h1
  by_cases hs : 4 ≤ i ∧ i < 18
  · obtain ⟨k, rfl⟩ : ∃ k, i = k + 4 := ⟨i - 4, by omega⟩
    have h1 := List.all_eq_true.1 oc_skip k (List.mem_range.2 (by omega))
    rw [Bool.and_eq_true, decide_eq_true_eq] at h1
    refine .inr ⟨skip_of (oc_cls _ _) h1.1 ho hn, fun d hd => ?_⟩
    have h2 := h1.2
    rw [ho] at h2
    have h3 : o.dst = some (k + 11) := h2
    rw [h3] at hd
    obtain rfl := Option.some.inj hd
    exact (oc_undef (by omega)).symm
  · have hcase : i = 0 ∨ i = 1 ∨ i = 2 ∨ i = 3 ∨ i = 18 ∨ i = 19 := by omega
    rcases hcase with rfl | rfl | rfl | rfl | rfl | rfl
    · obtain ⟨h1, h2⟩ := opG_of (x := .load 50 (.tmp 2)) (d := some 7) (by kernel_rfl) ho
      refine .inl ⟨free_not (guardG_of (by kernel_rfl) ho), meets_load h1 (val 2 _ hn rfl rfl) (load_tsk hG.box) fun d hd => ?_⟩
      rw [h2] at hd; obtain rfl := Option.some.inj hd; rfl
    · obtain ⟨h1, h2⟩ := opG_of (x := .call { callee := .value (.func 20), args := #[.tmp 7], argTypes := #[50] }) (d := some 8) (by kernel_rfl) ho
      refine .inl ⟨free_not (guardG_of (by kernel_rfl) ho), meets_call (args := #[.agg #[bv, wv, pv, .int .i64 c.over, .int .i64 c.done, .int .i64 c.need, ov]]) h1 rfl rfl (by have e7 : a.eval (.tmp 7) = .agg #[bv, wv, pv, .int .i64 c.over, .int .i64 c.done, .int .i64 c.need, ov] := val 7 _ hn rfl rfl; simp [e7]) Tryz.func20 (by kernel_rfl) (by kernel_rfl) fun d hd => ?_⟩
      refine (hk W hG.bel).mono ?_
      rintro e W' ⟨rfl, hb⟩
      rw [h2] at hd; obtain rfl := Option.some.inj hd
      exact ⟨_, rfl, hb, rfl⟩
    · obtain ⟨h1, h2⟩ := opG_of (x := .unOp .not 4 (.tmp 8)) (d := some 9) (by kernel_rfl) ho
      refine .inl ⟨free_not (guardG_of (by kernel_rfl) ho), meets_value (v := .bool true) (by have e8 : a.eval (.tmp 8) = .bool false := val 8 _ hn rfl rfl; unfold execOp; simp only [h1, e8]; simp [go_sem]) fun d hd => ?_⟩
      rw [h2] at hd; obtain rfl := Option.some.inj hd; rfl
    · obtain ⟨h1, h2⟩ := opG_of (x := .move (.tmp 9)) (d := some 10) (by kernel_rfl) ho
      refine .inl ⟨free_not (guardG_of (by kernel_rfl) ho), meets_move (.inl h1) fun d hd => ?_⟩
      rw [h2] at hd; obtain rfl := Option.some.inj hd
      exact val 9 _ hn rfl rfl
    · obtain ⟨h1, h2⟩ := opG_of (x := .pick (.tmp 10) (.const (.bool true)) (.tmp 24)) (d := some 25) (by kernel_rfl) ho
      refine .inl ⟨free_not (guardG_of (by kernel_rfl) ho), meets_value (v := .bool true) (by have e10 : a.eval (.tmp 10) = .bool true := val 10 _ hn rfl rfl; unfold execOp; simp only [h1, e10]; simp [go_sem, BigFrame.eval_const]) fun d hd => ?_⟩
      rw [h2] at hd; obtain rfl := Option.some.inj hd; rfl
    · obtain ⟨h1, h2⟩ := opG_of (x := .assign (.tmp 25)) (d := some 4) (by kernel_rfl) ho
      refine .inl ⟨free_not (guardG_of (by kernel_rfl) ho), meets_move (.inr h1) fun d hd => ?_⟩
      rw [h2] at hd; obtain rfl := Option.some.inj hd
      exact val 25 _ hn rfl rfl
set_option maxRecDepth 100000 in
set_option maxHeartbeats 1500000 in
theorem law_OrderChecks (c : Chs) (bv wv pv ov : Value) (s : Ost) (w : World) (hg : GlobN w) (h : ChAt w (· < w.heap.size) bv wv pv ov c) (hw : 0 ≤ s.wait ∧ s.wait < 65536) :
    Calls Tryz.prog 4 #[chV c bv wv pv ov, osV s] w fun e w' => e = .returned (.bool true) ∧ Below w.heap.size w w' := by
  unfold chV osV
  obtain ⟨A, ca, rfl, hc1, hc2⟩ := h.mdl.bat.shape
  obtain ⟨A1, ca1, rfl, hc3, hc4⟩ := h.mdl.bow.shape
  obtain ⟨A2, ca2, rfl, hc5, hc6⟩ := h.bow.shape
  obtain ⟨A3, ca3, rfl, hc7, hc8⟩ := h.ord.shape
  have HX0 := Lib.hid (OSB.new w c (.slice A c.mdl.bats.length ca) (.slice A1 c.mdl.bows.length ca1) (.slice A2 c.bows.length ca2) (.slice A3 c.ord.length ca3) s)
  have k1 := fun W (hW : Below w.heap.size w W) => law45_awake W (hg.below hW)
  have k2 := fun W (hW : Below w.heap.size w W) => law45_tiny c _ _ _ _ W (h.below hW)
  have k3 := fun W (hW : Below w.heap.size w W) => or_Check c _ _ _ _ W (h.below hW)
  have k4 := fun W (hW : Below w.heap.size w W) => r45_Check c _ _ _ _ W (h.below hW)
  have k5 := fun W (hW : Below w.heap.size w W) => or_CheckState c s _ _ _ _ W (h.below hW) hw
  have k6 := fun W (hW : Below w.heap.size w W) => r45_CheckState c s _ _ _ _ W (h.below hW) hw
  simp only [checkO_ref] at k4
  obtain ⟨m3, h3⟩ : ∃ x, x = checkO c := ⟨_, rfl⟩
  simp only [← h3] at k3 k4
  obtain ⟨m5, h5⟩ : ∃ x, x = chstO c s := ⟨_, rfl⟩
  simp only [← h5] at k5 k6
  unfold chV at k2 k3 k4
  unfold chV osV at k5 k6
  obtain ⟨ball, need, str, par, wait⟩ := s
  dsimp only at k5 k6 ⊢
  have K1 := Lib.hid k1
  have K3 := Lib.hid k3
  have K4 := Lib.hid k4
  have K5 := Lib.hid k5
  have K6 := Lib.hid k6
  have tok0 : True := trivial
  clear k1 k3 k4 k5 k6 h3 h5 hg h hw
  cases hs : tinyB c
  · rw [hs] at k2
    have K2 := Lib.hid k2
    clear k2 hs
    go_enter Tryz.func4, Tryz.ntmps4
    go_wp2_with (clear tok0; go_at_call 19; refine (K1.out _ HX0.out.bel).mono ?_; rintro e w1 ⟨rfl, hb⟩; have HX1 := Lib.hid (HX0.out.below hb); clear hb; have tok1 : True := trivial)
    refine wp_region_freeG (by kernel_rfl : _ = ocOps) (by kernel_rfl) (oc_free (w := w) K2.out) (of_decide_eq_true (by kernel_rfl)) HX1.out (fun d hd => ?_) ?_
    · simp only [List.mem_cons, List.not_mem_nil, or_false] at hd
      subst hd
      exact ⟨_, rfl, rfl⟩
    · rintro ⟨⟨l⟩, df⟩ wx hin
      obtain ⟨v4, hv4, hs4⟩ := hin.atG 19 4 (by kernel_rfl)
      have hsz : l.length = 26 := hin.size
      have hdf : df = [] := hin.dfr
      have HG := Lib.hid hin.g
      clear hin
      subst hdf
      have hs4 : v4 = .bool true := hs4
      subst hs4
      dsimp only at hv4
      iterate 26 (obtain ⟨_, t, e, h2⟩ := listG_cons hsz; clear hsz; subst e; have hsz := h2; clear h2)
      have e0 := List.eq_nil_of_length_eq_zero hsz
      clear hsz
      subst e0
      simp only [List.getElem?_toArray, List.getElem?_cons_zero, List.getElem?_cons_succ, Option.some.injEq] at hv4
      subst hv4
      go_wp2
      go_ret
      exact ⟨rfl, HG.out.bel⟩
  rw [hs] at k2
  have K2 := Lib.hid k2
  clear k2 hs
  go_enter Tryz.func4, Tryz.ntmps4
  go_wp2_with (clear tok0; go_at_call 19; refine (K1.out _ HX0.out.bel).mono ?_; rintro e w1 ⟨rfl, hb⟩; have HX1 := Lib.hid ((HX0.out.below hb).drew); clear hb; have tok1 : True := trivial)
  obtain ⟨x0, x1, x2, x3, x4, x5, x6, y0, y1, y2, y3, y4⟩ := HX1.out.cells; dsimp only at y0 y1 y2 y3 y4
  go_region_held3 (fun w' => w'.cell? ⟨w.heap.size, 0, none⟩ = some (.slice A c.mdl.bats.length ca) ∧ w'.cell? ⟨w.heap.size, 1, none⟩ = some (.slice A1 c.mdl.bows.length ca1) ∧ w'.cell? ⟨w.heap.size, 2, none⟩ = some (.slice A2 c.bows.length ca2) ∧ w'.cell? ⟨w.heap.size, 3, none⟩ = some (.int .i64 c.over) ∧ w'.cell? ⟨w.heap.size, 4, none⟩ = some (.int .i64 c.done) ∧ w'.cell? ⟨w.heap.size, 5, none⟩ = some (.int .i64 c.need) ∧ w'.cell? ⟨w.heap.size, 6, none⟩ = some (.slice A3 c.ord.length ca3) ∧ w'.cell? ⟨w.heap.size + 1, 0, none⟩ = some (.int .i64 ball) ∧ w'.cell? ⟨w.heap.size + 1, 1, none⟩ = some (.int .i64 need) ∧ w'.cell? ⟨w.heap.size + 1, 2, none⟩ = some (.int .i64 str) ∧ w'.cell? ⟨w.heap.size + 1, 3, none⟩ = some (.int .i64 par) ∧ w'.cell? ⟨w.heap.size + 1, 4, none⟩ = some (.int .u16 wait)) (first | exact ⟨x0, x1, x2, x3, x4, x5, x6, y0, y1, y2, y3, y4⟩ | go_keep) (first
    | (clear tok1; go_at_call 20; refine (K2.out _ HX1.out.bel).mono ?_; rintro e w2 ⟨rfl, hb⟩; have HX2 := Lib.hid (HX1.out.below hb); clear x0 x1 x2 x3 x4 x5 x6 y0 y1 y2 y3 y4; obtain ⟨x0, x1, x2, x3, x4, x5, x6, y0, y1, y2, y3, y4⟩ := HX2.out.cells; dsimp only at y0 y1 y2 y3 y4; clear hb; have tok2 : True := trivial)
    | (clear tok2; go_at_call 21; refine (K3.out _ HX2.out.bel).mono ?_; rintro e w3 ⟨rfl, hb⟩; have HX3 := Lib.hid (HX2.out.below hb); clear x0 x1 x2 x3 x4 x5 x6 y0 y1 y2 y3 y4; obtain ⟨x0, x1, x2, x3, x4, x5, x6, y0, y1, y2, y3, y4⟩ := HX3.out.cells; dsimp only at y0 y1 y2 y3 y4; clear hb; have tok3 : True := trivial)
    | (clear tok3; go_at_call 22; refine (K4.out _ HX3.out.bel).mono ?_; rintro e w4 ⟨rfl, hb⟩; have HX4 := Lib.hid (HX3.out.below hb); clear x0 x1 x2 x3 x4 x5 x6 y0 y1 y2 y3 y4; obtain ⟨x0, x1, x2, x3, x4, x5, x6, y0, y1, y2, y3, y4⟩ := HX4.out.cells; dsimp only at y0 y1 y2 y3 y4; clear hb; have tok4 : True := trivial)
    | (clear tok4; go_at_call 23; refine (K5.out _ HX4.out.bel).mono ?_; rintro e w5 ⟨rfl, hb⟩; have HX5 := Lib.hid (HX4.out.below hb); clear x0 x1 x2 x3 x4 x5 x6 y0 y1 y2 y3 y4; obtain ⟨x0, x1, x2, x3, x4, x5, x6, y0, y1, y2, y3, y4⟩ := HX5.out.cells; dsimp only at y0 y1 y2 y3 y4; clear hb; have tok5 : True := trivial)
    | (clear tok5; go_at_call 24; refine (K6.out _ HX5.out.bel).mono ?_; rintro e w6 ⟨rfl, hb⟩; have HX6 := Lib.hid (HX5.out.below hb); clear x0 x1 x2 x3 x4 x5 x6 y0 y1 y2 y3 y4; obtain ⟨x0, x1, x2, x3, x4, x5, x6, y0, y1, y2, y3, y4⟩ := HX6.out.cells; dsimp only at y0 y1 y2 y3 y4; clear hb; have tok6 : True := trivial))
  all_goals go_wp2
  all_goals go_ret
  all_goals exact ⟨by first | rfl | exact ret_b (by simp), HX6.out.bel⟩
end Go.Proofs.YtfnfbojaiikigaaGreatDoor
