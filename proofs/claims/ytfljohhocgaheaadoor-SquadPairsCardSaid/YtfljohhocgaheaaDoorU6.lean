/- The contract of squad.Pair. -/
import Derived.Test.YtfljohhocgaheaaDoorU5
import Derived.Deep.RegionHeld3
set_option linter.unusedSimpArgs false
set_option linter.unusedVariables false
namespace Go.Proofs.YtfljohhocgaheaaDoor
open Go.RowKit

/-- Rules and two sides, boxed one behind the other. -/
structure Pai (w W : World) (g : Nat) (r : Rul) (pr : Value) (a : Sqd) (pa : Value) (b : Sqd) (pb : Value) : Prop where
  bel : Below w.heap.size w W
  r : RulAt W g r pr
  a : BoxAt W (g + 1) a pa
  b : BoxAt W (g + 1 + 1) b pb
section
variable {w W W' : World} {g : Nat} {r : Rul} {pr : Value} {a : Sqd} {pa : Value} {b : Sqd} {pb : Value}
theorem Pai.below (h : Pai w W g r pr a pa b pb) (hb : Below W.heap.size W W') : Pai w W' g r pr a pa b pb := ⟨h.bel.trans (hb.mono h.bel.size), h.r.below hb, h.a.below hb, h.b.below hb⟩
theorem Pai.alloc (h : Pai w W g r pr a pa b pb) (o : Obj) : Pai w (W.alloc o) g r pr a pa b pb := h.below (Below.alloc (Below.refl _ _) (Nat.le_refl _) o)
theorem Pai.drew (h : Pai w W g r pr a pa b pb) : Pai w W.drew g r pr a pa b pb := h.below (Below.drew (Below.refl _ _))
theorem Pai.cells (h : Pai w W g r pr a pa b pb) :
    (W.cell? ⟨g, 0, none⟩ = some (.string (S r.name)) ∧ W.cell? ⟨g, 1, none⟩ = some (.int .i64 r.side) ∧ W.cell? ⟨g, 2, none⟩ = some (.int .i64 r.inns) ∧ W.cell? ⟨g, 3, none⟩ = some (.int .i64 r.overs) ∧ W.cell? ⟨g, 4, none⟩ = some (.int .i64 r.balls) ∧ W.cell? ⟨g, 5, none⟩ = some (.int .i64 r.quota) ∧ W.cell? ⟨g, 6, none⟩ = some (.int .i64 r.wide) ∧ W.cell? ⟨g, 7, none⟩ = some (.int .i64 r.noball) ∧ W.cell? ⟨g, 8, none⟩ = some (.bool r.free) ∧ W.cell? ⟨g, 9, none⟩ = some (.int .i64 r.newball) ∧ W.cell? ⟨g, 10, none⟩ = some (.int .i64 r.follow) ∧ W.cell? ⟨g, 11, none⟩ = some (.int .i64 r.reviews) ∧ W.cell? ⟨g, 12, none⟩ = some (.int .i64 r.outside) ∧ W.cell? ⟨g, 13, none⟩ = some pr) ∧
    (W.cell? ⟨g + 1, 0, none⟩ = some (.string (S a.name)) ∧ W.cell? ⟨g + 1, 1, none⟩ = some pa ∧ W.cell? ⟨g + 1, 2, none⟩ = some (.int .i64 a.cap) ∧ W.cell? ⟨g + 1, 3, none⟩ = some (.int .i64 a.kee)) ∧
    (W.cell? ⟨g + 1 + 1, 0, none⟩ = some (.string (S b.name)) ∧ W.cell? ⟨g + 1 + 1, 1, none⟩ = some pb ∧ W.cell? ⟨g + 1 + 1, 2, none⟩ = some (.int .i64 b.cap) ∧ W.cell? ⟨g + 1 + 1, 3, none⟩ = some (.int .i64 b.kee)) :=
  ⟨h.r.cells, ⟨h.a.blk.four.1, h.a.blk.four.2.1, h.a.blk.four.2.2.1, h.a.blk.four.2.2.2.1⟩, ⟨h.b.blk.four.1, h.b.blk.four.2.1, h.b.blk.four.2.2.1, h.b.blk.four.2.2.2.1⟩⟩
theorem Pai.new (hr : Sl 3 elPha w (· < w.heap.size) pr r.power) (ha : Lies w a pa) (hb : Lies w b pb) :
    Pai w (((w.alloc (.cells (rulCells r pr) 44)).alloc (.cells #[.string (S a.name), pa, .int .i64 a.cap, .int .i64 a.kee] 24)).alloc (.cells #[.string (S b.name), pb, .int .i64 b.cap, .int .i64 b.kee] 24)) w.heap.size r pr a pa b pb := by
  have z1 : (w.alloc (.cells (rulCells r pr) 44)).heap.size = w.heap.size + 1 := by simp
  have z2 : ((w.alloc (.cells (rulCells r pr) 44)).alloc (.cells #[.string (S a.name), pa, .int .i64 a.cap, .int .i64 a.kee] 24)).heap.size = w.heap.size + 1 + 1 := by simp
  have b1 : Below w.heap.size w (w.alloc (.cells (rulCells r pr) 44)) := Below.alloc (Below.refl _ _) (Nat.le_refl _) _
  have b2 := Below.alloc (Below.refl (w.alloc (.cells (rulCells r pr) 44)).heap.size (w.alloc (.cells (rulCells r pr) 44))) (Nat.le_refl _) (.cells #[.string (S a.name), pa, .int .i64 a.cap, .int .i64 a.kee] 24)
  have b3 := Below.alloc (Below.refl ((w.alloc (.cells (rulCells r pr) 44)).alloc (.cells #[.string (S a.name), pa, .int .i64 a.cap, .int .i64 a.kee] 24)).heap.size ((w.alloc (.cells (rulCells r pr) 44)).alloc (.cells #[.string (S a.name), pa, .int .i64 a.cap, .int .i64 a.kee] 24))) (Nat.le_refl _) (.cells #[.string (S b.name), pb, .int .i64 b.cap, .int .i64 b.kee] 24)
  have ka := Blk.new (w.alloc (.cells (rulCells r pr) 44)) 24 #[.string (S a.name), pa, .int .i64 a.cap, .int .i64 a.kee]
  have kb := Blk.new ((w.alloc (.cells (rulCells r pr) 44)).alloc (.cells #[.string (S a.name), pa, .int .i64 a.cap, .int .i64 a.kee] 24)) 24 #[.string (S b.name), pb, .int .i64 b.cap, .int .i64 b.kee]
  rw [z1] at ka
  rw [z2] at kb
  have p1 : Pai w _ _ r pr a pa b pb := ⟨(b1.trans (b2.mono b1.size)).trans (b3.mono (b1.trans (b2.mono b1.size)).size), ((RulAt.new hr).below b2).below b3, ⟨ka.below b3 (by rw [z2]; omega), ((ha.below b1).below b2).below b3⟩, ⟨kb, ((hb.below b1).below b2).below b3⟩⟩
  exact p1
end
/-- How large the names may be. -/
def Upto3 (x y z : Int) (k : Nat) : Prop := (1 ≤ k → x = 0) ∧ (2 ≤ k → y = 0) ∧ (3 ≤ k → z = 0)
def Modest (a : Sqd) : Prop := a.name.length ≤ 1000000000 ∧ ∀ p ∈ a.players, p.length ≤ 1000000000
theorem firstErr_at {v0 v1 v2 : Int} : (v0 ≠ 0 → firstErr [v0, v1, v2] = v0) ∧ (v0 = 0 → v1 ≠ 0 → firstErr [v0, v1, v2] = v1) ∧ (v0 = 0 → v1 = 0 → v2 ≠ 0 → firstErr [v0, v1, v2] = v2) := by
  unfold firstErr firstErr firstErr firstErr
  refine ⟨fun h => by rw [if_pos h], fun h h' => by rw [if_neg (by simp [h]), if_pos h'], fun h h' h'' => by rw [if_neg (by simp [h]), if_neg (by simp [h']), if_pos h'']⟩
set_option maxRecDepth 100000 in
set_option maxHeartbeats 3000000 in
theorem sq_Pair (r : Rul) (pr : Value) (a : Sqd) (pa : Value) (b : Sqd) (pb : Value) (w : World) (hr : Sl 3 elPha w (· < w.heap.size) pr r.power) (ha : Lies w a pa) (hb : Lies w b pb)
    (hn : r.name.length ≤ 1000000000) (hma : Modest a) (hmb : Modest b) :
    Calls Tryd.prog 25 #[rulV r pr, sqV a pa, sqV b pb] w fun e w' => e = .returned (.int .i64 (pairS r a b)) ∧ Below w.heap.size w w' := by
  obtain ⟨zz, hzz⟩ : ∃ z, z = pairS r a b := ⟨_, rfl⟩
  rw [← hzz]
  unfold pairS restS at hzz
  obtain ⟨Ar, cr, rfl, hcr, hcr2⟩ := hr.shape
  obtain ⟨Aa, ca, rfl, hca, hca2⟩ := Sl.shape ha
  obtain ⟨Ab, cb, rfl, hcb, hcb2⟩ := Sl.shape hb
  have h0 := Pai.new hr ha hb
  have k1 : ∀ W, Pai w W w.heap.size r (.slice Ar r.power.length cr) a (.slice Aa a.players.length ca) b (.slice Ab b.players.length cb) → Calls Tryd.prog 49 #[rulV r (.slice Ar r.power.length cr)] W fun e W' => e = .returned (.int .i64 (checkR r)) ∧ Pai w W' w.heap.size r (.slice Ar r.power.length cr) a (.slice Aa a.players.length ca) b (.slice Ab b.players.length cb) := fun W h => by
    refine (rul_Check r _ W h.r.sl hn).mono ?_
    rintro e W' ⟨rfl, hb⟩
    exact ⟨rfl, h.below hb⟩
  have k2 : ∀ W, Pai w W w.heap.size r (.slice Ar r.power.length cr) a (.slice Aa a.players.length ca) b (.slice Ab b.players.length cb) → Calls Tryd.prog 18 #[sqV a (.slice Aa a.players.length ca)] W fun e W' => e = .returned (.int .i64 (checkS a)) ∧ Pai w W' w.heap.size r (.slice Ar r.power.length cr) a (.slice Aa a.players.length ca) b (.slice Ab b.players.length cb) := fun W h => by
    refine (sq_Check a _ W h.a.sl hma.1 hma.2).mono ?_
    rintro e W' ⟨rfl, hb⟩
    exact ⟨rfl, h.below hb⟩
  have k3 : ∀ W, Pai w W w.heap.size r (.slice Ar r.power.length cr) a (.slice Aa a.players.length ca) b (.slice Ab b.players.length cb) → Calls Tryd.prog 18 #[sqV b (.slice Ab b.players.length cb)] W fun e W' => e = .returned (.int .i64 (checkS b)) ∧ Pai w W' w.heap.size r (.slice Ar r.power.length cr) a (.slice Aa a.players.length ca) b (.slice Ab b.players.length cb) := fun W h => by
    refine (sq_Check b _ W h.b.sl hmb.1 hmb.2).mono ?_
    rintro e W' ⟨rfl, hb⟩
    exact ⟨rfl, h.below hb⟩
  have k4 : ∀ W, Pai w W w.heap.size r (.slice Ar r.power.length cr) a (.slice Aa a.players.length ca) b (.slice Ab b.players.length cb) → Calls Tryd.prog 50 #[.slice Aa a.players.length ca, .func (.func 51) #[] #[.pointer (some ⟨w.heap.size + 1 + 1, 0, none⟩)]] W fun e W' => e = .returned (.bool (meetB a b)) ∧ Pai w W' w.heap.size r (.slice Ar r.power.length cr) a (.slice Aa a.players.length ca) b (.slice Ab b.players.length cb) := fun W h => by
    refine (pair_ContainsFunc a.players _ b _ (w.heap.size + 1 + 1) W h.a.sl h.b).mono ?_
    rintro e W' ⟨rfl, hb⟩
    exact ⟨rfl, h.below hb⟩
  obtain ⟨x, hx⟩ : ∃ x, x = checkR r := ⟨_, rfl⟩
  obtain ⟨y, hy⟩ : ∃ y, y = checkS a := ⟨_, rfl⟩
  obtain ⟨z, hz⟩ : ∃ z, z = checkS b := ⟨_, rfl⟩
  obtain ⟨m, hm⟩ : ∃ m, m = meetB a b := ⟨_, rfl⟩
  rw [← hx, ← hy, ← hz, ← hm] at hzz
  rw [← hx] at k1
  rw [← hy] at k2
  rw [← hz] at k3
  rw [← hm] at k4
  unfold rulV rulCells at k1
  unfold sqV at k2 k3
  unfold rulCells at h0
  have K1 := Lib.hid k1
  have K2 := Lib.hid k2
  have K3 := Lib.hid k3
  have K4 := Lib.hid k4
  have H0 := Lib.hid h0
  have HZZ := Lib.hid hzz
  obtain ⟨⟨y0, y1, y2, y3, y4, y5, y6, y7, y8, y9, y10, y11, y12, y13⟩, ⟨u0, u1, u2, u3⟩, ⟨v0, v1, v2, v3⟩⟩ := h0.cells
  clear hzz hx hy hz hm k1 k2 k3 k4 h0 hr ha hb hn hma hmb
  unfold rulV rulCells sqV
  go_enter Tryd.func25, Tryd.ntmps25
  go_wp2_with fail
  generalize World.alloc (World.alloc (World.alloc _ _) _) _ = W0 at *
  go_region_held3 (fun w' => (w'.cell? ⟨w.heap.size, 0, none⟩ = some (.string (S r.name)) ∧ w'.cell? ⟨w.heap.size, 1, none⟩ = some (.int .i64 r.side) ∧ w'.cell? ⟨w.heap.size, 2, none⟩ = some (.int .i64 r.inns) ∧ w'.cell? ⟨w.heap.size, 3, none⟩ = some (.int .i64 r.overs) ∧ w'.cell? ⟨w.heap.size, 4, none⟩ = some (.int .i64 r.balls) ∧ w'.cell? ⟨w.heap.size, 5, none⟩ = some (.int .i64 r.quota) ∧ w'.cell? ⟨w.heap.size, 6, none⟩ = some (.int .i64 r.wide) ∧ w'.cell? ⟨w.heap.size, 7, none⟩ = some (.int .i64 r.noball) ∧ w'.cell? ⟨w.heap.size, 8, none⟩ = some (.bool r.free) ∧ w'.cell? ⟨w.heap.size, 9, none⟩ = some (.int .i64 r.newball) ∧ w'.cell? ⟨w.heap.size, 10, none⟩ = some (.int .i64 r.follow) ∧ w'.cell? ⟨w.heap.size, 11, none⟩ = some (.int .i64 r.reviews) ∧ w'.cell? ⟨w.heap.size, 12, none⟩ = some (.int .i64 r.outside) ∧ w'.cell? ⟨w.heap.size, 13, none⟩ = some (.slice Ar r.power.length cr)) ∧
    (w'.cell? ⟨w.heap.size + 1, 0, none⟩ = some (.string (S a.name)) ∧ w'.cell? ⟨w.heap.size + 1, 1, none⟩ = some (.slice Aa a.players.length ca) ∧ w'.cell? ⟨w.heap.size + 1, 2, none⟩ = some (.int .i64 a.cap) ∧ w'.cell? ⟨w.heap.size + 1, 3, none⟩ = some (.int .i64 a.kee)) ∧
    (w'.cell? ⟨w.heap.size + 1 + 1, 0, none⟩ = some (.string (S b.name)) ∧ w'.cell? ⟨w.heap.size + 1 + 1, 1, none⟩ = some (.slice Ab b.players.length cb) ∧ w'.cell? ⟨w.heap.size + 1 + 1, 2, none⟩ = some (.int .i64 b.cap) ∧ w'.cell? ⟨w.heap.size + 1 + 1, 3, none⟩ = some (.int .i64 b.kee)))
    (first | exact ⟨⟨y0, y1, y2, y3, y4, y5, y6, y7, y8, y9, y10, y11, y12, y13⟩, ⟨u0, u1, u2, u3⟩, ⟨v0, v1, v2, v3⟩⟩ | go_keep)
    (first
      | (go_at_call 49; refine (K1.out _ H0.out.drew).mono ?_; rintro e w1 ⟨rfl, h1⟩; obtain ⟨⟨y0, y1, y2, y3, y4, y5, y6, y7, y8, y9, y10, y11, y12, y13⟩, ⟨u0, u1, u2, u3⟩, ⟨v0, v1, v2, v3⟩⟩ := h1.cells; have H1 := Lib.hid h1; clear h1)
      | (go_at_call 18; refine (K2.out _ H1.out).mono ?_; rintro e w2 ⟨rfl, h2⟩; obtain ⟨⟨y0, y1, y2, y3, y4, y5, y6, y7, y8, y9, y10, y11, y12, y13⟩, ⟨u0, u1, u2, u3⟩, ⟨v0, v1, v2, v3⟩⟩ := h2.cells; have H2 := Lib.hid h2; clear h2 H1)
      | (go_at_call 18; refine (K3.out _ H2.out).mono ?_; rintro e w3 ⟨rfl, h3⟩; obtain ⟨⟨y0, y1, y2, y3, y4, y5, y6, y7, y8, y9, y10, y11, y12, y13⟩, ⟨u0, u1, u2, u3⟩, ⟨v0, v1, v2, v3⟩⟩ := h3.cells; have H3 := Lib.hid h3; clear h3))
  have h4 := H3.out.alloc (.cells #[.int .i64 x, .int .i64 y, .int .i64 z] 27)
  have hk4 := Blk.new w3 27 #[.int .i64 x, .int .i64 y, .int .i64 z]
  go_wp2_with fail
  generalize w3.alloc _ = W4 at *
  obtain ⟨c0, c1, c2, _⟩ := hk4.three
  obtain ⟨G, hG⟩ : ∃ G, G = w3.heap.size := ⟨_, rfl⟩
  rw [← hG] at c0 c1 c2 ⊢
  obtain ⟨⟨y0, y1, y2, y3, y4, y5, y6, y7, y8, y9, y10, y11, y12, y13⟩, ⟨u0, u1, u2, u3⟩, ⟨v0, v1, v2, v3⟩⟩ := h4.cells
  have H4 := Lib.hid h4
  clear h4 hk4 hG H3
  go_loop [17] (fun i => ∃ k : Nat, k ≤ 3 ∧ i = .int .i64 k ∧ Upto3 x y z k) (fun i => 3 - (intOf i).toNat)
  case atStart => exact ⟨0, by omega, rfl, fun h => absurd h (by omega), fun h => absurd h (by omega), fun h => absurd h (by omega)⟩
  case round =>
    obtain ⟨k, hk, rfl, hu⟩ := hrel
    have HU := Lib.hid hu
    rcases (by omega : k = 0 ∨ k = 1 ∨ k = 2 ∨ k = 3) with rfl | rfl | rfl | rfl
    · clear hu
      by_cases hx : x = 0
      · have e1 : (x != 0) = false := by simp [hx]
        have HX := Lib.hid hx
        clear hx
        go_wp2
        go_round
        case rel => exact ⟨1, by omega, rfl, fun _ => HX.out, fun h => absurd h (by omega), fun h => absurd h (by omega)⟩
        case measure => simp [intOf]
      · have e1 : (x != 0) = true := by simp [hx]
        have hz2 : zz = x := by rw [HZZ.out, firstErr_at.1 hx, if_pos hx]
        have HX := Lib.hid hz2
        clear hx hz2
        go_wp2
        go_ret
        exact ⟨ret_i HX.out.symm, H4.out.bel⟩
    · have hx0 := hu.1 (by omega)
      clear hu
      by_cases hx : y = 0
      · have e1 : (y != 0) = false := by simp [hx]
        have HX := Lib.hid (And.intro hx0 hx)
        clear hx hx0
        go_wp2
        go_round
        case rel => exact ⟨2, by omega, rfl, fun _ => HX.out.1, fun _ => HX.out.2, fun h => absurd h (by omega)⟩
        case measure => simp [intOf]
      · have e1 : (y != 0) = true := by simp [hx]
        have hz2 : zz = y := by rw [HZZ.out, firstErr_at.2.1 hx0 hx, if_pos hx]
        have HX := Lib.hid hz2
        clear hx hx0 hz2
        go_wp2
        go_ret
        exact ⟨ret_i HX.out.symm, H4.out.bel⟩
    · have hx0 := hu.1 (by omega)
      have hy0 := hu.2.1 (by omega)
      clear hu
      by_cases hx : z = 0
      · have e1 : (z != 0) = false := by simp [hx]
        have HX := Lib.hid (And.intro hx0 (And.intro hy0 hx))
        clear hx hx0 hy0
        go_wp2
        go_round
        case rel => exact ⟨3, by omega, rfl, fun _ => HX.out.1, fun _ => HX.out.2.1, fun _ => HX.out.2.2⟩
        case measure => simp [intOf]
      · have e1 : (z != 0) = true := by simp [hx]
        have hz2 : zz = z := by rw [HZZ.out, firstErr_at.2.2 hx0 hy0 hx, if_pos hx]
        have HX := Lib.hid hz2
        clear hx hx0 hy0 hz2
        go_wp2
        go_ret
        exact ⟨ret_i HX.out.symm, H4.out.bel⟩
    · have hx0 := hu.1 (by omega)
      have hy0 := hu.2.1 (by omega)
      have hw0 := hu.2.2 (by omega)
      have hz2 := HZZ.out
      rw [if_neg (fun h => h ((firstErr_three x y z).2 ⟨hx0, hy0, hw0⟩))] at hz2
      clear hu hx0 hy0 hw0
      by_cases l1 : (a.players.length : Int) = r.side
      · have e1 : ((a.players.length : Int) != r.side) = false := by rw [bne_eq_false_iff_eq]; exact l1
        by_cases l2 : (b.players.length : Int) = r.side
        · have e2 : ((b.players.length : Int) != r.side) = false := by rw [bne_eq_false_iff_eq]; exact l2
          rw [if_neg (fun h => h.elim (fun h => h l1) (fun h => h l2))] at hz2
          by_cases hn : a.name = b.name
          · have e3 : (a.name == b.name) = true := beq_iff_eq.2 hn
            rw [if_pos (.inl hn)] at hz2
            have HX := Lib.hid hz2
            clear hz2 hn l1 l2
            go_wp2
            go_ret
            exact ⟨ret_i HX.out.symm, H4.out.bel⟩
          · have e3 : (a.name == b.name) = false := beq_eq_false_iff_ne.2 hn
            cases m
            · rw [if_neg (fun h => h.elim hn (by simp))] at hz2
              have HX := Lib.hid hz2
              clear hz2 hn l1 l2
              go_wp2_with (go_at_call 50; refine (K4.out _ H4.out).mono ?_; rintro e w5 ⟨rfl, h5⟩; have H5 := Lib.hid h5; clear h5)
              go_ret
              exact ⟨ret_i HX.out.symm, H5.out.bel⟩
            · rw [if_pos (.inr rfl)] at hz2
              have HX := Lib.hid hz2
              clear hz2 hn l1 l2
              go_wp2_with (go_at_call 50; refine (K4.out _ H4.out).mono ?_; rintro e w5 ⟨rfl, h5⟩; have H5 := Lib.hid h5; clear h5)
              go_ret
              exact ⟨ret_i HX.out.symm, H5.out.bel⟩
        · have e2 : ((b.players.length : Int) != r.side) = true := by rw [bne_iff_ne]; exact l2
          rw [if_pos (.inr l2)] at hz2
          have HX := Lib.hid hz2
          clear hz2 l1 l2
          go_wp2
          go_ret
          exact ⟨ret_i HX.out.symm, H4.out.bel⟩
      · have e1 : ((a.players.length : Int) != r.side) = true := by rw [bne_iff_ne]; exact l1
        rw [if_pos (.inl l1)] at hz2
        have HX := Lib.hid hz2
        clear hz2 l1
        go_wp2
        go_ret
        exact ⟨ret_i HX.out.symm, H4.out.bel⟩
end Go.Proofs.YtfljohhocgaheaaDoor
