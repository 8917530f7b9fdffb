/- Several texts of this family in one: J14 P70 P71 Y0 W8 Y1 Y2 Y3 Y5 Y6 Y9 P84 D4 D7 FG. -/
import Derived.Test.YtdlmmbfnmnglaaaGreatDoorGB2
import Derived.Test.YtdlmmbfnmnglaaaGreatDoorGB1
import Derived.Deep.RegionHeld3
import Derived.DeepKeys5
import Derived.Maps.OwnSet
import Derived.Test.YtdlmmbfnmnglaaaGreatDoorGB0
set_option linter.unusedSimpArgs false
set_option linter.unusedVariables false
namespace Go.Proofs.YtdlmmbfnmnglaaaGreatDoor
open Go.RowKit

/-- A model boxed in block g, a copy of an element in block B. -/
structure TwoM (w W : World) (g B : Nat) (t : TypeId) (bv wv x v : Value) : Prop where
  bel : Below w.heap.size w W
  box : Blk W g 25 #[bv, wv]
  el : Blk W B t #[x, v]
theorem Blk.duo {w : World} {g : Nat} {t : TypeId} {a b : Value} (h : Blk w g t #[a, b]) : w.cell? ⟨g, 0, none⟩ = some a ∧ w.cell? ⟨g, 1, none⟩ = some b ∧ w.frozen? ⟨g, 0, none⟩ = false ∧ w.frozen? ⟨g, 1, none⟩ = false := ⟨h.cell 0, h.cell 1, h.frozen 0, h.frozen 1⟩
theorem TwoM.below {w W W' : World} {g B : Nat} {t : TypeId} {bv wv x v : Value} (h : TwoM w W g B t bv wv x v) (hb : Below W.heap.size W W') : TwoM w W' g B t bv wv x v := ⟨h.bel.trans (hb.mono h.bel.size), h.box.below hb h.box.lt, h.el.below hb h.el.lt⟩
theorem TwoM.cells {w W : World} {g B : Nat} {t : TypeId} {bv wv x v : Value} (h : TwoM w W g B t bv wv x v) : W.cell? ⟨g, 0, none⟩ = some bv ∧ W.cell? ⟨g, 1, none⟩ = some wv ∧ W.cell? ⟨B, 0, none⟩ = some x ∧ W.cell? ⟨B, 1, none⟩ = some v := ⟨h.box.duo.1, h.box.duo.2.1, h.el.duo.1, h.el.duo.2.1⟩
theorem TwoM.new {w W : World} {g : Nat} {bv wv : Value} (hb : Below w.heap.size w W) (hx : Blk W g 25 #[bv, wv]) (t : TypeId) (x v : Value) : TwoM w (W.alloc (.cells #[x, v] t)) g W.heap.size t bv wv x v := ⟨hb.alloc hb.size _, hx.alloc _, Blk.new _ _ _⟩
theorem bat_ways (pre : List (List UInt8)) (b : Bat) : (nameS b.name = false ∧ batErr pre b = 5) ∨ (nameS b.name = true ∧ decide (b.name ∈ pre) = true ∧ batErr pre b = 7) ∨ (nameS b.name = true ∧ decide (b.name ∈ pre) = false ∧ batErr pre b = checkD b.dist) := by
  unfold batErr
  cases h1 : nameS b.name
  · exact .inl ⟨rfl, by simp⟩
  · by_cases h2 : b.name ∈ pre
    · exact .inr (.inl ⟨rfl, by simp [h2], by rw [if_neg (by simp), if_pos h2]⟩)
    · exact .inr (.inr ⟨rfl, by simp [h2], by rw [if_neg (by simp), if_neg h2]⟩)
theorem bow_ways (pre : List (List UInt8)) (b : Bow) : (nameS b.name = false ∧ bowErr pre b = 5) ∨ (nameS b.name = true ∧ decide (b.name ∈ pre) = true ∧ bowErr pre b = 7) ∨ (nameS b.name = true ∧ decide (b.name ∈ pre) = false ∧ b.shift < -12 ∧ bowErr pre b = 2) ∨ (nameS b.name = true ∧ decide (b.name ∈ pre) = false ∧ ¬ b.shift < -12 ∧ 12 < b.shift ∧ bowErr pre b = 2) ∨ (nameS b.name = true ∧ decide (b.name ∈ pre) = false ∧ ¬ b.shift < -12 ∧ ¬ 12 < b.shift ∧ bowErr pre b = 0) := by
  unfold bowErr
  cases h1 : nameS b.name
  · exact .inl ⟨rfl, by simp⟩
  · by_cases h2 : b.name ∈ pre
    · exact .inr (.inl ⟨rfl, by simp [h2], by rw [if_neg (by simp), if_pos h2]⟩)
    · by_cases h3 : b.shift < -12
      · exact .inr (.inr (.inl ⟨rfl, by simp [h2], h3, by rw [if_neg (by simp), if_neg h2, if_pos (.inl h3)]⟩))
      · by_cases h4 : 12 < b.shift
        · exact .inr (.inr (.inr (.inl ⟨rfl, by simp [h2], h3, h4, by rw [if_neg (by simp), if_neg h2, if_pos (.inr h4)]⟩)))
        · exact .inr (.inr (.inr (.inr ⟨rfl, by simp [h2], h3, h4, by rw [if_neg (by simp), if_neg h2, if_neg (by omega)]⟩)))
/-- What is left of a check: the batters from k on, then the bowlers. -/
def restM (m : Mdl) (k : Nat) : Int := if batsF ((m.bats.take k).map (·.name)) (m.bats.drop k) ≠ 0 then batsF ((m.bats.take k).map (·.name)) (m.bats.drop k) else bowsF [] m.bows
def restW (m : Mdl) (k : Nat) : Int := bowsF ((m.bows.take k).map (·.name)) (m.bows.drop k)
theorem restM_at {m : Mdl} {k : Nat} (hk : k < m.bats.length) : restM m k = if batErr ((m.bats.take k).map (·.name)) m.bats[k] ≠ 0 then batErr ((m.bats.take k).map (·.name)) m.bats[k] else restM m (k + 1) := by
  unfold restM
  rw [batsF_at hk]
  by_cases h : batErr ((m.bats.take k).map (·.name)) m.bats[k] ≠ 0
  · simp only [if_pos h]
  · rw [if_neg h, if_neg h]
theorem restM_end {m : Mdl} : restM m m.bats.length = restW m 0 := by
  unfold restM restW
  rw [List.drop_of_length_le (Nat.le_refl _), batsF, if_neg (by simp)]
  simp
theorem restW_at {m : Mdl} {k : Nat} (hk : k < m.bows.length) : restW m k = if bowErr ((m.bows.take k).map (·.name)) m.bows[k] ≠ 0 then bowErr ((m.bows.take k).map (·.name)) m.bows[k] else restW m (k + 1) := bowsF_at hk
theorem restW_end {m : Mdl} : restW m m.bows.length = 0 := by
  unfold restW
  rw [List.drop_of_length_le (Nat.le_refl _), bowsF]
theorem checkM_rest {m : Mdl} (h1 : ¬ (m.bats.length = 0 ∨ m.bows.length = 0)) (h2 : ¬ (11 < m.bats.length ∨ 11 < m.bows.length)) : checkM m = restM m 0 := by
  unfold checkM restM
  rw [if_neg h1, if_neg h2]; simp
set_option maxRecDepth 100000 in
set_option maxHeartbeats 4000000 in
theorem m_Check (m : Mdl) (bv wv : Value) (w : World) (h : MdlAt w (· < w.heap.size) bv wv m) :
    Calls Tryz.prog 80 #[.agg #[bv, wv]] w fun e w' => e = .returned (.int .i64 (checkM m)) ∧ Below w.heap.size w w' := by
  obtain ⟨z, hz⟩ : ∃ z, z = checkM m := ⟨_, rfl⟩
  rw [← hz]
  obtain ⟨A, c, rfl, hc, hc2⟩ := h.bat.shape
  obtain ⟨A', c', rfl, hc', hc2'⟩ := h.bow.shape
  have HM := Lib.hid h
  have hb1 : Below w.heap.size w (w.alloc (.cells #[.slice A m.bats.length c, .slice A' m.bows.length c'] 25)) := Below.alloc (Below.refl _ _) (Nat.le_refl _) _
  have hx1 := Blk.new w 25 #[.slice A m.bats.length c, .slice A' m.bows.length c']
  by_cases h1 : m.bats.length = 0 ∨ m.bows.length = 0
  · have HZ := Lib.hid (show z = 6 by rw [hz]; unfold checkM; rw [if_pos h1])
    have HB1 := Lib.hid hb1
    clear hz h hb1 hx1
    by_cases h2 : m.bats.length = 0
    · have e1 : ((m.bats.length : Int) == 0) = true := beq_iff_eq.2 (by omega)
      have h3 := Lib.hid h2
      clear h1 h2
      go_enter Tryz.func80, Tryz.ntmps80
      go_wp2
      go_ret
      exact ⟨ret_i HZ.out.symm, HB1.out⟩
    · have e1 : ((m.bats.length : Int) == 0) = false := beq_eq_false_iff_ne.2 (by omega)
      have e2 : ((m.bows.length : Int) == 0) = true := beq_iff_eq.2 (by omega)
      have h3 := Lib.hid h2
      clear h1 h2
      go_enter Tryz.func80, Tryz.ntmps80
      go_wp2
      go_ret
      exact ⟨ret_i HZ.out.symm, HB1.out⟩
  have e1 : ((m.bats.length : Int) == 0) = false := beq_eq_false_iff_ne.2 (by omega)
  have e2 : ((m.bows.length : Int) == 0) = false := beq_eq_false_iff_ne.2 (by omega)
  by_cases h2 : 11 < m.bats.length ∨ 11 < m.bows.length
  · have HZ := Lib.hid (show z = 9 by rw [hz]; unfold checkM; rw [if_neg h1, if_pos h2])
    have HB1 := Lib.hid hb1
    clear hz h hb1 hx1 h1
    by_cases h3 : 11 < m.bats.length
    · have e3 : (11 : Int) < (m.bats.length : Int) := by omega
      clear h2 h3
      go_enter Tryz.func80, Tryz.ntmps80
      go_wp2
      go_ret
      exact ⟨ret_i HZ.out.symm, HB1.out⟩
    · have e3 : ¬ (11 : Int) < (m.bats.length : Int) := by omega
      have e4 : (11 : Int) < (m.bows.length : Int) := by omega
      clear h2 h3
      go_enter Tryz.func80, Tryz.ntmps80
      go_wp2
      go_ret
      exact ⟨ret_i HZ.out.symm, HB1.out⟩
  have HZ0 := Lib.hid (show z = restM m 0 by rw [hz, checkM_rest h1 h2])
  have e3 : ¬ (11 : Int) < (m.bats.length : Int) := by omega
  have e4 : ¬ (11 : Int) < (m.bows.length : Int) := by omega
  have HB1 := Lib.hid hb1
  have HX1 := Lib.hid hx1
  clear hz h hb1 hx1 h1 h2
  go_enter Tryz.func80, Tryz.ntmps80
  go_wp2
  go_loopw [33] (fun i wr => ∃ k : Nat, k ≤ m.bats.length ∧ i = .int .i64 k ∧ Hid (Below w.heap.size w wr ∧ Blk wr w.heap.size 25 #[.slice A m.bats.length c, .slice A' m.bows.length c']) ∧ Hid (z = restM m k)) (fun i _ => m.bats.length - (intOf i).toNat)
  case atStart => exact ⟨0, Nat.zero_le _, rfl, Lib.hid ⟨HB1.out, HX1.out⟩, HZ0⟩
  case round =>
    clear HB1 HX1
    obtain ⟨k, hk, rfl, HW, hzz⟩ := hrel
    obtain ⟨r0, r1, _, _⟩ := HW.out.2.duo
    by_cases hlt : k < m.bats.length
    · obtain ⟨b0, o, v, rfl, hbl, yy0, yy1, hv, hpl⟩ := bat_at HM.out.bat hlt
      have y0 := (HW.out.1.cell (p := ⟨b0, o + k * 2, none⟩) hbl).trans yy0
      have y1 := (HW.out.1.cell (p := ⟨b0, o + k * 2 + 1, none⟩) hbl).trans yy1
      have hz2 := hzz.out
      rw [restM_at hlt] at hz2
      have hbf := batI_before hlt
      have hw := bat_ways ((m.bats.take k).map (·.name)) m.bats[k]
      obtain ⟨⟨p, d⟩, hp⟩ : ∃ b, b = m.bats[k] := ⟨_, rfl⟩
      rw [← hp] at y0 hv hpl hz2 hbf hw
      dsimp only at y0 hv hpl hbf hw
      obtain ⟨A2, c2, hve, _, _⟩ := hv.shape
      obtain ⟨n2, hn2⟩ : ∃ n, n = d.length := ⟨_, rfl⟩
      rw [← hn2] at hve
      subst hve
      generalize (m.bats.take k).map (·.name) = pre at hz2 hbf hw
      have hx := TwoM.new HW.out.1 HW.out.2 60 (.string (S p)) (.slice A2 n2 c2)
      obtain ⟨x0, x1, x2, x3⟩ := hx.cells
      have HX := Lib.hid hx
      clear hzz hp yy0 yy1 hx
      have tok0 : True := trivial
      have kb : ∀ W, Below w.heap.size w W → Calls Tryz.prog 121 #[.agg #[.slice (some ⟨b0, o, none⟩) m.bats.length c, .slice A' m.bows.length c'], .string (S p)] W fun e W' => e = .returned (.int .i64 (batI m.bats p)) ∧ Below W.heap.size W W' := fun W hW => m_Batter m _ _ p W (HM.out.below hW)
      have kd : ∀ W, Below w.heap.size w W → Calls Tryz.prog 106 #[.slice A2 n2 c2] W fun e W' => e = .returned (.int .i64 (checkD d)) ∧ Below W.heap.size W W' := fun W hW => ch_Check d _ W (hv.keep elOtc_good (Same.of_below hW) fun b h => Nat.lt_of_lt_of_le h hW.size)
      obtain ⟨i, hi⟩ : ∃ i, i = batI m.bats p := ⟨_, rfl⟩
      obtain ⟨u, hu⟩ : ∃ u, u = checkD d := ⟨_, rfl⟩
      rw [← hi] at kb hbf
      rw [← hu] at kd hw
      have KB := Lib.hid kb
      have KD := Lib.hid kd
      clear kb kd hi hu hn2
      rcases hw with ⟨hnm, he⟩ | ⟨hnm, hin, he⟩ | ⟨hnm, hin, he⟩
      · rw [he, if_pos (by decide)] at hz2
        have kn : ∀ W, Calls Tryz.prog 120 #[.string (S p)] W fun e W' => e = .returned (.bool false) ∧ Below W.heap.size W W' := fun W => (text_Name (S p) W (by rw [S_size]; exact hpl)).mono fun e W' h => by rw [S_data, hnm] at h; exact h
        have KN := Lib.hid kn
        have HZZ := Lib.hid hz2
        clear kn hz2 he hnm hbf hv hpl
        go_wp2_with (first
          | (clear tok0; go_at_call 120; refine (KN.out _).mono ?_; rintro e w2 ⟨rfl, hb2⟩; have HX2 := Lib.hid (HX.out.below hb2); obtain ⟨p0, p1, p2, p3⟩ := HX2.out.cells; clear hb2; have tok1 : True := trivial))
        go_ret
        exact ⟨ret_i HZZ.out.symm, HX2.out.bel⟩
      · rw [he, if_pos (by decide)] at hz2
        have kn : ∀ W, Calls Tryz.prog 120 #[.string (S p)] W fun e W' => e = .returned (.bool true) ∧ Below W.heap.size W W' := fun W => (text_Name (S p) W (by rw [S_size]; exact hpl)).mono fun e W' h => by rw [S_data, hnm] at h; exact h
        have KN := Lib.hid kn
        have HZZ := Lib.hid hz2
        rw [hin] at hbf
        clear kn hz2 he hnm hin hv hpl
        go_wp2_with (first
          | (clear tok0; go_at_call 120; refine (KN.out _).mono ?_; rintro e w2 ⟨rfl, hb2⟩; have HX2 := Lib.hid (HX.out.below hb2); obtain ⟨p0, p1, p2, p3⟩ := HX2.out.cells; clear hb2; have tok1 : True := trivial)
          | (clear tok1; go_at_call 121; refine (KB.out _ HX2.out.bel).mono ?_; rintro e w3 ⟨rfl, hb3⟩; have HX3 := Lib.hid (HX2.out.below hb3); obtain ⟨q0, q1, q2, q3⟩ := HX3.out.cells; clear hb3; have tok2 : True := trivial))
        go_ret
        exact ⟨ret_i HZZ.out.symm, HX3.out.bel⟩
      · rw [he] at hz2
        have kn : ∀ W, Calls Tryz.prog 120 #[.string (S p)] W fun e W' => e = .returned (.bool true) ∧ Below W.heap.size W W' := fun W => (text_Name (S p) W (by rw [S_size]; exact hpl)).mono fun e W' h => by rw [S_data, hnm] at h; exact h
        have KN := Lib.hid kn
        rw [hin] at hbf
        by_cases hu0 : u = 0
        · rw [if_neg (by simp [hu0])] at hz2
          have eu : (u != 0) = false := by simp [hu0]
          have HZZ := Lib.hid hz2
          clear kn hz2 he hnm hin hu0 hv hpl
          go_wp2_with (first
          | (clear tok0; go_at_call 120; refine (KN.out _).mono ?_; rintro e w2 ⟨rfl, hb2⟩; have HX2 := Lib.hid (HX.out.below hb2); obtain ⟨p0, p1, p2, p3⟩ := HX2.out.cells; clear hb2; have tok1 : True := trivial)
          | (clear tok1; go_at_call 121; refine (KB.out _ HX2.out.bel).mono ?_; rintro e w3 ⟨rfl, hb3⟩; have HX3 := Lib.hid (HX2.out.below hb3); obtain ⟨q0, q1, q2, q3⟩ := HX3.out.cells; clear hb3; have tok2 : True := trivial)
          | (clear tok2; go_at_call 106; refine (KD.out _ HX3.out.bel).mono ?_; rintro e w4 ⟨rfl, hb4⟩; have HX4 := Lib.hid (HX3.out.below hb4); clear hb4; have tok3 : True := trivial))
          go_roundw
          case rel => exact ⟨k + 1, by omega, by go_num, Lib.hid ⟨HX4.out.bel, HX4.out.box⟩, HZZ⟩
          case measure => simp [intOf]; omega
        · rw [if_pos hu0] at hz2
          have eu : (u != 0) = true := by simp [hu0]
          have HZZ := Lib.hid hz2
          clear kn hz2 he hnm hin hu0 hv hpl
          go_wp2_with (first
          | (clear tok0; go_at_call 120; refine (KN.out _).mono ?_; rintro e w2 ⟨rfl, hb2⟩; have HX2 := Lib.hid (HX.out.below hb2); obtain ⟨p0, p1, p2, p3⟩ := HX2.out.cells; clear hb2; have tok1 : True := trivial)
          | (clear tok1; go_at_call 121; refine (KB.out _ HX2.out.bel).mono ?_; rintro e w3 ⟨rfl, hb3⟩; have HX3 := Lib.hid (HX2.out.below hb3); obtain ⟨q0, q1, q2, q3⟩ := HX3.out.cells; clear hb3; have tok2 : True := trivial)
          | (clear tok2; go_at_call 106; refine (KD.out _ HX3.out.bel).mono ?_; rintro e w4 ⟨rfl, hb4⟩; have HX4 := Lib.hid (HX3.out.below hb4); clear hb4; have tok3 : True := trivial))
          go_ret
          exact ⟨ret_i HZZ.out.symm, HX4.out.bel⟩
    · obtain rfl : k = m.bats.length := by omega
      have hz2 := hzz.out
      rw [restM_end] at hz2
      have HZ1 := Lib.hid hz2
      have HW1 := HW
      clear hzz hz2 HW HZ0
      obtain ⟨wo, rfl⟩ : ∃ wo : World, wo = wr := ⟨_, rfl⟩
      go_wp2
      go_loopw [60] (fun i wr => ∃ k : Nat, k ≤ m.bows.length ∧ i = .int .i64 k ∧ Hid (Below w.heap.size w wr ∧ Blk wr w.heap.size 25 #[.slice A m.bats.length c, .slice A' m.bows.length c']) ∧ Hid (z = restW m k)) (fun i _ => m.bows.length - (intOf i).toNat)
      case atStart => exact ⟨0, Nat.zero_le _, rfl, HW1, HZ1⟩
      case round =>
        clear HW1 HZ1 r0 r1
        obtain ⟨k, hk, rfl, HW, hzz⟩ := hrel
        obtain ⟨r0, r1, _, _⟩ := HW.out.2.duo
        by_cases hlt : k < m.bows.length
        · obtain ⟨b0, o, rfl, hbl, yy0, yy1, hpl⟩ := bow_at HM.out.bow hlt
          have y0 := (HW.out.1.cell (p := ⟨b0, o + k * 2, none⟩) hbl).trans yy0
          have y1 := (HW.out.1.cell (p := ⟨b0, o + k * 2 + 1, none⟩) hbl).trans yy1
          have hz2 := hzz.out
          rw [restW_at hlt] at hz2
          have hbf := bowI_before hlt
          have hw := bow_ways ((m.bows.take k).map (·.name)) m.bows[k]
          obtain ⟨⟨p, d⟩, hp⟩ : ∃ b, b = m.bows[k] := ⟨_, rfl⟩
          rw [← hp] at y0 y1 hpl hz2 hbf hw
          dsimp only at y0 y1 hpl hbf hw
          generalize (m.bows.take k).map (·.name) = pre at hz2 hbf hw
          have hx := TwoM.new HW.out.1 HW.out.2 62 (.string (S p)) (.int .i64 d)
          obtain ⟨x0, x1, x2, x3⟩ := hx.cells
          have HX := Lib.hid hx
          clear hzz hp yy0 yy1 hx
          have tok0 : True := trivial
          have kb : ∀ W, Below w.heap.size w W → Calls Tryz.prog 122 #[.agg #[.slice A m.bats.length c, .slice (some ⟨b0, o, none⟩) m.bows.length c'], .string (S p)] W fun e W' => e = .returned (.int .i64 (bowI m.bows p)) ∧ Below W.heap.size W W' := fun W hW => m_Bowler m _ _ p W (HM.out.below hW)
          obtain ⟨i, hi⟩ : ∃ i, i = bowI m.bows p := ⟨_, rfl⟩
          rw [← hi] at kb hbf
          have KB := Lib.hid kb
          clear kb hi
          rcases hw with ⟨hnm, he⟩ | ⟨hnm, hin, he⟩ | ⟨hnm, hin, hs, he⟩ | ⟨hnm, hin, hs, hs2, he⟩ | ⟨hnm, hin, hs, hs2, he⟩
          · rw [he, if_pos (by decide)] at hz2
            have kn : ∀ W, Calls Tryz.prog 120 #[.string (S p)] W fun e W' => e = .returned (.bool false) ∧ Below W.heap.size W W' := fun W => (text_Name (S p) W (by rw [S_size]; exact hpl)).mono fun e W' h => by rw [S_data, hnm] at h; exact h
            have KN := Lib.hid kn
            have HZZ := Lib.hid hz2
            clear kn hz2 he hnm hbf hpl
            go_wp2_with (first
          | (clear tok0; go_at_call 120; refine (KN.out _).mono ?_; rintro e w2 ⟨rfl, hb2⟩; have HX2 := Lib.hid (HX.out.below hb2); obtain ⟨p0, p1, p2, p3⟩ := HX2.out.cells; clear hb2; have tok1 : True := trivial))
            go_ret
            exact ⟨ret_i HZZ.out.symm, HX2.out.bel⟩
          · rw [he, if_pos (by decide)] at hz2
            have kn : ∀ W, Calls Tryz.prog 120 #[.string (S p)] W fun e W' => e = .returned (.bool true) ∧ Below W.heap.size W W' := fun W => (text_Name (S p) W (by rw [S_size]; exact hpl)).mono fun e W' h => by rw [S_data, hnm] at h; exact h
            have KN := Lib.hid kn
            have HZZ := Lib.hid hz2
            rw [hin] at hbf
            clear kn hz2 he hnm hin hpl
            go_wp2_with (first
          | (clear tok0; go_at_call 120; refine (KN.out _).mono ?_; rintro e w2 ⟨rfl, hb2⟩; have HX2 := Lib.hid (HX.out.below hb2); obtain ⟨p0, p1, p2, p3⟩ := HX2.out.cells; clear hb2; have tok1 : True := trivial)
          | (clear tok1; go_at_call 122; refine (KB.out _ HX2.out.bel).mono ?_; rintro e w3 ⟨rfl, hb3⟩; have HX3 := Lib.hid (HX2.out.below hb3); obtain ⟨q0, q1, q2, q3⟩ := HX3.out.cells; clear hb3; have tok2 : True := trivial))
            go_ret
            exact ⟨ret_i HZZ.out.symm, HX3.out.bel⟩
          · rw [he, if_pos (by decide)] at hz2
            have kn : ∀ W, Calls Tryz.prog 120 #[.string (S p)] W fun e W' => e = .returned (.bool true) ∧ Below W.heap.size W W' := fun W => (text_Name (S p) W (by rw [S_size]; exact hpl)).mono fun e W' h => by rw [S_data, hnm] at h; exact h
            have KN := Lib.hid kn
            have HZZ := Lib.hid hz2
            rw [hin] at hbf
            clear kn hz2 he hnm hin hpl
            go_wp2_with (first
          | (clear tok0; go_at_call 120; refine (KN.out _).mono ?_; rintro e w2 ⟨rfl, hb2⟩; have HX2 := Lib.hid (HX.out.below hb2); obtain ⟨p0, p1, p2, p3⟩ := HX2.out.cells; clear hb2; have tok1 : True := trivial)
          | (clear tok1; go_at_call 122; refine (KB.out _ HX2.out.bel).mono ?_; rintro e w3 ⟨rfl, hb3⟩; have HX3 := Lib.hid (HX2.out.below hb3); obtain ⟨q0, q1, q2, q3⟩ := HX3.out.cells; clear hb3; have tok2 : True := trivial))
            go_ret
            exact ⟨ret_i HZZ.out.symm, HX3.out.bel⟩
          · rw [he, if_pos (by decide)] at hz2
            have kn : ∀ W, Calls Tryz.prog 120 #[.string (S p)] W fun e W' => e = .returned (.bool true) ∧ Below W.heap.size W W' := fun W => (text_Name (S p) W (by rw [S_size]; exact hpl)).mono fun e W' h => by rw [S_data, hnm] at h; exact h
            have KN := Lib.hid kn
            have HZZ := Lib.hid hz2
            rw [hin] at hbf
            clear kn hz2 he hnm hin hpl
            go_wp2_with (first
          | (clear tok0; go_at_call 120; refine (KN.out _).mono ?_; rintro e w2 ⟨rfl, hb2⟩; have HX2 := Lib.hid (HX.out.below hb2); obtain ⟨p0, p1, p2, p3⟩ := HX2.out.cells; clear hb2; have tok1 : True := trivial)
          | (clear tok1; go_at_call 122; refine (KB.out _ HX2.out.bel).mono ?_; rintro e w3 ⟨rfl, hb3⟩; have HX3 := Lib.hid (HX2.out.below hb3); obtain ⟨q0, q1, q2, q3⟩ := HX3.out.cells; clear hb3; have tok2 : True := trivial))
            go_ret
            exact ⟨ret_i HZZ.out.symm, HX3.out.bel⟩
          · rw [he, if_neg (by decide)] at hz2
            have kn : ∀ W, Calls Tryz.prog 120 #[.string (S p)] W fun e W' => e = .returned (.bool true) ∧ Below W.heap.size W W' := fun W => (text_Name (S p) W (by rw [S_size]; exact hpl)).mono fun e W' h => by rw [S_data, hnm] at h; exact h
            have KN := Lib.hid kn
            have HZZ := Lib.hid hz2
            rw [hin] at hbf
            clear kn hz2 he hnm hin hpl
            go_wp2_with (first
          | (clear tok0; go_at_call 120; refine (KN.out _).mono ?_; rintro e w2 ⟨rfl, hb2⟩; have HX2 := Lib.hid (HX.out.below hb2); obtain ⟨p0, p1, p2, p3⟩ := HX2.out.cells; clear hb2; have tok1 : True := trivial)
          | (clear tok1; go_at_call 122; refine (KB.out _ HX2.out.bel).mono ?_; rintro e w3 ⟨rfl, hb3⟩; have HX3 := Lib.hid (HX2.out.below hb3); obtain ⟨q0, q1, q2, q3⟩ := HX3.out.cells; clear hb3; have tok2 : True := trivial))
            go_roundw
            case rel => exact ⟨k + 1, by omega, by go_num, Lib.hid ⟨HX3.out.bel, HX3.out.box⟩, HZZ⟩
            case measure => simp [intOf]; omega
        · obtain rfl : k = m.bows.length := by omega
          have hz2 := hzz.out
          rw [restW_end] at hz2
          have HZ2 := Lib.hid hz2
          clear hzz hz2
          go_wp2
          go_ret
          exact ⟨ret_i HZ2.out.symm, HW.out.1⟩
set_option maxRecDepth 100000 in
set_option maxHeartbeats 4000000 in
theorem r_Check (m : Mdl) (bv wv : Value) (w : World) (h : MdlAt w (· < w.heap.size) bv wv m) :
    Calls Tryz.prog 77 #[.agg #[bv, wv]] w fun e w' => e = .returned (.int .i64 (checkM m)) ∧ Below w.heap.size w w' := by
  obtain ⟨z, hz⟩ : ∃ z, z = checkM m := ⟨_, rfl⟩
  rw [← hz]
  obtain ⟨A, c, rfl, hc, hc2⟩ := h.bat.shape
  obtain ⟨A', c', rfl, hc', hc2'⟩ := h.bow.shape
  have HM := Lib.hid h
  have hb1 : Below w.heap.size w (w.alloc (.cells #[.slice A m.bats.length c, .slice A' m.bows.length c'] 25)) := Below.alloc (Below.refl _ _) (Nat.le_refl _) _
  have hx1 := Blk.new w 25 #[.slice A m.bats.length c, .slice A' m.bows.length c']
  by_cases h1 : m.bats.length = 0 ∨ m.bows.length = 0
  · have HZ := Lib.hid (show z = 6 by rw [hz]; unfold checkM; rw [if_pos h1])
    have HB1 := Lib.hid hb1
    clear hz h hb1 hx1
    by_cases h2 : m.bats.length = 0
    · have e1 : ((m.bats.length : Int) == 0) = true := beq_iff_eq.2 (by omega)
      have h3 := Lib.hid h2
      clear h1 h2
      go_enter Tryz.func77, Tryz.ntmps77
      go_wp2
      go_ret
      exact ⟨ret_i HZ.out.symm, HB1.out⟩
    · have e1 : ((m.bats.length : Int) == 0) = false := beq_eq_false_iff_ne.2 (by omega)
      have e2 : ((m.bows.length : Int) == 0) = true := beq_iff_eq.2 (by omega)
      have h3 := Lib.hid h2
      clear h1 h2
      go_enter Tryz.func77, Tryz.ntmps77
      go_wp2
      go_ret
      exact ⟨ret_i HZ.out.symm, HB1.out⟩
  have e1 : ((m.bats.length : Int) == 0) = false := beq_eq_false_iff_ne.2 (by omega)
  have e2 : ((m.bows.length : Int) == 0) = false := beq_eq_false_iff_ne.2 (by omega)
  by_cases h2 : 11 < m.bats.length ∨ 11 < m.bows.length
  · have HZ := Lib.hid (show z = 9 by rw [hz]; unfold checkM; rw [if_neg h1, if_pos h2])
    have HB1 := Lib.hid hb1
    clear hz h hb1 hx1 h1
    by_cases h3 : 11 < m.bats.length
    · have e3 : (11 : Int) < (m.bats.length : Int) := by omega
      clear h2 h3
      go_enter Tryz.func77, Tryz.ntmps77
      go_wp2
      go_ret
      exact ⟨ret_i HZ.out.symm, HB1.out⟩
    · have e3 : ¬ (11 : Int) < (m.bats.length : Int) := by omega
      have e4 : (11 : Int) < (m.bows.length : Int) := by omega
      clear h2 h3
      go_enter Tryz.func77, Tryz.ntmps77
      go_wp2
      go_ret
      exact ⟨ret_i HZ.out.symm, HB1.out⟩
  have HZ0 := Lib.hid (show z = restM m 0 by rw [hz, checkM_rest h1 h2])
  have e3 : ¬ (11 : Int) < (m.bats.length : Int) := by omega
  have e4 : ¬ (11 : Int) < (m.bows.length : Int) := by omega
  have HB1 := Lib.hid hb1
  have HX1 := Lib.hid hx1
  clear hz h hb1 hx1 h1 h2
  go_enter Tryz.func77, Tryz.ntmps77
  go_wp2
  go_loopw [31] (fun i wr => ∃ k : Nat, k ≤ m.bats.length ∧ i = .int .i64 k ∧ Hid (Below w.heap.size w wr ∧ Blk wr w.heap.size 25 #[.slice A m.bats.length c, .slice A' m.bows.length c']) ∧ Hid (z = restM m k)) (fun i _ => m.bats.length - (intOf i).toNat)
  case atStart => exact ⟨0, Nat.zero_le _, rfl, Lib.hid ⟨HB1.out, HX1.out⟩, HZ0⟩
  case round =>
    clear HB1 HX1
    obtain ⟨k, hk, rfl, HW, hzz⟩ := hrel
    obtain ⟨r0, r1, _, _⟩ := HW.out.2.duo
    by_cases hlt : k < m.bats.length
    · obtain ⟨b0, o, v, rfl, hbl, yy0, yy1, hv, hpl⟩ := bat_at HM.out.bat hlt
      have y0 := (HW.out.1.cell (p := ⟨b0, o + k * 2, none⟩) hbl).trans yy0
      have y1 := (HW.out.1.cell (p := ⟨b0, o + k * 2 + 1, none⟩) hbl).trans yy1
      have hz2 := hzz.out
      rw [restM_at hlt] at hz2
      have hbf := batI_before hlt
      have hw := bat_ways ((m.bats.take k).map (·.name)) m.bats[k]
      obtain ⟨⟨p, d⟩, hp⟩ : ∃ b, b = m.bats[k] := ⟨_, rfl⟩
      rw [← hp] at y0 hv hpl hz2 hbf hw
      dsimp only at y0 hv hpl hbf hw
      obtain ⟨A2, c2, hve, _, _⟩ := hv.shape
      obtain ⟨n2, hn2⟩ : ∃ n, n = d.length := ⟨_, rfl⟩
      rw [← hn2] at hve
      subst hve
      generalize (m.bats.take k).map (·.name) = pre at hz2 hbf hw
      have hx := TwoM.new HW.out.1 HW.out.2 60 (.string (S p)) (.slice A2 n2 c2)
      obtain ⟨x0, x1, x2, x3⟩ := hx.cells
      have HX := Lib.hid hx
      clear hzz hp yy0 yy1 hx
      have tok0 : True := trivial
      have kb : ∀ W, Below w.heap.size w W → Calls Tryz.prog 114 #[.agg #[.slice (some ⟨b0, o, none⟩) m.bats.length c, .slice A' m.bows.length c'], .string (S p)] W fun e W' => e = .returned (.int .i64 (batI m.bats p)) ∧ Below W.heap.size W W' := fun W hW => r_Batter m _ _ p W (HM.out.below hW)
      have kd : ∀ W, Below w.heap.size w W → Calls Tryz.prog 115 #[.slice A2 n2 c2] W fun e W' => e = .returned (.int .i64 (checkD d)) ∧ Below W.heap.size W W' := fun W hW => ref_CCheck d _ W (hv.keep elOtc_good (Same.of_below hW) fun b h => Nat.lt_of_lt_of_le h hW.size)
      obtain ⟨i, hi⟩ : ∃ i, i = batI m.bats p := ⟨_, rfl⟩
      obtain ⟨u, hu⟩ : ∃ u, u = checkD d := ⟨_, rfl⟩
      rw [← hi] at kb hbf
      rw [← hu] at kd hw
      have KB := Lib.hid kb
      have KD := Lib.hid kd
      clear kb kd hi hu hn2
      rcases hw with ⟨hnm, he⟩ | ⟨hnm, hin, he⟩ | ⟨hnm, hin, he⟩
      · rw [he, if_pos (by decide)] at hz2
        have kn : ∀ W, Calls Tryz.prog 113 #[.string (S p)] W fun e W' => e = .returned (.bool false) ∧ Below W.heap.size W W' := fun W => (ref_Name (S p) W (by rw [S_size]; exact hpl)).mono fun e W' h => by rw [S_data, hnm] at h; exact ⟨h.1, h.2 ▸ Below.refl _ _⟩
        have KN := Lib.hid kn
        have HZZ := Lib.hid hz2
        clear kn hz2 he hnm hbf hv hpl
        go_wp2_with (first
          | (clear tok0; go_at_call 113; refine (KN.out _).mono ?_; rintro e w2 ⟨rfl, hb2⟩; have HX2 := Lib.hid (HX.out.below hb2); obtain ⟨p0, p1, p2, p3⟩ := HX2.out.cells; clear hb2; have tok1 : True := trivial))
        go_ret
        exact ⟨ret_i HZZ.out.symm, HX2.out.bel⟩
      · rw [he, if_pos (by decide)] at hz2
        have kn : ∀ W, Calls Tryz.prog 113 #[.string (S p)] W fun e W' => e = .returned (.bool true) ∧ Below W.heap.size W W' := fun W => (ref_Name (S p) W (by rw [S_size]; exact hpl)).mono fun e W' h => by rw [S_data, hnm] at h; exact ⟨h.1, h.2 ▸ Below.refl _ _⟩
        have KN := Lib.hid kn
        have HZZ := Lib.hid hz2
        rw [hin] at hbf
        clear kn hz2 he hnm hin hv hpl
        go_wp2_with (first
          | (clear tok0; go_at_call 113; refine (KN.out _).mono ?_; rintro e w2 ⟨rfl, hb2⟩; have HX2 := Lib.hid (HX.out.below hb2); obtain ⟨p0, p1, p2, p3⟩ := HX2.out.cells; clear hb2; have tok1 : True := trivial)
          | (clear tok1; go_at_call 114; refine (KB.out _ HX2.out.bel).mono ?_; rintro e w3 ⟨rfl, hb3⟩; have HX3 := Lib.hid (HX2.out.below hb3); obtain ⟨q0, q1, q2, q3⟩ := HX3.out.cells; clear hb3; have tok2 : True := trivial))
        go_ret
        exact ⟨ret_i HZZ.out.symm, HX3.out.bel⟩
      · rw [he] at hz2
        have kn : ∀ W, Calls Tryz.prog 113 #[.string (S p)] W fun e W' => e = .returned (.bool true) ∧ Below W.heap.size W W' := fun W => (ref_Name (S p) W (by rw [S_size]; exact hpl)).mono fun e W' h => by rw [S_data, hnm] at h; exact ⟨h.1, h.2 ▸ Below.refl _ _⟩
        have KN := Lib.hid kn
        rw [hin] at hbf
        by_cases hu0 : u = 0
        · rw [if_neg (by simp [hu0])] at hz2
          have eu : (u != 0) = false := by simp [hu0]
          have HZZ := Lib.hid hz2
          clear kn hz2 he hnm hin hu0 hv hpl
          go_wp2_with (first
          | (clear tok0; go_at_call 113; refine (KN.out _).mono ?_; rintro e w2 ⟨rfl, hb2⟩; have HX2 := Lib.hid (HX.out.below hb2); obtain ⟨p0, p1, p2, p3⟩ := HX2.out.cells; clear hb2; have tok1 : True := trivial)
          | (clear tok1; go_at_call 114; refine (KB.out _ HX2.out.bel).mono ?_; rintro e w3 ⟨rfl, hb3⟩; have HX3 := Lib.hid (HX2.out.below hb3); obtain ⟨q0, q1, q2, q3⟩ := HX3.out.cells; clear hb3; have tok2 : True := trivial)
          | (clear tok2; go_at_call 115; refine (KD.out _ HX3.out.bel).mono ?_; rintro e w4 ⟨rfl, hb4⟩; have HX4 := Lib.hid (HX3.out.below hb4); clear hb4; have tok3 : True := trivial))
          go_roundw
          case rel => exact ⟨k + 1, by omega, by go_num, Lib.hid ⟨HX4.out.bel, HX4.out.box⟩, HZZ⟩
          case measure => simp [intOf]; omega
        · rw [if_pos hu0] at hz2
          have eu : (u != 0) = true := by simp [hu0]
          have HZZ := Lib.hid hz2
          clear kn hz2 he hnm hin hu0 hv hpl
          go_wp2_with (first
          | (clear tok0; go_at_call 113; refine (KN.out _).mono ?_; rintro e w2 ⟨rfl, hb2⟩; have HX2 := Lib.hid (HX.out.below hb2); obtain ⟨p0, p1, p2, p3⟩ := HX2.out.cells; clear hb2; have tok1 : True := trivial)
          | (clear tok1; go_at_call 114; refine (KB.out _ HX2.out.bel).mono ?_; rintro e w3 ⟨rfl, hb3⟩; have HX3 := Lib.hid (HX2.out.below hb3); obtain ⟨q0, q1, q2, q3⟩ := HX3.out.cells; clear hb3; have tok2 : True := trivial)
          | (clear tok2; go_at_call 115; refine (KD.out _ HX3.out.bel).mono ?_; rintro e w4 ⟨rfl, hb4⟩; have HX4 := Lib.hid (HX3.out.below hb4); clear hb4; have tok3 : True := trivial))
          go_ret
          exact ⟨ret_i HZZ.out.symm, HX4.out.bel⟩
    · obtain rfl : k = m.bats.length := by omega
      have hz2 := hzz.out
      rw [restM_end] at hz2
      have HZ1 := Lib.hid hz2
      have HW1 := HW
      clear hzz hz2 HW HZ0
      obtain ⟨wo, rfl⟩ : ∃ wo : World, wo = wr := ⟨_, rfl⟩
      go_wp2
      go_loopw [56] (fun i wr => ∃ k : Nat, k ≤ m.bows.length ∧ i = .int .i64 k ∧ Hid (Below w.heap.size w wr ∧ Blk wr w.heap.size 25 #[.slice A m.bats.length c, .slice A' m.bows.length c']) ∧ Hid (z = restW m k)) (fun i _ => m.bows.length - (intOf i).toNat)
      case atStart => exact ⟨0, Nat.zero_le _, rfl, HW1, HZ1⟩
      case round =>
        clear HW1 HZ1 r0 r1
        obtain ⟨k, hk, rfl, HW, hzz⟩ := hrel
        obtain ⟨r0, r1, _, _⟩ := HW.out.2.duo
        by_cases hlt : k < m.bows.length
        · obtain ⟨b0, o, rfl, hbl, yy0, yy1, hpl⟩ := bow_at HM.out.bow hlt
          have y0 := (HW.out.1.cell (p := ⟨b0, o + k * 2, none⟩) hbl).trans yy0
          have y1 := (HW.out.1.cell (p := ⟨b0, o + k * 2 + 1, none⟩) hbl).trans yy1
          have hz2 := hzz.out
          rw [restW_at hlt] at hz2
          have hbf := bowI_before hlt
          have hw := bow_ways ((m.bows.take k).map (·.name)) m.bows[k]
          obtain ⟨⟨p, d⟩, hp⟩ : ∃ b, b = m.bows[k] := ⟨_, rfl⟩
          rw [← hp] at y0 y1 hpl hz2 hbf hw
          dsimp only at y0 y1 hpl hbf hw
          generalize (m.bows.take k).map (·.name) = pre at hz2 hbf hw
          have hx := TwoM.new HW.out.1 HW.out.2 62 (.string (S p)) (.int .i64 d)
          obtain ⟨x0, x1, x2, x3⟩ := hx.cells
          have HX := Lib.hid hx
          clear hzz hp yy0 yy1 hx
          have tok0 : True := trivial
          have kb : ∀ W, Below w.heap.size w W → Calls Tryz.prog 116 #[.agg #[.slice A m.bats.length c, .slice (some ⟨b0, o, none⟩) m.bows.length c'], .string (S p)] W fun e W' => e = .returned (.int .i64 (bowI m.bows p)) ∧ Below W.heap.size W W' := fun W hW => r_Bowler m _ _ p W (HM.out.below hW)
          obtain ⟨i, hi⟩ : ∃ i, i = bowI m.bows p := ⟨_, rfl⟩
          rw [← hi] at kb hbf
          have KB := Lib.hid kb
          clear kb hi
          rcases hw with ⟨hnm, he⟩ | ⟨hnm, hin, he⟩ | ⟨hnm, hin, hs, he⟩ | ⟨hnm, hin, hs, hs2, he⟩ | ⟨hnm, hin, hs, hs2, he⟩
          · rw [he, if_pos (by decide)] at hz2
            have kn : ∀ W, Calls Tryz.prog 113 #[.string (S p)] W fun e W' => e = .returned (.bool false) ∧ Below W.heap.size W W' := fun W => (ref_Name (S p) W (by rw [S_size]; exact hpl)).mono fun e W' h => by rw [S_data, hnm] at h; exact ⟨h.1, h.2 ▸ Below.refl _ _⟩
            have KN := Lib.hid kn
            have HZZ := Lib.hid hz2
            clear kn hz2 he hnm hbf hpl
            go_wp2_with (first
          | (clear tok0; go_at_call 113; refine (KN.out _).mono ?_; rintro e w2 ⟨rfl, hb2⟩; have HX2 := Lib.hid (HX.out.below hb2); obtain ⟨p0, p1, p2, p3⟩ := HX2.out.cells; clear hb2; have tok1 : True := trivial))
            go_ret
            exact ⟨ret_i HZZ.out.symm, HX2.out.bel⟩
          · rw [he, if_pos (by decide)] at hz2
            have kn : ∀ W, Calls Tryz.prog 113 #[.string (S p)] W fun e W' => e = .returned (.bool true) ∧ Below W.heap.size W W' := fun W => (ref_Name (S p) W (by rw [S_size]; exact hpl)).mono fun e W' h => by rw [S_data, hnm] at h; exact ⟨h.1, h.2 ▸ Below.refl _ _⟩
            have KN := Lib.hid kn
            have HZZ := Lib.hid hz2
            rw [hin] at hbf
            clear kn hz2 he hnm hin hpl
            go_wp2_with (first
          | (clear tok0; go_at_call 113; refine (KN.out _).mono ?_; rintro e w2 ⟨rfl, hb2⟩; have HX2 := Lib.hid (HX.out.below hb2); obtain ⟨p0, p1, p2, p3⟩ := HX2.out.cells; clear hb2; have tok1 : True := trivial)
          | (clear tok1; go_at_call 116; refine (KB.out _ HX2.out.bel).mono ?_; rintro e w3 ⟨rfl, hb3⟩; have HX3 := Lib.hid (HX2.out.below hb3); obtain ⟨q0, q1, q2, q3⟩ := HX3.out.cells; clear hb3; have tok2 : True := trivial))
            go_ret
            exact ⟨ret_i HZZ.out.symm, HX3.out.bel⟩
          · rw [he, if_pos (by decide)] at hz2
            have kn : ∀ W, Calls Tryz.prog 113 #[.string (S p)] W fun e W' => e = .returned (.bool true) ∧ Below W.heap.size W W' := fun W => (ref_Name (S p) W (by rw [S_size]; exact hpl)).mono fun e W' h => by rw [S_data, hnm] at h; exact ⟨h.1, h.2 ▸ Below.refl _ _⟩
            have KN := Lib.hid kn
            have HZZ := Lib.hid hz2
            rw [hin] at hbf
            clear kn hz2 he hnm hin hpl
            go_wp2_with (first
          | (clear tok0; go_at_call 113; refine (KN.out _).mono ?_; rintro e w2 ⟨rfl, hb2⟩; have HX2 := Lib.hid (HX.out.below hb2); obtain ⟨p0, p1, p2, p3⟩ := HX2.out.cells; clear hb2; have tok1 : True := trivial)
          | (clear tok1; go_at_call 116; refine (KB.out _ HX2.out.bel).mono ?_; rintro e w3 ⟨rfl, hb3⟩; have HX3 := Lib.hid (HX2.out.below hb3); obtain ⟨q0, q1, q2, q3⟩ := HX3.out.cells; clear hb3; have tok2 : True := trivial))
            go_ret
            exact ⟨ret_i HZZ.out.symm, HX3.out.bel⟩
          · rw [he, if_pos (by decide)] at hz2
            have kn : ∀ W, Calls Tryz.prog 113 #[.string (S p)] W fun e W' => e = .returned (.bool true) ∧ Below W.heap.size W W' := fun W => (ref_Name (S p) W (by rw [S_size]; exact hpl)).mono fun e W' h => by rw [S_data, hnm] at h; exact ⟨h.1, h.2 ▸ Below.refl _ _⟩
            have KN := Lib.hid kn
            have HZZ := Lib.hid hz2
            rw [hin] at hbf
            clear kn hz2 he hnm hin hpl
            go_wp2_with (first
          | (clear tok0; go_at_call 113; refine (KN.out _).mono ?_; rintro e w2 ⟨rfl, hb2⟩; have HX2 := Lib.hid (HX.out.below hb2); obtain ⟨p0, p1, p2, p3⟩ := HX2.out.cells; clear hb2; have tok1 : True := trivial)
          | (clear tok1; go_at_call 116; refine (KB.out _ HX2.out.bel).mono ?_; rintro e w3 ⟨rfl, hb3⟩; have HX3 := Lib.hid (HX2.out.below hb3); obtain ⟨q0, q1, q2, q3⟩ := HX3.out.cells; clear hb3; have tok2 : True := trivial))
            go_ret
            exact ⟨ret_i HZZ.out.symm, HX3.out.bel⟩
          · rw [he, if_neg (by decide)] at hz2
            have kn : ∀ W, Calls Tryz.prog 113 #[.string (S p)] W fun e W' => e = .returned (.bool true) ∧ Below W.heap.size W W' := fun W => (ref_Name (S p) W (by rw [S_size]; exact hpl)).mono fun e W' h => by rw [S_data, hnm] at h; exact ⟨h.1, h.2 ▸ Below.refl _ _⟩
            have KN := Lib.hid kn
            have HZZ := Lib.hid hz2
            rw [hin] at hbf
            clear kn hz2 he hnm hin hpl
            go_wp2_with (first
          | (clear tok0; go_at_call 113; refine (KN.out _).mono ?_; rintro e w2 ⟨rfl, hb2⟩; have HX2 := Lib.hid (HX.out.below hb2); obtain ⟨p0, p1, p2, p3⟩ := HX2.out.cells; clear hb2; have tok1 : True := trivial)
          | (clear tok1; go_at_call 116; refine (KB.out _ HX2.out.bel).mono ?_; rintro e w3 ⟨rfl, hb3⟩; have HX3 := Lib.hid (HX2.out.below hb3); obtain ⟨q0, q1, q2, q3⟩ := HX3.out.cells; clear hb3; have tok2 : True := trivial))
            go_roundw
            case rel => exact ⟨k + 1, by omega, by go_num, Lib.hid ⟨HX3.out.bel, HX3.out.box⟩, HZZ⟩
            case measure => simp [intOf]; omega
        · obtain rfl : k = m.bows.length := by omega
          have hz2 := hzz.out
          rw [restW_end] at hz2
          have HZ2 := Lib.hid hz2
          clear hzz hz2
          go_wp2
          go_ret
          exact ⟨ret_i HZ2.out.symm, HW.out.1⟩
end Go.Proofs.YtdlmmbfnmnglaaaGreatDoor

namespace Go.Proofs.YtdlmmbfnmnglaaaGreatDoor

structure Chs where
  mdl : Mdl
  bows : List Int
  over : Int
  done : Int
  need : Int
  ord : List Int
structure Cst where
  ball : Int
  need : Int
  str : Int
  par : Int
  nxt : Int
def noCst : Cst := ⟨0, 0, 0, 0, 0⟩
def plansF (n : Int) : List Int → Int
  | [] => 0
  | b :: l => if b < 0 ∨ n ≤ b then 1 else plansF n l
def ordF (n : Int) : List Int → List Int → Int
  | _, [] => 0
  | pre, b :: l => if b < 0 ∨ n ≤ b then 1 else if b ∈ pre then 7 else ordF n (pre ++ [b]) l
def rangeC (c : Chs) : Bool := decide (c.over < 4) || decide (8 < c.over) || decide (c.done < 0) || decide (c.over ≤ c.done) || decide (c.need < 1) || decide (84 < c.need)
def checkC (c : Chs) : Int :=
  if checkM c.mdl ≠ 0 then checkM c.mdl
  else if c.bows.length = 0 then 6
  else if 12 < c.bows.length then 9
  else if plansF c.mdl.bows.length c.bows ≠ 0 then plansF c.mdl.bows.length c.bows
  else if rangeC c = true then 2
  else if c.ord.length < 2 ∨ 11 < c.ord.length then 9
  else ordF c.mdl.bats.length [] c.ord
def startC (c : Chs) : Cst × Int := if checkC c ≠ 0 then (noCst, checkC c) else (⟨0, c.need, 0, 1, 2⟩, 0)
def outC (c : Chs) (s : Cst) : Bool := !(inC s.ball 0 c.bows.length) || !(inC s.need 0 c.need) || !(inC s.nxt 2 c.ord.length) || !(inC s.str (-1) (s.nxt - 1)) || !(inC s.par 0 (s.nxt - 1))
where inC (n lo hi : Int) : Bool := decide (lo ≤ n) && decide (n ≤ hi)
def stateC (c : Chs) (s : Cst) : Int :=
  if outC c s = true then 2 else if s.str = s.par ∨ (s.str = -1 ∧ s.nxt < c.ord.length) then 1 else 0
def chstC (c : Chs) (s : Cst) : Int := if checkC c ≠ 0 then checkC c else stateC c s
def stC (c : Chs) (s : Cst) : Int := if s.need = 0 then 2 else if s.str < 0 ∨ s.ball = c.bows.length then 3 else 1
/-- The outcomes of the next ball of a running state. -/
def mvC (c : Chs) (s : Cst) : List Otc := match c.ord[s.str.toNat]?, c.bows[s.ball.toNat]? with
  | some i, some j => match c.mdl.bats[i.toNat]?, c.mdl.bows[j.toNat]? with
    | some b, some w => (shiftS b.dist w.shift).1
    | _, _ => []
  | _, _ => []
def swapC (c : Chs) (ball : Int) (o : Otc) : Bool := decide (o.runs % 2 = 1) != decide ((c.done + ball) % c.over = 0)
def stepC (c : Chs) (s : Cst) (o : Otc) : Cst :=
  if o.wick = true then
    if s.nxt = c.ord.length then ⟨s.ball + 1, max (s.need - o.runs) 0, -1, s.par, s.nxt⟩
    else if swapC c (s.ball + 1) o = true then ⟨s.ball + 1, max (s.need - o.runs) 0, s.par, s.nxt, s.nxt + 1⟩ else ⟨s.ball + 1, max (s.need - o.runs) 0, s.nxt, s.par, s.nxt + 1⟩
  else if swapC c (s.ball + 1) o = true then ⟨s.ball + 1, max (s.need - o.runs) 0, s.par, s.str, s.nxt⟩ else ⟨s.ball + 1, max (s.need - o.runs) 0, s.str, s.par, s.nxt⟩
def pow16 : Nat → Int
  | 0 => 1
  | n + 1 => 16 * pow16 n
/-- The value of a state with n balls to come. -/
def chF (c : Chs) : Nat → Cst → Int
  | 0, s => if s.need = 0 then 1 else 0
  | n + 1, s => if s.need = 0 then pow16 (n + 1) else if s.str < 0 then 0 else sumI ((mvC c s).map fun o => o.wt * chF c n (stepC c s o))
def leftC (c : Chs) (s : Cst) : Nat := (c.bows.length - s.ball).toNat
def valS (c : Chs) (s : Cst) : Int := chF c (leftC c s) s
def valueC (c : Chs) (s : Cst) : Int × Int := if chstC c s ≠ 0 then (0, chstC c s) else (valS c s, 0)
theorem plansF_ok {n : Int} : ∀ {l : List Int}, plansF n l = 0 → ∀ b ∈ l, 0 ≤ b ∧ b < n
  | [], _, b, hb => by cases hb
  | a :: l, h, b, hb => by
    rw [plansF] at h
    by_cases h1 : a < 0 ∨ n ≤ a
    · rw [if_pos h1] at h; cases h
    · rw [if_neg h1] at h
      rcases List.mem_cons.1 hb with rfl | hb
      · exact ⟨by omega, by omega⟩
      · exact plansF_ok h b hb
theorem ordF_ok {n : Int} : ∀ {l pre : List Int}, ordF n pre l = 0 → ∀ b ∈ l, 0 ≤ b ∧ b < n
  | [], _, _, b, hb => by cases hb
  | a :: l, pre, h, b, hb => by
    rw [ordF] at h
    by_cases h1 : a < 0 ∨ n ≤ a
    · rw [if_pos h1] at h; cases h
    · rw [if_neg h1] at h
      by_cases h2 : a ∈ pre
      · rw [if_pos h2] at h; cases h
      · rw [if_neg h2] at h
        rcases List.mem_cons.1 hb with rfl | hb
        · exact ⟨by omega, by omega⟩
        · exact ordF_ok h b hb
structure OkC (c : Chs) : Prop where
  mdl : OkM c.mdl
  chk : checkM c.mdl = 0
  nb : 1 ≤ c.bows.length ∧ c.bows.length ≤ 12
  bow : ∀ b ∈ c.bows, 0 ≤ b ∧ b < c.mdl.bows.length
  over : 4 ≤ c.over ∧ c.over ≤ 8
  done : 0 ≤ c.done ∧ c.done < c.over
  need : 1 ≤ c.need ∧ c.need ≤ 84
  no : 2 ≤ c.ord.length ∧ c.ord.length ≤ 11
  ord : ∀ b ∈ c.ord, 0 ≤ b ∧ b < c.mdl.bats.length
theorem checkC_ok {c : Chs} (h : checkC c = 0) : OkC c := by
  unfold checkC at h
  by_cases h1 : checkM c.mdl ≠ 0
  · rw [if_pos h1] at h; exact absurd h h1
  rw [if_neg h1] at h
  by_cases h2 : c.bows.length = 0
  · rw [if_pos h2] at h; cases h
  rw [if_neg h2] at h
  by_cases h3 : 12 < c.bows.length
  · rw [if_pos h3] at h; cases h
  rw [if_neg h3] at h
  by_cases h4 : plansF c.mdl.bows.length c.bows ≠ 0
  · rw [if_pos h4] at h; exact absurd h h4
  rw [if_neg h4] at h
  by_cases h5 : rangeC c = true
  · rw [if_pos h5] at h; cases h
  rw [if_neg h5] at h
  by_cases h6 : c.ord.length < 2 ∨ 11 < c.ord.length
  · rw [if_pos h6] at h; cases h
  rw [if_neg h6] at h
  unfold rangeC at h5
  simp only [Bool.or_eq_true, decide_eq_true_eq, not_or] at h5
  have h1' : checkM c.mdl = 0 := by omega
  exact ⟨checkM_ok h1', h1', by omega, plansF_ok (by omega), by omega, by omega, by omega, by omega, ordF_ok h⟩
structure OkS (c : Chs) (s : Cst) : Prop where
  ball : 0 ≤ s.ball ∧ s.ball ≤ c.bows.length
  need : 0 ≤ s.need ∧ s.need ≤ c.need
  nxt : 2 ≤ s.nxt ∧ s.nxt ≤ c.ord.length
  str : -1 ≤ s.str ∧ s.str < s.nxt
  par : 0 ≤ s.par ∧ s.par < s.nxt
  ne : s.str ≠ s.par
  last : s.str = -1 → s.nxt = c.ord.length
theorem outC_no {c : Chs} {s : Cst} (h : outC c s = false) : (0 ≤ s.ball ∧ s.ball ≤ c.bows.length) ∧ (0 ≤ s.need ∧ s.need ≤ c.need) ∧ (2 ≤ s.nxt ∧ s.nxt ≤ c.ord.length) ∧ (-1 ≤ s.str ∧ s.str < s.nxt) ∧ (0 ≤ s.par ∧ s.par < s.nxt) := by
  unfold outC outC.inC at h
  simp only [Bool.or_eq_false_iff, Bool.not_eq_false', Bool.and_eq_true, decide_eq_true_eq] at h
  omega
theorem outC_yes {c : Chs} {s : Cst} (h : (0 ≤ s.ball ∧ s.ball ≤ c.bows.length) ∧ (0 ≤ s.need ∧ s.need ≤ c.need) ∧ (2 ≤ s.nxt ∧ s.nxt ≤ c.ord.length) ∧ (-1 ≤ s.str ∧ s.str < s.nxt) ∧ (0 ≤ s.par ∧ s.par < s.nxt)) : outC c s = false := by
  unfold outC outC.inC
  simp only [Bool.or_eq_false_iff, Bool.not_eq_false', Bool.and_eq_true, decide_eq_true_eq]
  omega
theorem stateC_ok {c : Chs} {s : Cst} : stateC c s = 0 ↔ OkS c s := by
  unfold stateC
  constructor
  · intro h
    by_cases h1 : outC c s = true
    · rw [if_pos h1] at h; cases h
    rw [if_neg h1] at h
    obtain ⟨a1, a2, a3, a4, a5⟩ := outC_no (by simpa using h1)
    by_cases h2 : s.str = s.par ∨ (s.str = -1 ∧ s.nxt < c.ord.length)
    · rw [if_pos h2] at h; cases h
    exact ⟨a1, a2, a3, a4, a5, fun e => h2 (.inl e), fun e => by
      rcases Classical.em (s.nxt < c.ord.length) with h3 | h3
      · exact absurd (.inr ⟨e, h3⟩) h2
      · omega⟩
  · intro h
    have h1 : outC c s = false := outC_yes ⟨h.ball, h.need, h.nxt, h.str, h.par⟩
    rw [if_neg (by simp [h1]), if_neg]
    rintro (h2 | ⟨h2, h3⟩)
    · exact h.ne h2
    · have := h.last h2; omega
/-- The outcomes of a running state are a distribution. -/
theorem mvC_at {c : Chs} {s : Cst} (h : OkC c) (hs : OkS c s) (h1 : stC c s = 1) : ∃ (i j : Int) (b : Bat) (w : Bow), c.ord[s.str.toNat]? = some i ∧ c.bows[s.ball.toNat]? = some j ∧ 0 ≤ s.str ∧ s.ball < c.bows.length ∧ 0 ≤ i ∧ i < c.mdl.bats.length ∧ 0 ≤ j ∧ j < c.mdl.bows.length ∧ c.mdl.bats[i.toNat]? = some b ∧ c.mdl.bows[j.toNat]? = some w ∧ shiftS b.dist w.shift = (mvC c s, 0) ∧ checkD (mvC c s) = 0 := by
  unfold stC at h1
  by_cases g1 : s.need = 0
  · rw [if_pos g1] at h1; cases h1
  rw [if_neg g1] at h1
  by_cases g2 : s.str < 0 ∨ s.ball = c.bows.length
  · rw [if_pos g2] at h1; cases h1
  have k1 := hs.ball; have k2 := hs.str; have k3 := hs.nxt
  have e1 : s.str.toNat < c.ord.length := by omega
  have e2 : s.ball.toNat < c.bows.length := by omega
  have b1 := h.ord _ (List.getElem_mem e1)
  have b2 := h.bow _ (List.getElem_mem e2)
  have e3 : c.ord[s.str.toNat].toNat < c.mdl.bats.length := by omega
  have e4 : c.bows[s.ball.toNat].toNat < c.mdl.bows.length := by omega
  have q1 := (h.mdl.bat _ (List.getElem_mem e3)).2
  have q2 := (h.mdl.bow _ (List.getElem_mem e4)).2
  have hsh := shift_ok q1 q2.1 q2.2
  have hm : mvC c s = (shiftS c.mdl.bats[c.ord[s.str.toNat].toNat].dist c.mdl.bows[c.bows[s.ball.toNat].toNat].shift).1 := by
    unfold mvC
    rw [List.getElem?_eq_getElem e1, List.getElem?_eq_getElem e2]
    dsimp only
    rw [List.getElem?_eq_getElem e3, List.getElem?_eq_getElem e4]
  refine ⟨_, _, _, _, List.getElem?_eq_getElem e1, List.getElem?_eq_getElem e2, by omega, by omega, b1.1, b1.2, b2.1, b2.2, List.getElem?_eq_getElem e3, List.getElem?_eq_getElem e4, ?_, ?_⟩
  · rw [hm, hsh]
  · rw [hm]; exact (shift_check (by rw [hsh])).1
theorem stepC_ok {c : Chs} {s : Cst} (h : OkC c) (hs : OkS c s) (h1 : stC c s = 1) {o : Otc} (ho : 0 ≤ o.runs) : OkS c (stepC c s o) ∧ (stepC c s o).ball = s.ball + 1 ∧ (stepC c s o).need = max (s.need - o.runs) 0 := by
  obtain ⟨i, j, b, w, _, _, k1, k2, _⟩ := mvC_at h hs h1
  have a1 := hs.ball; have a2 := hs.need; have a3 := hs.nxt; have a4 := hs.str; have a5 := hs.par; have a6 := hs.ne
  have o1 := ho
  have h0 : 0 ≤ max (s.need - o.runs) 0 ∧ max (s.need - o.runs) 0 ≤ c.need := by omega
  unfold stepC
  by_cases hw : o.wick = true
  · rw [if_pos hw]
    by_cases hn : s.nxt = c.ord.length
    · rw [if_pos hn]
      exact ⟨⟨by dsimp only; omega, h0, by dsimp only; omega, by dsimp only; omega, by dsimp only; omega, by dsimp only; omega, fun _ => hn⟩, rfl, rfl⟩
    · rw [if_neg hn]
      by_cases hx : swapC c (s.ball + 1) o = true
      · rw [if_pos hx]
        exact ⟨⟨by dsimp only; omega, h0, by dsimp only; omega, by dsimp only; omega, by dsimp only; omega, by dsimp only; omega, fun e => by dsimp only at e; omega⟩, rfl, rfl⟩
      · rw [if_neg hx]
        exact ⟨⟨by dsimp only; omega, h0, by dsimp only; omega, by dsimp only; omega, by dsimp only; omega, by dsimp only; omega, fun e => by dsimp only at e; omega⟩, rfl, rfl⟩
  · rw [if_neg hw]
    by_cases hx : swapC c (s.ball + 1) o = true
    · rw [if_pos hx]
      exact ⟨⟨by dsimp only; omega, h0, by dsimp only; omega, by dsimp only; omega, by dsimp only; omega, by dsimp only; omega, fun e => by dsimp only at e; omega⟩, rfl, rfl⟩
    · rw [if_neg hx]
      exact ⟨⟨by dsimp only; omega, h0, by dsimp only; omega, by dsimp only; omega, by dsimp only; omega, by dsimp only; omega, fun e => by dsimp only at e; omega⟩, rfl, rfl⟩
theorem sumI_le {α : Type} {f g : α → Int} : ∀ {l : List α}, (∀ x ∈ l, f x ≤ g x) → sumI (l.map f) ≤ sumI (l.map g)
  | [], _ => Int.le_refl _
  | x :: l, h => by
    have h1 := h x (by simp)
    have h2 := sumI_le (l := l) fun y hy => h y (by simp [hy])
    rw [List.map_cons, List.map_cons, sumI_cons, sumI_cons]; omega
theorem sumI_mul {α : Type} (f : α → Int) (k : Int) : ∀ l : List α, sumI (l.map fun x => f x * k) = sumI (l.map f) * k
  | [] => by rw [List.map_nil, List.map_nil, sumI_nil, Int.zero_mul]
  | x :: l => by rw [List.map_cons, List.map_cons, sumI_cons, sumI_cons, sumI_mul f k l, Int.add_mul]
theorem pow16_pos : ∀ n, 1 ≤ pow16 n
  | 0 => Int.le_refl _
  | n + 1 => by have := pow16_pos n; rw [pow16]; omega
theorem pow16_unit : ∀ n, pow16 n = unitV n
  | 0 => rfl
  | n + 1 => by rw [pow16, pow16_unit n, unitV_add, unitV_one, Int.mul_comm]
/-- Values lie from 0 to 16 to the power of the balls to come; fewer runs wanted never give less. -/
theorem chF_law {c : Chs} (h : OkC c) : ∀ (n : Nat) (s t : Cst), OkS c s → OkS c t → (c.bows.length : Int) - s.ball = n → t.ball = s.ball → t.str = s.str → t.par = s.par → t.nxt = s.nxt → t.need ≤ s.need →
    0 ≤ chF c n s ∧ chF c n s ≤ pow16 n ∧ chF c n s ≤ chF c n t
  | 0, s, t, hs, ht, hn, e1, e2, e3, e4, e5 => by
    rw [chF, chF, pow16]
    have := ht.need.1
    by_cases h1 : s.need = 0
    · rw [if_pos h1, if_pos (by omega)]; omega
    · rw [if_neg h1]; split <;> omega
  | n + 1, s, t, hs, ht, hn, e1, e2, e3, e4, e5 => by
    have hp := pow16_pos (n + 1)
    have bound : ∀ x : Cst, OkS c x → (c.bows.length : Int) - x.ball = ((n + 1 : Nat) : Int) → 0 ≤ chF c (n + 1) x ∧ chF c (n + 1) x ≤ pow16 (n + 1) := fun x hx hxn => by
      rw [chF]
      by_cases h1 : x.need = 0
      · rw [if_pos h1]; omega
      rw [if_neg h1]
      by_cases h2 : x.str < 0
      · rw [if_pos h2]; omega
      rw [if_neg h2]
      have hst : stC c x = 1 := by unfold stC; rw [if_neg h1, if_neg (by omega)]
      obtain ⟨_, _, _, _, _, _, _, _, _, _, _, _, _, _, _, hd⟩ := mvC_at h hx hst
      have hok := checkD_ok hd
      have hv : ∀ o ∈ mvC c x, 0 ≤ chF c n (stepC c x o) ∧ chF c n (stepC c x o) ≤ pow16 n := fun o ho => by
        obtain ⟨k1, k2, _⟩ := stepC_ok h hx hst (hok.each o ho).r0
        have := chF_law h n (stepC c x o) (stepC c x o) k1 k1 (by rw [k2]; push_cast at hxn; omega) rfl rfl rfl rfl (Int.le_refl _)
        exact ⟨this.1, this.2.1⟩
      constructor
      · have := sumI_le (f := fun _ => 0) (g := fun o => o.wt * chF c n (stepC c x o)) (l := mvC c x) fun o ho => Int.mul_nonneg (by have := (hok.each o ho).w1; omega) (hv o ho).1
        have e0 : sumI ((mvC c x).map fun _ => (0 : Int)) = 0 := by
          generalize mvC c x = l
          induction l with
          | nil => rfl
          | cons a l ih => rw [List.map_cons, sumI_cons, ih]; rfl
        omega
      · have := sumI_le (f := fun o => o.wt * chF c n (stepC c x o)) (g := fun o => o.wt * pow16 n) (l := mvC c x) fun o ho => Int.mul_le_mul_of_nonneg_left (hv o ho).2 (by have := (hok.each o ho).w1; omega)
        rw [sumI_mul (fun o : Otc => o.wt) (pow16 n), hok.sum] at this
        rw [pow16]; exact this
    refine ⟨(bound s hs hn).1, (bound s hs hn).2, ?_⟩
    have htn : (c.bows.length : Int) - t.ball = ((n + 1 : Nat) : Int) := by omega
    by_cases h1 : t.need = 0
    · have e : chF c (n + 1) t = pow16 (n + 1) := by rw [chF, if_pos h1]
      rw [e]; exact (bound s hs hn).2
    · have g1 : s.need ≠ 0 := by have := ht.need.1; omega
      rw [chF, chF, if_neg h1, if_neg g1]
      by_cases h2 : s.str < 0
      · rw [if_pos h2, if_pos (by omega)]; exact Int.le_refl _
      rw [if_neg h2, if_neg (by omega)]
      have hst : stC c s = 1 := by unfold stC; rw [if_neg g1, if_neg (by omega)]
      have htt : stC c t = 1 := by unfold stC; rw [if_neg h1, if_neg (by omega)]
      obtain ⟨_, _, _, _, _, _, _, _, _, _, _, _, _, _, _, hd⟩ := mvC_at h hs hst
      have hok := checkD_ok hd
      have em : mvC c t = mvC c s := by unfold mvC; rw [e1, e2]
      rw [em]
      refine sumI_le fun o ho => Int.mul_le_mul_of_nonneg_left ?_ (by have := (hok.each o ho).w1; omega)
      obtain ⟨k1, k2, k3⟩ := stepC_ok h hs hst (hok.each o ho).r0
      obtain ⟨l1, l2, l3⟩ := stepC_ok h ht htt (hok.each o ho).r0
      have same : (stepC c t o).str = (stepC c s o).str ∧ (stepC c t o).par = (stepC c s o).par ∧ (stepC c t o).nxt = (stepC c s o).nxt := by
        unfold stepC
        rw [e1, e4]
        split
        · split
          · exact ⟨rfl, e3, rfl⟩
          · split
            · exact ⟨e3, rfl, rfl⟩
            · exact ⟨rfl, e3, rfl⟩
        · split
          · exact ⟨e3, e2, rfl⟩
          · exact ⟨e2, e3, rfl⟩
      exact (chF_law h n (stepC c s o) (stepC c t o) k1 l1 (by rw [k2]; push_cast at hn; omega) (by rw [l2, k2, e1]) same.1 same.2.1 same.2.2 (by rw [l3, k3]; omega)).2.2
end Go.Proofs.YtdlmmbfnmnglaaaGreatDoor

namespace Go.Proofs.YtdlmmbfnmnglaaaGreatDoor

/-- What is left of a check: behind the model and the number of balls; behind the bowlers; the order from k on. -/
def tailC (c : Chs) : Int := if rangeC c = true then 2 else if c.ord.length < 2 ∨ 11 < c.ord.length then 9 else ordF c.mdl.bats.length [] c.ord
def restP (c : Chs) (k : Nat) : Int := if plansF c.mdl.bows.length (c.bows.drop k) ≠ 0 then plansF c.mdl.bows.length (c.bows.drop k) else tailC c
def restO (c : Chs) (k : Nat) : Int := ordF c.mdl.bats.length (c.ord.take k) (c.ord.drop k)
theorem checkC_rest {c : Chs} (h1 : checkM c.mdl = 0) (h2 : c.bows.length ≠ 0) (h3 : ¬ 12 < c.bows.length) : checkC c = restP c 0 := by
  unfold checkC restP tailC
  rw [if_neg (by omega), if_neg h2, if_neg h3]; rfl
theorem restP_at {c : Chs} {k : Nat} (hk : k < c.bows.length) : restP c k = if c.bows[k] < 0 ∨ (c.mdl.bows.length : Int) ≤ c.bows[k] then 1 else restP c (k + 1) := by
  unfold restP
  rw [List.drop_eq_getElem_cons hk, plansF]
  by_cases h : c.bows[k] < 0 ∨ (c.mdl.bows.length : Int) ≤ c.bows[k]
  · rw [if_pos h, if_pos h]; rfl
  · rw [if_neg h, if_neg h]
theorem restP_end {c : Chs} : restP c c.bows.length = tailC c := by
  unfold restP
  rw [List.drop_of_length_le (Nat.le_refl _), plansF, if_neg (by simp)]
theorem tailC_rest {c : Chs} (h1 : rangeC c = false) (h2 : ¬ (c.ord.length < 2 ∨ 11 < c.ord.length)) : tailC c = restO c 0 := by
  unfold tailC restO
  rw [if_neg (by simp [h1]), if_neg h2]; simp
theorem restO_at {c : Chs} {k : Nat} (hk : k < c.ord.length) : restO c k = if c.ord[k] < 0 ∨ (c.mdl.bats.length : Int) ≤ c.ord[k] then 1 else if c.ord[k] ∈ c.ord.take k then 7 else restO c (k + 1) := by
  unfold restO
  rw [List.drop_eq_getElem_cons hk, ordF, show c.ord.take (k + 1) = c.ord.take k ++ [c.ord[k]] by rw [List.take_add_one, List.getElem?_eq_getElem hk]; rfl]
theorem restO_end {c : Chs} : restO c c.ord.length = 0 := by
  unfold restO
  rw [List.drop_of_length_le (Nat.le_refl _), ordF]
/-- The ways through the ranges of a chase. -/
theorem rangeC_ways (c : Chs) : (rangeC c = true ∧ (c.over < 4 ∨ (¬ c.over < 4 ∧ 8 < c.over) ∨ (¬ c.over < 4 ∧ ¬ 8 < c.over ∧ c.done < 0) ∨ (¬ c.over < 4 ∧ ¬ 8 < c.over ∧ ¬ c.done < 0 ∧ c.over ≤ c.done) ∨ (¬ c.over < 4 ∧ ¬ 8 < c.over ∧ ¬ c.done < 0 ∧ ¬ c.over ≤ c.done ∧ c.need < 1) ∨ (¬ c.over < 4 ∧ ¬ 8 < c.over ∧ ¬ c.done < 0 ∧ ¬ c.over ≤ c.done ∧ ¬ c.need < 1 ∧ 84 < c.need))) ∨
    (rangeC c = false ∧ ¬ c.over < 4 ∧ ¬ 8 < c.over ∧ ¬ c.done < 0 ∧ ¬ c.over ≤ c.done ∧ ¬ c.need < 1 ∧ ¬ 84 < c.need) := by
  unfold rangeC
  by_cases h1 : c.over < 4
  · exact .inl ⟨by simp [h1], .inl h1⟩
  by_cases h2 : 8 < c.over
  · exact .inl ⟨by simp [h2], .inr (.inl ⟨h1, h2⟩)⟩
  by_cases h3 : c.done < 0
  · exact .inl ⟨by simp [h3], .inr (.inr (.inl ⟨h1, h2, h3⟩))⟩
  by_cases h4 : c.over ≤ c.done
  · exact .inl ⟨by simp [h4], .inr (.inr (.inr (.inl ⟨h1, h2, h3, h4⟩)))⟩
  by_cases h5 : c.need < 1
  · exact .inl ⟨by simp [h5], .inr (.inr (.inr (.inr (.inl ⟨h1, h2, h3, h4, h5⟩))))⟩
  by_cases h6 : 84 < c.need
  · exact .inl ⟨by simp [h6], .inr (.inr (.inr (.inr (.inr ⟨h1, h2, h3, h4, h5, h6⟩))))⟩
  exact .inr ⟨by simp [h1, h2, h3, h4, h5, h6], h1, h2, h3, h4, h5, h6⟩
theorem chst_ok {c : Chs} {s : Cst} (h : chstC c s = 0) : checkC c = 0 ∧ OkC c ∧ OkS c s := by
  unfold chstC at h
  by_cases h4 : checkC c ≠ 0
  · rw [if_pos h4] at h; exact absurd h h4
  rw [if_neg h4] at h
  exact ⟨by omega, checkC_ok (by omega), stateC_ok.1 h⟩
theorem stC_bd (c : Chs) (s : Cst) : 1 ≤ stC c s ∧ stC c s ≤ 3 := by unfold stC; split; omega; split <;> omega
/-- The value of a state, by its status. -/
theorem valS_won {c : Chs} {s : Cst} (h : stC c s = 2) : valS c s = pow16 (leftC c s) := by
  have hn : s.need = 0 := by
    unfold stC at h
    by_cases h1 : s.need = 0
    · exact h1
    · rw [if_neg h1] at h; split at h <;> cases h
  unfold valS
  cases leftC c s with
  | zero => rw [chF, if_pos hn]; rfl
  | succ n => rw [chF, if_pos hn]
theorem valS_lost {c : Chs} {s : Cst} (hs : OkS c s) (h : stC c s = 3) : valS c s = 0 := by
  unfold stC at h
  by_cases h1 : s.need = 0
  · rw [if_pos h1] at h; cases h
  rw [if_neg h1] at h
  by_cases h2 : s.str < 0 ∨ s.ball = c.bows.length
  · unfold valS
    cases hl : leftC c s with
    | zero => rw [chF, if_neg h1]
    | succ n =>
      rw [chF, if_neg h1]
      rcases h2 with h2 | h2
      · rw [if_pos h2]
      · unfold leftC at hl; omega
  · rw [if_neg h2] at h; cases h
theorem left_run {c : Chs} {s : Cst} (hs : OkS c s) (h : stC c s = 1) : s.need ≠ 0 ∧ ¬ s.str < 0 ∧ ∃ n, leftC c s = n + 1 ∧ (c.bows.length : Int) - s.ball = ((n + 1 : Nat) : Int) := by
  unfold stC at h
  by_cases h1 : s.need = 0
  · rw [if_pos h1] at h; cases h
  rw [if_neg h1] at h
  by_cases h2 : s.str < 0 ∨ s.ball = c.bows.length
  · rw [if_pos h2] at h; cases h
  have := hs.ball
  exact ⟨h1, by omega, (c.bows.length - s.ball).toNat - 1, by unfold leftC; omega, by omega⟩
theorem valS_run {c : Chs} {s : Cst} (hc : OkC c) (hs : OkS c s) (h : stC c s = 1) : valS c s = sumI ((mvC c s).map fun o => o.wt * valS c (stepC c s o)) := by
  obtain ⟨h1, h2, n, hn, hn2⟩ := left_run hs h
  obtain ⟨_, _, _, _, _, _, _, _, _, _, _, _, _, _, _, hd⟩ := mvC_at hc hs h
  have hok := checkD_ok hd
  have e : valS c s = chF c (n + 1) s := by unfold valS; rw [hn]
  rw [e, chF, if_neg h1, if_neg h2]
  congr 1
  refine List.map_congr_left fun o ho => ?_
  obtain ⟨_, k2, _⟩ := stepC_ok hc hs h (hok.each o ho).r0
  unfold valS leftC
  rw [k2, show ((c.bows.length : Int) - (s.ball + 1)).toNat = n by push_cast at hn2; omega]
theorem left_step {c : Chs} {s : Cst} {o : Otc} (hc : OkC c) (hs : OkS c s) (h : stC c s = 1) (ho : 0 ≤ o.runs) : leftC c s = leftC c (stepC c s o) + 1 := by
  obtain ⟨h1, h2, n, hn, hn2⟩ := left_run hs h
  obtain ⟨_, k2, _⟩ := stepC_ok hc hs h ho
  unfold leftC at hn ⊢
  rw [k2]; push_cast at hn2; omega
theorem left_le {c : Chs} {s : Cst} (hc : OkC c) (hs : OkS c s) : leftC c s ≤ 12 := by
  have := hc.nb; have := hs.ball
  unfold leftC; omega
theorem valS_bd {c : Chs} {s : Cst} (hc : OkC c) (hs : OkS c s) : 0 ≤ valS c s ∧ valS c s ≤ pow16 (leftC c s) := by
  have := hs.ball
  have := chF_law hc (leftC c s) s s hs hs (by unfold leftC; omega) rfl rfl rfl rfl (Int.le_refl _)
  exact ⟨this.1, this.2.1⟩
theorem pow16_le {n : Nat} (h : n ≤ 12) : 1 ≤ pow16 n ∧ pow16 n ≤ 281474976710656 := by rw [pow16_unit]; exact unitV_le h
/-- Sums of the first k products. -/
theorem sum_take {α : Type} (f : α → Int) {l : List α} {k : Nat} (hk : k < l.length) : sumI ((l.take (k + 1)).map f) = sumI ((l.take k).map f) + f l[k] := by
  rw [List.take_add_one, List.getElem?_eq_getElem hk, List.map_append, sumI_app]
  show _ = _
  simp [sumI_cons, sumI_nil]
end Go.Proofs.YtdlmmbfnmnglaaaGreatDoor

namespace Go.Proofs.YtdlmmbfnmnglaaaGreatDoor
open Go.RowKit

/-- A chase that lies: its four slices. -/
structure ChAt (w : World) (F : Nat → Prop) (bv wv pv ov : Value) (c : Chs) : Prop where
  mdl : MdlAt w F bv wv c.mdl
  bow : Sl 1 elInt w F pv c.bows
  ord : Sl 1 elInt w F ov c.ord
def chC (c : Chs) (bv wv pv ov : Value) : Array Value := #[bv, wv, pv, .int .i64 c.over, .int .i64 c.done, .int .i64 c.need, ov]
def chV (c : Chs) (bv wv pv ov : Value) : Value := .agg #[bv, wv, pv, .int .i64 c.over, .int .i64 c.done, .int .i64 c.need, ov]
def stV (s : Cst) : Value := .agg #[.int .i64 s.ball, .int .i64 s.need, .int .i64 s.str, .int .i64 s.par, .int .i64 s.nxt]
theorem ChAt.keep {w w' : World} {F G : Nat → Prop} {bv wv pv ov : Value} {c : Chs} (h : ChAt w F bv wv pv ov c) (hs : Same F w w') (hG : ∀ b, F b → G b) : ChAt w' G bv wv pv ov c := ⟨h.mdl.keep hs hG, h.bow.keep elInt_good hs hG, h.ord.keep elInt_good hs hG⟩
theorem ChAt.below {w w' : World} {bv wv pv ov : Value} {c : Chs} (h : ChAt w (· < w.heap.size) bv wv pv ov c) (hb : Below w.heap.size w w') : ChAt w' (· < w'.heap.size) bv wv pv ov c :=
  h.keep (Same.of_below hb) fun b h => Nat.lt_of_lt_of_le h hb.size
/-- A chase boxed in block g. -/
structure ChB (w W : World) (g : Nat) (c : Chs) (bv wv pv ov : Value) : Prop where
  bel : Below w.heap.size w W
  box : Blk W g 28 #[bv, wv, pv, .int .i64 c.over, .int .i64 c.done, .int .i64 c.need, ov]
theorem ChB.below {w W W' : World} {g : Nat} {c : Chs} {bv wv pv ov : Value} (h : ChB w W g c bv wv pv ov) (hb : Below W.heap.size W W') : ChB w W' g c bv wv pv ov := ⟨h.bel.trans (hb.mono h.bel.size), h.box.below hb h.box.lt⟩
theorem ChB.drew {w W : World} {g : Nat} {c : Chs} {bv wv pv ov : Value} (h : ChB w W g c bv wv pv ov) : ChB w W.drew g c bv wv pv ov := ⟨Below.drew h.bel, h.box.drew⟩
theorem ChB.alloc {w W : World} {g : Nat} {c : Chs} {bv wv pv ov : Value} (h : ChB w W g c bv wv pv ov) (o : Obj) : ChB w (W.alloc o) g c bv wv pv ov := ⟨h.bel.alloc h.bel.size _, h.box.alloc _⟩
theorem ChB.cells {w W : World} {g : Nat} {c : Chs} {bv wv pv ov : Value} (h : ChB w W g c bv wv pv ov) : W.cell? ⟨g, 0, none⟩ = some bv ∧ W.cell? ⟨g, 1, none⟩ = some wv ∧ W.cell? ⟨g, 2, none⟩ = some pv ∧ W.cell? ⟨g, 3, none⟩ = some (.int .i64 c.over) ∧ W.cell? ⟨g, 4, none⟩ = some (.int .i64 c.done) ∧ W.cell? ⟨g, 5, none⟩ = some (.int .i64 c.need) ∧ W.cell? ⟨g, 6, none⟩ = some ov :=
  ⟨h.box.cell 0, h.box.cell 1, h.box.cell 2, h.box.cell 3, h.box.cell 4, h.box.cell 5, h.box.cell 6⟩
theorem ChB.new (w : World) (c : Chs) (bv wv pv ov : Value) : ChB w (w.alloc (.cells #[bv, wv, pv, .int .i64 c.over, .int .i64 c.done, .int .i64 c.need, ov] 28)) w.heap.size c bv wv pv ov := ⟨Below.alloc (Below.refl _ _) (Nat.le_refl _) _, Blk.new _ _ _⟩
/-- The place of a number in a list, -1 where it is not. -/
def idxI (x : Int) : List Int → Nat → Int
  | [], _ => -1
  | a :: l, k => if a = x then (k : Int) else idxI x l (k + 1)
theorem idxI_mem (x : Int) : ∀ (l : List Int) (k : Nat), -1 ≤ idxI x l k ∧ (decide (0 ≤ idxI x l k) = decide (x ∈ l))
  | [], k => ⟨by simp [idxI], by simp [idxI]⟩
  | a :: l, k => by
    rw [idxI]
    by_cases h : a = x
    · rw [if_pos h]; exact ⟨by omega, by simp [h]⟩
    · rw [if_neg h]
      have := idxI_mem x l (k + 1)
      refine ⟨this.1, ?_⟩
      rw [this.2]
      have hx : (x ∈ a :: l) = (x ∈ l) := by rw [List.mem_cons]; exact propext ⟨fun k => k.elim (fun e => absurd e.symm h) id, .inr⟩
      simp only [hx]
set_option maxRecDepth 100000 in
set_option maxHeartbeats 2000000 in
theorem int_Index (l : List Int) (v : Value) (x : Int) (F : Nat → Prop) (w : World) (h : Sl 1 elInt w F v l) (hF : ∀ b, F b → b < w.heap.size) :
    Calls Tryz.prog 143 #[v, .int .i64 x] w fun e w' => e = .returned (.int .i64 (idxI x l 0)) ∧ Below w.heap.size w w' := by
  obtain ⟨z, hz⟩ : ∃ z, z = idxI x l 0 := ⟨_, rfl⟩
  rw [← hz]
  obtain ⟨A, c, rfl, hc, hc2⟩ := h.shape
  have HZ : Hid (z = idxI x (l.drop 0) 0) := hz
  have HL := Lib.hid h
  have HB := Lib.hid (Below.refl w.heap.size w)
  have HF := Lib.hid hF
  clear hz h hF
  go_enter Tryz.func143, Tryz.ntmps143
  go_wp2
  go_loopw [8] (fun i wr => ∃ k : Nat, k ≤ l.length ∧ i = .int .i64 k ∧ Below w.heap.size w wr ∧ Hid (z = idxI x (l.drop k) k)) (fun i _ => l.length - (intOf i).toNat)
  case atStart => exact ⟨0, Nat.zero_le _, rfl, HB.out, HZ⟩
  case round =>
    obtain ⟨k, hk, rfl, hb, hzz⟩ := hrel
    have HBB := Lib.hid hb
    by_cases hlt : k < l.length
    · obtain ⟨b0, o, rfl, hbl, yy0⟩ := int_at HL.out hlt
      have y0 := (hb.cell (p := ⟨b0, o + k, none⟩) (HF.out _ hbl)).trans yy0
      have hz2 := hzz.out
      rw [drop_get hlt, idxI] at hz2
      obtain ⟨p, hp⟩ : ∃ p, p = l[k] := ⟨_, rfl⟩
      rw [← hp] at hz2 y0
      clear hb hzz hp yy0
      by_cases hin : p = x
      · rw [if_pos hin] at hz2
        have e1 : (x == p) = true := beq_iff_eq.2 hin.symm
        have e2 : (p == x) = true := beq_iff_eq.2 hin
        have HZZ := Lib.hid hz2
        clear hz2 hin
        go_wp2
        go_ret
        exact ⟨ret_i HZZ.out.symm, HBB.out⟩
      · rw [if_neg hin] at hz2
        have e1 : (x == p) = false := beq_eq_false_iff_ne.2 (fun e => hin e.symm)
        have e2 : (p == x) = false := beq_eq_false_iff_ne.2 hin
        have HZZ := Lib.hid hz2
        clear hz2 hin
        go_wp2
        go_roundw
        case rel => exact ⟨k + 1, by omega, by go_num, HBB.out, HZZ⟩
        case measure => simp [intOf]; omega
    · obtain rfl : k = l.length := by omega
      have hz2 := hzz.out
      rw [List.drop_of_length_le (Nat.le_refl _), idxI] at hz2
      have HZZ := Lib.hid hz2
      clear hb hzz hz2
      go_wp2
      go_ret
      exact ⟨ret_i HZZ.out.symm, HBB.out⟩
set_option maxRecDepth 100000 in
theorem int_Contains (l : List Int) (v : Value) (x : Int) (F : Nat → Prop) (w : World) (h : Sl 1 elInt w F v l) (hF : ∀ b, F b → b < w.heap.size) :
    Calls Tryz.prog 109 #[v, .int .i64 x] w fun e w' => e = .returned (.bool (decide (x ∈ l))) ∧ Below w.heap.size w w' := by
  have hk := int_Index l v x F w h hF
  have hm := idxI_mem x l 0
  obtain ⟨i, hi⟩ : ∃ i, i = idxI x l 0 := ⟨_, rfl⟩
  rw [← hi] at hk hm
  have HM := Lib.hid hm.2
  have HK := Lib.hid hk
  obtain ⟨A, c, rfl, hc, hc2⟩ := h.shape
  clear hk hm hi h hF
  go_enter Tryz.func109, Tryz.ntmps109
  go_wp2_with (go_at_call 143; refine HK.out.mono ?_; rintro e w2 ⟨rfl, hb2⟩)
  go_ret
  exact ⟨ret_b HM.out, hb2⟩
end Go.Proofs.YtdlmmbfnmnglaaaGreatDoor

namespace Go.Proofs.YtdlmmbfnmnglaaaGreatDoor
open Go.ChangeShapes Go.WideShapes Go.ChangeAt Go.RowKit

theorem cellsCha : Tryz.prog.cellsOf 28 = 7 := by kernel_rfl
theorem cellsIs : Tryz.prog.cellsOf 26 = 1 := by kernel_rfl
section
variable {H : Type} {enc : TypeId × Value → H} {W : World}
set_option maxRecDepth 100000 in
theorem int_one8 {F : Nat → Prop} {fuel : Nat} {held : Bool} {cs : List Value} {x : DataW H × List MemPlace} (h : DataW.trod enc Tryz.prog W 0 (fun _ => true) held fuel 3 cs = some x) :
    ∃ f : Int, elInt W F cs f := by
  obtain ⟨a, e, _, _⟩ := DataW.trod_int Tryz.underlying3 h
  exact ⟨a, e⟩
set_option maxRecDepth 100000 in
theorem mdl_raw {fuel : Nat} {held : Bool} {cs : List Value} {x : DataW H × List MemPlace} (h : DataW.trod enc Tryz.prog W 0 (fun _ => true) held fuel 25 cs = some x) :
    ∃ (m : Mdl) (bv wv : Value), cs = [bv, wv] ∧ MdlAt W (· < W.heap.size) bv wv m := by
  obtain ⟨ys, n, _, rfl, hc, hl, hf⟩ := DataW.trod_struct Tryz.underlying25 h
  rw [cellsMdl] at hc
  match cs, hc with
  | [c0, c1], _ =>
    match ys, hl with
    | [z0, z1], _ =>
      have k0 := hf 0 _ rfl
      have k1 := hf 1 _ rfl
      obtain ⟨vb, lb, e0, hb⟩ := sl_raw (size := 2) (el := elBat) Tryz.underlying22 cellsBat (by decide) (fun h => bat_one h) k0
      obtain ⟨vw, lw, e1, hw⟩ := sl_raw (size := 2) (el := elBow) Tryz.underlying23 cellsBow (by decide) (fun h => bow_one h) k1
      have g0 : c0 = vb := by simpa [Value.cells, cellsBats, cellsBows] using e0
      have g1 : c1 = vw := by simpa [Value.cells, cellsBats, cellsBows] using e1
      subst g0 g1
      exact ⟨⟨lb, lw⟩, _, _, rfl, hb, hw⟩
set_option maxRecDepth 100000 in
/-- A chase that came in. -/
theorem open_chase {r : Reach} {b0 : Nat} {v : Value} {d : DataW H} {p : List MemPlace} (hv : Value.okWide Tryz.prog W r b0 28 v) (h : DataW.Trod enc Tryz.prog W 0 (fun _ => true) true 28 v d p) :
    ∃ (c : Chs) (bv wv pv ov : Value), v = chV c bv wv pv ov ∧ ChAt W (· < W.heap.size) bv wv pv ov c := by
  obtain ⟨cs, rfl, hsz⟩ := okWide_struct Tryz.underlying28 hv
  obtain ⟨fuel, hf⟩ := h
  obtain ⟨l⟩ := cs
  match l, hsz.trans cellsCha with
  | [c0, c1, c2, c3, c4, c5, c6], _ =>
    obtain ⟨ys, n, _, _, _, hl, hf⟩ := DataW.trod_struct Tryz.underlying28 hf
    match ys, hl with
    | [z0, z1, z2, z3, z4, z5], _ =>
      have k0 := hf 0 _ rfl
      have k1 := hf 1 _ rfl
      have k2 := hf 2 _ rfl
      have k3 := hf 3 _ rfl
      have k4 := hf 4 _ rfl
      have k5 := hf 5 _ rfl
      obtain ⟨m, bv, wv, e0, hm⟩ := mdl_raw k0
      obtain ⟨pv, lp, e1, hp⟩ := sl_raw (size := 1) (el := elInt) Tryz.underlying26 cellsI' (by decide) (fun h => int_one8 h) k1
      obtain ⟨a2, e2, _, _⟩ := DataW.trod_int Tryz.underlying3 k2
      obtain ⟨a3, e3, _, _⟩ := DataW.trod_int Tryz.underlying3 k3
      obtain ⟨a4, e4, _, _⟩ := DataW.trod_int Tryz.underlying3 k4
      obtain ⟨ov, lo, e5, ho⟩ := sl_raw (size := 1) (el := elInt) Tryz.underlying26 cellsI' (by decide) (fun h => int_one8 h) k5
      have g0 : c0 = bv ∧ c1 = wv := by simpa [Value.cells, cellsMdl, cellsI', cellsIs] using e0
      have g2 : c2 = pv := by simpa [Value.cells, cellsMdl, cellsI', cellsIs] using e1
      have g3 : c3 = .int .i64 a2 := by simpa [Value.cells, cellsMdl, cellsI', cellsIs] using e2
      have g4 : c4 = .int .i64 a3 := by simpa [Value.cells, cellsMdl, cellsI', cellsIs] using e3
      have g5 : c5 = .int .i64 a4 := by simpa [Value.cells, cellsMdl, cellsI', cellsIs] using e4
      have g6 : c6 = ov := by simpa [Value.cells, cellsMdl, cellsI', cellsIs] using e5
      obtain ⟨g0, g1⟩ := g0
      subst g0 g1 g2 g3 g4 g5 g6
      exact ⟨⟨m, lp, a2, a3, a4, lo⟩, _, _, _, _, rfl, ⟨hm, hp, ho⟩⟩
end
end Go.Proofs.YtdlmmbfnmnglaaaGreatDoor

namespace Go.Proofs.YtdlmmbfnmnglaaaGreatDoor
open Go.RowKit

set_option maxRecDepth 100000 in
set_option maxHeartbeats 4000000 in
theorem ch44_Check (c : Chs) (bv wv pv ov : Value) (w : World) (h : ChAt w (· < w.heap.size) bv wv pv ov c) :
    Calls Tryz.prog 60 #[chV c bv wv pv ov] w fun e w' => e = .returned (.int .i64 (checkC c)) ∧ Below w.heap.size w w' := by
  unfold chV
  obtain ⟨z, hz⟩ : ∃ z, z = checkC c := ⟨_, rfl⟩
  rw [← hz]
  obtain ⟨A, ca, rfl, hc, hc2⟩ := h.mdl.bat.shape
  obtain ⟨A1, ca1, rfl, hc1, hc12⟩ := h.mdl.bow.shape
  obtain ⟨A2, ca2, rfl, hc3, hc32⟩ := h.bow.shape
  obtain ⟨A3, ca3, rfl, hc4, hc42⟩ := h.ord.shape
  have hx := ChB.new w c (.slice A c.mdl.bats.length ca) (.slice A1 c.mdl.bows.length ca1) (.slice A2 c.bows.length ca2) (.slice A3 c.ord.length ca3)
  have km := m_Check c.mdl _ _ _ (h.mdl.below hx.bel)
  have HM := Lib.hid h
  have HX := Lib.hid hx
  have hres := fun h1 h2 h3 => hz.trans (checkC_rest (c := c) h1 h2 h3)
  have hbad : checkM c.mdl ≠ 0 → z = checkM c.mdl := fun h => by rw [hz]; unfold checkC; rw [if_pos h]
  have hno : checkM c.mdl = 0 → c.bows.length = 0 → z = 6 := fun h h2 => by rw [hz]; unfold checkC; rw [if_neg (by omega), if_pos h2]
  have hmany : checkM c.mdl = 0 → c.bows.length ≠ 0 → 12 < c.bows.length → z = 9 := fun h h2 h3 => by rw [hz]; unfold checkC; rw [if_neg (by omega), if_neg h2, if_pos h3]
  obtain ⟨u, hu⟩ : ∃ u, u = checkM c.mdl := ⟨_, rfl⟩
  rw [← hu] at km hres hbad hno hmany
  clear hz h hx hu
  by_cases h0 : u = 0
  case neg =>
    have HZ := Lib.hid (hbad h0)
    have eu : (u != 0) = true := by simp [h0]
    have KM := Lib.hid km
    clear km hres hbad hno hmany h0
    go_enter Tryz.func60, Tryz.ntmps60
    go_wp2_with (go_at_call 80; refine KM.out.mono ?_; rintro e w2 ⟨rfl, hb2⟩; have HX2 := Lib.hid (HX.out.below hb2); obtain ⟨x0, x1, x2, x3, x4, x5, x6⟩ := HX2.out.cells; clear hb2)
    go_ret
    exact ⟨ret_i HZ.out.symm, HX2.out.bel⟩
  subst h0
  have KM := Lib.hid km
  clear km hbad
  by_cases h1 : c.bows.length = 0
  · have HZ := Lib.hid (hno rfl h1)
    have e1 : ((c.bows.length : Int) == 0) = true := beq_iff_eq.2 (by omega)
    have h1' := Lib.hid h1
    clear hres hno hmany h1
    go_enter Tryz.func60, Tryz.ntmps60
    go_wp2_with (go_at_call 80; refine KM.out.mono ?_; rintro e w2 ⟨rfl, hb2⟩; have HX2 := Lib.hid (HX.out.below hb2); obtain ⟨x0, x1, x2, x3, x4, x5, x6⟩ := HX2.out.cells; clear hb2)
    go_ret
    exact ⟨ret_i HZ.out.symm, HX2.out.bel⟩
  have e1 : ((c.bows.length : Int) == 0) = false := beq_eq_false_iff_ne.2 (by omega)
  by_cases h2 : 12 < c.bows.length
  · have HZ := Lib.hid (hmany rfl h1 h2)
    have e2 : (12 : Int) < (c.bows.length : Int) := by omega
    clear hres hno hmany h1 h2
    go_enter Tryz.func60, Tryz.ntmps60
    go_wp2_with (go_at_call 80; refine KM.out.mono ?_; rintro e w2 ⟨rfl, hb2⟩; have HX2 := Lib.hid (HX.out.below hb2); obtain ⟨x0, x1, x2, x3, x4, x5, x6⟩ := HX2.out.cells; clear hb2)
    go_ret
    exact ⟨ret_i HZ.out.symm, HX2.out.bel⟩
  have HZ0 := Lib.hid (hres rfl h1 h2)
  have e2 : ¬ (12 : Int) < (c.bows.length : Int) := by omega
  clear hres hno hmany h1 h2
  go_enter Tryz.func60, Tryz.ntmps60
  go_wp2_with (go_at_call 80; refine KM.out.mono ?_; rintro e w2 ⟨rfl, hb2⟩; have HX2 := Lib.hid (HX.out.below hb2); obtain ⟨x0, x1, x2, x3, x4, x5, x6⟩ := HX2.out.cells; clear hb2)
  go_loopw [27] (fun i wr => ∃ k : Nat, k ≤ c.bows.length ∧ i = .int .i64 k ∧ Hid (ChB w wr w.heap.size c (.slice A c.mdl.bats.length ca) (.slice A1 c.mdl.bows.length ca1) (.slice A2 c.bows.length ca2) (.slice A3 c.ord.length ca3)) ∧ Hid (z = restP c k)) (fun i _ => c.bows.length - (intOf i).toNat)
  case atStart => exact ⟨0, Nat.zero_le _, rfl, HX2, HZ0⟩
  case round =>
    clear HX2 HZ0 x0 x1 x2 x3 x4 x5 x6
    obtain ⟨k, hk, rfl, HW, hzz⟩ := hrel
    obtain ⟨x0, x1, x2, x3, x4, x5, x6⟩ := HW.out.cells
    by_cases hlt : k < c.bows.length
    · obtain ⟨b0, o, rfl, hbl, yy0⟩ := int_at HM.out.bow hlt
      have y0 := (HW.out.bel.cell (p := ⟨b0, o + k, none⟩) hbl).trans yy0
      have hz2 := hzz.out
      rw [restP_at hlt] at hz2
      obtain ⟨p, hp⟩ : ∃ p, p = c.bows[k] := ⟨_, rfl⟩
      rw [← hp] at hz2 y0
      clear hzz hp yy0
      by_cases g1 : p < 0
      · rw [if_pos (.inl g1)] at hz2
        have HZZ := Lib.hid hz2
        clear hz2
        go_wp2
        go_ret
        exact ⟨ret_i HZZ.out.symm, HW.out.bel⟩
      · by_cases g2 : (c.mdl.bows.length : Int) ≤ p
        · rw [if_pos (.inr g2)] at hz2
          have HZZ := Lib.hid hz2
          clear hz2
          go_wp2
          go_ret
          exact ⟨ret_i HZZ.out.symm, HW.out.bel⟩
        · rw [if_neg (by omega)] at hz2
          have HZZ := Lib.hid hz2
          clear hz2
          go_wp2
          go_roundw
          case rel => exact ⟨k + 1, by omega, by go_num, HW, HZZ⟩
          case measure => simp [intOf]; omega
    · obtain rfl : k = c.bows.length := by omega
      have hz2 := hzz.out
      rw [restP_end] at hz2
      have ht2 : rangeC c = true → z = 2 := fun h => by rw [hz2]; unfold tailC; rw [if_pos h]
      have ht9 : rangeC c = false → (c.ord.length < 2 ∨ 11 < c.ord.length) → z = 9 := fun h h2 => by rw [hz2]; unfold tailC; rw [if_neg (by simp [h]), if_pos h2]
      have htr : rangeC c = false → ¬ (c.ord.length < 2 ∨ 11 < c.ord.length) → z = restO c 0 := fun h h2 => hz2.trans (tailC_rest h h2)
      have hw := rangeC_ways c
      obtain ⟨over, hov⟩ : ∃ x, x = c.over := ⟨_, rfl⟩
      obtain ⟨done, hdo⟩ : ∃ x, x = c.done := ⟨_, rfl⟩
      obtain ⟨need, hne⟩ : ∃ x, x = c.need := ⟨_, rfl⟩
      rw [← hov, ← hdo, ← hne] at hw
      rw [← hov] at x3
      rw [← hdo] at x4
      rw [← hne] at x5
      clear hzz hz2 hov hdo hne
      rcases hw with ⟨hr, hw⟩ | ⟨hr, g1, g2, g3, g4, g5, g6⟩
      · have HZZ := Lib.hid (ht2 hr)
        clear ht2 ht9 htr hr
        rcases hw with g1 | ⟨g1, g2⟩ | ⟨g1, g2, g3⟩ | ⟨g1, g2, g3, g4⟩ | ⟨g1, g2, g3, g4, g5⟩ | ⟨g1, g2, g3, g4, g5, g6⟩
        all_goals go_wp2
        all_goals go_ret
        all_goals exact ⟨ret_i HZZ.out.symm, HW.out.bel⟩
      by_cases g7 : c.ord.length < 2
      · have HZZ := Lib.hid (ht9 hr (.inl g7))
        have g7' : (c.ord.length : Int) < 2 := by omega
        clear ht2 ht9 htr hr g7
        go_wp2
        go_ret
        exact ⟨ret_i HZZ.out.symm, HW.out.bel⟩
      by_cases g8 : 11 < c.ord.length
      · have HZZ := Lib.hid (ht9 hr (.inr g8))
        have g7' : ¬ (c.ord.length : Int) < 2 := by omega
        have g8' : (11 : Int) < (c.ord.length : Int) := by omega
        clear ht2 ht9 htr hr g7 g8
        go_wp2
        go_ret
        exact ⟨ret_i HZZ.out.symm, HW.out.bel⟩
      have HZ1 := Lib.hid (htr hr (by omega))
      have g7' : ¬ (c.ord.length : Int) < 2 := by omega
      have g8' : ¬ (11 : Int) < (c.ord.length : Int) := by omega
      have HW1 := HW
      clear ht2 ht9 htr hr g7 g8
      obtain ⟨wo, rfl⟩ : ∃ wo : World, wo = wr := ⟨_, rfl⟩
      go_wp2
      go_loopw [87] (fun i wr => ∃ k : Nat, k ≤ c.ord.length ∧ i = .int .i64 k ∧ Hid (ChB w wr w.heap.size c (.slice A c.mdl.bats.length ca) (.slice A1 c.mdl.bows.length ca1) (.slice A2 c.bows.length ca2) (.slice A3 c.ord.length ca3)) ∧ Hid (z = restO c k)) (fun i _ => c.ord.length - (intOf i).toNat)
      case atStart => exact ⟨0, Nat.zero_le _, rfl, HW1, HZ1⟩
      case round =>
        clear HW1 HZ1 HW x0 x1 x2 x3 x4 x5 x6
        obtain ⟨k, hk, rfl, HW, hzz⟩ := hrel
        obtain ⟨x0, x1, x2, x3, x4, x5, x6⟩ := HW.out.cells
        by_cases hlt : k < c.ord.length
        · obtain ⟨b0, o, rfl, hbl, yy0⟩ := int_at HM.out.ord hlt
          have y0 := (HW.out.bel.cell (p := ⟨b0, o + k, none⟩) hbl).trans yy0
          have hz2 := hzz.out
          rw [restO_at hlt] at hz2
          obtain ⟨p, hp⟩ : ∃ p, p = c.ord[k] := ⟨_, rfl⟩
          rw [← hp] at hz2 y0
          clear hzz hp yy0
          by_cases q1 : p < 0
          · rw [if_pos (.inl q1)] at hz2
            have HZZ := Lib.hid hz2
            clear hz2
            go_wp2
            go_ret
            exact ⟨ret_i HZZ.out.symm, HW.out.bel⟩
          by_cases q2 : (c.mdl.bats.length : Int) ≤ p
          · rw [if_pos (.inr q2)] at hz2
            have HZZ := Lib.hid hz2
            clear hz2
            go_wp2
            go_ret
            exact ⟨ret_i HZZ.out.symm, HW.out.bel⟩
          rw [if_neg (by omega)] at hz2
          have kc : ∀ W, Below w.heap.size w W → Calls Tryz.prog 109 #[.slice (some ⟨b0, o, none⟩) k ca3, .int .i64 p] W fun e W' => e = .returned (.bool (decide (p ∈ c.ord.take k))) ∧ Below W.heap.size W W' := fun W hW => by
            have ht := ((HM.out.below hW).ord.take (k := k) (by omega))
            have hl : (c.ord.take k).length = k := by rw [List.length_take]; omega
            exact int_Contains _ _ p _ W ht fun b h => h
          by_cases q3 : p ∈ c.ord.take k
          · rw [if_pos q3] at hz2
            rw [decide_eq_true q3] at kc
            have KC := Lib.hid kc
            have HZZ := Lib.hid hz2
            clear hz2 kc q3
            go_wp2_with (go_at_call 109; refine (KC.out _ HW.out.bel).mono ?_; rintro e w3 ⟨rfl, hb3⟩; have HX3 := Lib.hid (HW.out.below hb3); clear hb3)
            go_ret
            exact ⟨ret_i HZZ.out.symm, HX3.out.bel⟩
          · rw [if_neg q3] at hz2
            rw [decide_eq_false q3] at kc
            have KC := Lib.hid kc
            have HZZ := Lib.hid hz2
            clear hz2 kc q3
            go_wp2_with (go_at_call 109; refine (KC.out _ HW.out.bel).mono ?_; rintro e w3 ⟨rfl, hb3⟩; have HX3 := Lib.hid (HW.out.below hb3); clear hb3)
            go_roundw
            case rel => exact ⟨k + 1, by omega, by go_num, HX3, HZZ⟩
            case measure => simp [intOf]; omega
        · obtain rfl : k = c.ord.length := by omega
          have hz2 := hzz.out
          rw [restO_end] at hz2
          have HZ2 := Lib.hid hz2
          clear hzz hz2
          go_wp2
          go_ret
          exact ⟨ret_i HZ2.out.symm, HW.out.bel⟩
end Go.Proofs.YtdlmmbfnmnglaaaGreatDoor

namespace Go.Proofs.YtdlmmbfnmnglaaaGreatDoor
open Go.RowKit

set_option maxRecDepth 100000 in
set_option maxHeartbeats 4000000 in
theorem r44_Check (c : Chs) (bv wv pv ov : Value) (w : World) (h : ChAt w (· < w.heap.size) bv wv pv ov c) :
    Calls Tryz.prog 62 #[chV c bv wv pv ov] w fun e w' => e = .returned (.int .i64 (checkC c)) ∧ Below w.heap.size w w' := by
  unfold chV
  obtain ⟨z, hz⟩ : ∃ z, z = checkC c := ⟨_, rfl⟩
  rw [← hz]
  obtain ⟨A, ca, rfl, hc, hc2⟩ := h.mdl.bat.shape
  obtain ⟨A1, ca1, rfl, hc1, hc12⟩ := h.mdl.bow.shape
  obtain ⟨A2, ca2, rfl, hc3, hc32⟩ := h.bow.shape
  obtain ⟨A3, ca3, rfl, hc4, hc42⟩ := h.ord.shape
  have hx := ChB.new w c (.slice A c.mdl.bats.length ca) (.slice A1 c.mdl.bows.length ca1) (.slice A2 c.bows.length ca2) (.slice A3 c.ord.length ca3)
  have km := r_Check c.mdl _ _ _ (h.mdl.below hx.bel)
  have HM := Lib.hid h
  have HX := Lib.hid hx
  have hres := fun h1 h2 h3 => hz.trans (checkC_rest (c := c) h1 h2 h3)
  have hbad : checkM c.mdl ≠ 0 → z = checkM c.mdl := fun h => by rw [hz]; unfold checkC; rw [if_pos h]
  have hno : checkM c.mdl = 0 → c.bows.length = 0 → z = 6 := fun h h2 => by rw [hz]; unfold checkC; rw [if_neg (by omega), if_pos h2]
  have hmany : checkM c.mdl = 0 → c.bows.length ≠ 0 → 12 < c.bows.length → z = 9 := fun h h2 h3 => by rw [hz]; unfold checkC; rw [if_neg (by omega), if_neg h2, if_pos h3]
  obtain ⟨u, hu⟩ : ∃ u, u = checkM c.mdl := ⟨_, rfl⟩
  rw [← hu] at km hres hbad hno hmany
  clear hz h hx hu
  by_cases h0 : u = 0
  case neg =>
    have HZ := Lib.hid (hbad h0)
    have eu : (u != 0) = true := by simp [h0]
    have KM := Lib.hid km
    clear km hres hbad hno hmany h0
    go_enter Tryz.func62, Tryz.ntmps62
    go_wp2_with (go_at_call 77; refine KM.out.mono ?_; rintro e w2 ⟨rfl, hb2⟩; have HX2 := Lib.hid (HX.out.below hb2); obtain ⟨x0, x1, x2, x3, x4, x5, x6⟩ := HX2.out.cells; clear hb2)
    go_ret
    exact ⟨ret_i HZ.out.symm, HX2.out.bel⟩
  subst h0
  have KM := Lib.hid km
  clear km hbad
  by_cases h1 : c.bows.length = 0
  · have HZ := Lib.hid (hno rfl h1)
    have e1 : ((c.bows.length : Int) == 0) = true := beq_iff_eq.2 (by omega)
    have h1' := Lib.hid h1
    clear hres hno hmany h1
    go_enter Tryz.func62, Tryz.ntmps62
    go_wp2_with (go_at_call 77; refine KM.out.mono ?_; rintro e w2 ⟨rfl, hb2⟩; have HX2 := Lib.hid (HX.out.below hb2); obtain ⟨x0, x1, x2, x3, x4, x5, x6⟩ := HX2.out.cells; clear hb2)
    go_ret
    exact ⟨ret_i HZ.out.symm, HX2.out.bel⟩
  have e1 : ((c.bows.length : Int) == 0) = false := beq_eq_false_iff_ne.2 (by omega)
  by_cases h2 : 12 < c.bows.length
  · have HZ := Lib.hid (hmany rfl h1 h2)
    have e2 : (12 : Int) < (c.bows.length : Int) := by omega
    clear hres hno hmany h1 h2
    go_enter Tryz.func62, Tryz.ntmps62
    go_wp2_with (go_at_call 77; refine KM.out.mono ?_; rintro e w2 ⟨rfl, hb2⟩; have HX2 := Lib.hid (HX.out.below hb2); obtain ⟨x0, x1, x2, x3, x4, x5, x6⟩ := HX2.out.cells; clear hb2)
    go_ret
    exact ⟨ret_i HZ.out.symm, HX2.out.bel⟩
  have HZ0 := Lib.hid (hres rfl h1 h2)
  have e2 : ¬ (12 : Int) < (c.bows.length : Int) := by omega
  clear hres hno hmany h1 h2
  go_enter Tryz.func62, Tryz.ntmps62
  go_wp2_with (go_at_call 77; refine KM.out.mono ?_; rintro e w2 ⟨rfl, hb2⟩; have HX2 := Lib.hid (HX.out.below hb2); obtain ⟨x0, x1, x2, x3, x4, x5, x6⟩ := HX2.out.cells; clear hb2)
  go_loopw [27] (fun i wr => ∃ k : Nat, k ≤ c.bows.length ∧ i = .int .i64 k ∧ Hid (ChB w wr w.heap.size c (.slice A c.mdl.bats.length ca) (.slice A1 c.mdl.bows.length ca1) (.slice A2 c.bows.length ca2) (.slice A3 c.ord.length ca3)) ∧ Hid (z = restP c k)) (fun i _ => c.bows.length - (intOf i).toNat)
  case atStart => exact ⟨0, Nat.zero_le _, rfl, HX2, HZ0⟩
  case round =>
    clear HX2 HZ0 x0 x1 x2 x3 x4 x5 x6
    obtain ⟨k, hk, rfl, HW, hzz⟩ := hrel
    obtain ⟨x0, x1, x2, x3, x4, x5, x6⟩ := HW.out.cells
    by_cases hlt : k < c.bows.length
    · obtain ⟨b0, o, rfl, hbl, yy0⟩ := int_at HM.out.bow hlt
      have y0 := (HW.out.bel.cell (p := ⟨b0, o + k, none⟩) hbl).trans yy0
      have hz2 := hzz.out
      rw [restP_at hlt] at hz2
      obtain ⟨p, hp⟩ : ∃ p, p = c.bows[k] := ⟨_, rfl⟩
      rw [← hp] at hz2 y0
      clear hzz hp yy0
      by_cases g1 : p < 0
      · rw [if_pos (.inl g1)] at hz2
        have HZZ := Lib.hid hz2
        clear hz2
        go_wp2
        go_ret
        exact ⟨ret_i HZZ.out.symm, HW.out.bel⟩
      · by_cases g2 : (c.mdl.bows.length : Int) ≤ p
        · rw [if_pos (.inr g2)] at hz2
          have HZZ := Lib.hid hz2
          clear hz2
          go_wp2
          go_ret
          exact ⟨ret_i HZZ.out.symm, HW.out.bel⟩
        · rw [if_neg (by omega)] at hz2
          have HZZ := Lib.hid hz2
          clear hz2
          go_wp2
          go_roundw
          case rel => exact ⟨k + 1, by omega, by go_num, HW, HZZ⟩
          case measure => simp [intOf]; omega
    · obtain rfl : k = c.bows.length := by omega
      have hz2 := hzz.out
      rw [restP_end] at hz2
      have ht2 : rangeC c = true → z = 2 := fun h => by rw [hz2]; unfold tailC; rw [if_pos h]
      have ht9 : rangeC c = false → (c.ord.length < 2 ∨ 11 < c.ord.length) → z = 9 := fun h h2 => by rw [hz2]; unfold tailC; rw [if_neg (by simp [h]), if_pos h2]
      have htr : rangeC c = false → ¬ (c.ord.length < 2 ∨ 11 < c.ord.length) → z = restO c 0 := fun h h2 => hz2.trans (tailC_rest h h2)
      have hw := rangeC_ways c
      obtain ⟨over, hov⟩ : ∃ x, x = c.over := ⟨_, rfl⟩
      obtain ⟨done, hdo⟩ : ∃ x, x = c.done := ⟨_, rfl⟩
      obtain ⟨need, hne⟩ : ∃ x, x = c.need := ⟨_, rfl⟩
      rw [← hov, ← hdo, ← hne] at hw
      rw [← hov] at x3
      rw [← hdo] at x4
      rw [← hne] at x5
      clear hzz hz2 hov hdo hne
      rcases hw with ⟨hr, hw⟩ | ⟨hr, g1, g2, g3, g4, g5, g6⟩
      · have HZZ := Lib.hid (ht2 hr)
        clear ht2 ht9 htr hr
        rcases hw with g1 | ⟨g1, g2⟩ | ⟨g1, g2, g3⟩ | ⟨g1, g2, g3, g4⟩ | ⟨g1, g2, g3, g4, g5⟩ | ⟨g1, g2, g3, g4, g5, g6⟩
        all_goals go_wp2
        all_goals go_ret
        all_goals exact ⟨ret_i HZZ.out.symm, HW.out.bel⟩
      by_cases g7 : c.ord.length < 2
      · have HZZ := Lib.hid (ht9 hr (.inl g7))
        have g7' : (c.ord.length : Int) < 2 := by omega
        clear ht2 ht9 htr hr g7
        go_wp2
        go_ret
        exact ⟨ret_i HZZ.out.symm, HW.out.bel⟩
      by_cases g8 : 11 < c.ord.length
      · have HZZ := Lib.hid (ht9 hr (.inr g8))
        have g7' : ¬ (c.ord.length : Int) < 2 := by omega
        have g8' : (11 : Int) < (c.ord.length : Int) := by omega
        clear ht2 ht9 htr hr g7 g8
        go_wp2
        go_ret
        exact ⟨ret_i HZZ.out.symm, HW.out.bel⟩
      have HZ1 := Lib.hid (htr hr (by omega))
      have g7' : ¬ (c.ord.length : Int) < 2 := by omega
      have g8' : ¬ (11 : Int) < (c.ord.length : Int) := by omega
      have HW1 := HW
      clear ht2 ht9 htr hr g7 g8
      obtain ⟨wo, rfl⟩ : ∃ wo : World, wo = wr := ⟨_, rfl⟩
      go_wp2
      go_loopw [85] (fun i wr => ∃ k : Nat, k ≤ c.ord.length ∧ i = .int .i64 k ∧ Hid (ChB w wr w.heap.size c (.slice A c.mdl.bats.length ca) (.slice A1 c.mdl.bows.length ca1) (.slice A2 c.bows.length ca2) (.slice A3 c.ord.length ca3)) ∧ Hid (z = restO c k)) (fun i _ => c.ord.length - (intOf i).toNat)
      case atStart => exact ⟨0, Nat.zero_le _, rfl, HW1, HZ1⟩
      case round =>
        clear HW1 HZ1 HW x0 x1 x2 x3 x4 x5 x6
        obtain ⟨k, hk, rfl, HW, hzz⟩ := hrel
        obtain ⟨x0, x1, x2, x3, x4, x5, x6⟩ := HW.out.cells
        by_cases hlt : k < c.ord.length
        · obtain ⟨b0, o, rfl, hbl, yy0⟩ := int_at HM.out.ord hlt
          have y0 := (HW.out.bel.cell (p := ⟨b0, o + k, none⟩) hbl).trans yy0
          have hz2 := hzz.out
          rw [restO_at hlt] at hz2
          obtain ⟨p, hp⟩ : ∃ p, p = c.ord[k] := ⟨_, rfl⟩
          rw [← hp] at hz2 y0
          clear hzz hp yy0
          by_cases q1 : p < 0
          · rw [if_pos (.inl q1)] at hz2
            have HZZ := Lib.hid hz2
            clear hz2
            go_wp2
            go_ret
            exact ⟨ret_i HZZ.out.symm, HW.out.bel⟩
          by_cases q2 : (c.mdl.bats.length : Int) ≤ p
          · rw [if_pos (.inr q2)] at hz2
            have HZZ := Lib.hid hz2
            clear hz2
            go_wp2
            go_ret
            exact ⟨ret_i HZZ.out.symm, HW.out.bel⟩
          rw [if_neg (by omega)] at hz2
          have hl : (c.ord.take k).length = k := by rw [List.length_take]; omega
          obtain ⟨tl, htl⟩ : ∃ t, t = c.ord.take k := ⟨_, rfl⟩
          rw [← htl] at hz2 hl
          have HZ3 : Hid (z = if p ∈ tl.drop 0 then 7 else restO c (k + 1)) := by unfold Hid; rw [List.drop_zero]; exact hz2
          have HL := Lib.hid hl
          have HTL := Lib.hid htl
          have HW3 := HW
          clear hz2 htl hl
          obtain ⟨wo2, rfl⟩ : ∃ wo : World, wo = wr := ⟨_, rfl⟩
          go_wp2
          go_loopw [105] (fun i wr => ∃ j : Nat, j ≤ k ∧ i = .int .i64 j ∧ Hid (ChB w wr w.heap.size c (.slice A c.mdl.bats.length ca) (.slice A1 c.mdl.bows.length ca1) (.slice A2 c.bows.length ca2) (.slice (some ⟨b0, o, none⟩) c.ord.length ca3)) ∧ Hid (z = if p ∈ tl.drop j then 7 else restO c (k + 1))) (fun i _ => k - (intOf i).toNat)
          case atStart => exact ⟨0, Nat.zero_le _, rfl, HW3, HZ3⟩
          case round =>
            obtain ⟨j, hj, rfl, HWJ, hzj⟩ := hrel
            by_cases hjt : j < k
            · have hjl : j < tl.length := by rw [HL.out]; exact hjt
              have htj := (HM.out.below HWJ.out.bel).ord.take (k := k) (by omega)
              rw [← HTL.out] at htj
              obtain ⟨b1, o1, he1, _, yj⟩ := int_at htj (k := j) hjl
              obtain ⟨rfl, rfl⟩ : b1 = b0 ∧ o1 = o := by injection he1 with h; injection h with h1 h2; exact ⟨h1.symm, h2.symm⟩
              have hzj2 := hzj.out
              rw [drop_get hjl] at hzj2
              obtain ⟨q, hq⟩ : ∃ q, q = tl[j] := ⟨_, rfl⟩
              rw [← hq] at yj hzj2
              clear hzj hq htj he1
              by_cases hqp : q = p
              · rw [if_pos (by rw [hqp]; simp)] at hzj2
                have e1 : (q == p) = true := beq_iff_eq.2 hqp
                have e2 : (p == q) = true := beq_iff_eq.2 hqp.symm
                have HZZ := Lib.hid hzj2
                clear hzj2 hqp
                go_wp2
                go_ret
                exact ⟨ret_i HZZ.out.symm, HWJ.out.bel⟩
              · have hmm : (p ∈ q :: tl.drop (j + 1)) = (p ∈ tl.drop (j + 1)) := by rw [List.mem_cons]; exact propext ⟨fun k => k.elim (fun e => absurd e.symm hqp) id, .inr⟩
                simp only [hmm] at hzj2
                have e1 : (q == p) = false := beq_eq_false_iff_ne.2 hqp
                have e2 : (p == q) = false := beq_eq_false_iff_ne.2 (fun e => hqp e.symm)
                have HZZ := Lib.hid hzj2
                clear hzj2 hqp hmm
                go_wp2
                go_roundw
                case rel => exact ⟨j + 1, by omega, by go_num, HWJ, HZZ⟩
                case measure => simp [intOf]; omega
            · obtain rfl : j = k := by omega
              have hzj2 := hzj.out
              rw [List.drop_of_length_le (by rw [HL.out]; exact Nat.le_refl _), if_neg (by simp)] at hzj2
              have HZZ := Lib.hid hzj2
              clear hzj hzj2
              go_wp2
              go_roundw
              case rel => exact ⟨j + 1, by omega, by go_num, HWJ, HZZ⟩
              case measure => simp [intOf]; omega
        · obtain rfl : k = c.ord.length := by omega
          have hz2 := hzz.out
          rw [restO_end] at hz2
          have HZ2 := Lib.hid hz2
          clear hzz hz2
          go_wp2
          go_ret
          exact ⟨ret_i HZ2.out.symm, HW.out.bel⟩
end Go.Proofs.YtdlmmbfnmnglaaaGreatDoor

namespace Go.Proofs.YtdlmmbfnmnglaaaGreatDoor
open Go.RowKit

/-- A chase and a state boxed one behind the other. -/
structure CSB (w W : World) (g : Nat) (c : Chs) (bv wv pv ov : Value) (s : Cst) : Prop where
  bel : Below w.heap.size w W
  box : Blk W g 28 #[bv, wv, pv, .int .i64 c.over, .int .i64 c.done, .int .i64 c.need, ov]
  st : Blk W (g + 1) 30 #[.int .i64 s.ball, .int .i64 s.need, .int .i64 s.str, .int .i64 s.par, .int .i64 s.nxt]
section
variable {w W W' : World} {g : Nat} {c : Chs} {bv wv pv ov : Value} {s : Cst}
theorem CSB.below (h : CSB w W g c bv wv pv ov s) (hb : Below W.heap.size W W') : CSB w W' g c bv wv pv ov s := ⟨h.bel.trans (hb.mono h.bel.size), h.box.below hb h.box.lt, h.st.below hb h.st.lt⟩
theorem CSB.drew (h : CSB w W g c bv wv pv ov s) : CSB w W.drew g c bv wv pv ov s := ⟨Below.drew h.bel, h.box.drew, h.st.drew⟩
theorem CSB.cells (h : CSB w W g c bv wv pv ov s) : W.cell? ⟨g, 0, none⟩ = some bv ∧ W.cell? ⟨g, 1, none⟩ = some wv ∧ W.cell? ⟨g, 2, none⟩ = some pv ∧ W.cell? ⟨g, 3, none⟩ = some (.int .i64 c.over) ∧ W.cell? ⟨g, 4, none⟩ = some (.int .i64 c.done) ∧ W.cell? ⟨g, 5, none⟩ = some (.int .i64 c.need) ∧ W.cell? ⟨g, 6, none⟩ = some ov ∧
    W.cell? ⟨g + 1, 0, none⟩ = some (.int .i64 s.ball) ∧ W.cell? ⟨g + 1, 1, none⟩ = some (.int .i64 s.need) ∧ W.cell? ⟨g + 1, 2, none⟩ = some (.int .i64 s.str) ∧ W.cell? ⟨g + 1, 3, none⟩ = some (.int .i64 s.par) ∧ W.cell? ⟨g + 1, 4, none⟩ = some (.int .i64 s.nxt) :=
  ⟨h.box.cell 0, h.box.cell 1, h.box.cell 2, h.box.cell 3, h.box.cell 4, h.box.cell 5, h.box.cell 6, h.st.cell 0, h.st.cell 1, h.st.cell 2, h.st.cell 3, h.st.cell 4⟩
theorem CSB.new (w : World) (c : Chs) (bv wv pv ov : Value) (s : Cst) : CSB w ((w.alloc (.cells #[bv, wv, pv, .int .i64 c.over, .int .i64 c.done, .int .i64 c.need, ov] 28)).alloc (.cells #[.int .i64 s.ball, .int .i64 s.need, .int .i64 s.str, .int .i64 s.par, .int .i64 s.nxt] 30)) w.heap.size c bv wv pv ov s := by
  have h1 := ChB.new w c bv wv pv ov
  have h2 := Blk.new (w.alloc (.cells #[bv, wv, pv, .int .i64 c.over, .int .i64 c.done, .int .i64 c.need, ov] 28)) 30 #[.int .i64 s.ball, .int .i64 s.need, .int .i64 s.str, .int .i64 s.par, .int .i64 s.nxt]
  rw [World.size_alloc] at h2
  exact ⟨h1.bel.alloc h1.bel.size _, h1.box.alloc _, h2⟩
end
theorem stC_ways (c : Chs) (s : Cst) : (s.need = 0 ∧ stC c s = 2) ∨ (s.need ≠ 0 ∧ s.str < 0 ∧ stC c s = 3) ∨ (s.need ≠ 0 ∧ ¬ s.str < 0 ∧ s.ball = c.bows.length ∧ stC c s = 3) ∨ (s.need ≠ 0 ∧ ¬ s.str < 0 ∧ s.ball ≠ c.bows.length ∧ stC c s = 1) := by
  unfold stC
  by_cases h1 : s.need = 0
  · exact .inl ⟨h1, by rw [if_pos h1]⟩
  by_cases h2 : s.str < 0
  · exact .inr (.inl ⟨h1, h2, by rw [if_neg h1, if_pos (.inl h2)]⟩)
  by_cases h3 : s.ball = c.bows.length
  · exact .inr (.inr (.inl ⟨h1, h2, h3, by rw [if_neg h1, if_pos (.inr h3)]⟩))
  exact .inr (.inr (.inr ⟨h1, h2, h3, by rw [if_neg h1, if_neg (by omega)]⟩))
theorem ret_u8 {a b : Int} (h : a = b) : Ending.returned (.int .u8 a) = .returned (.int .u8 b) := by rw [h]
set_option maxRecDepth 100000 in
theorem ch_within (n lo hi : Int) (b : Bool) (hb : outC.inC n lo hi = b) (w : World) : Calls Tryz.prog 68 #[.int .i64 n, .int .i64 lo, .int .i64 hi] w fun e w' => e = .returned (.bool b) ∧ w' = w := by
  have HB := Lib.hid hb.symm
  unfold outC.inC at HB
  clear hb
  by_cases h1 : lo ≤ n
  · by_cases h2 : n ≤ hi
    · go_enter Tryz.func68, Tryz.ntmps68
      go_wp2
      go_ret
      exact ⟨ret_b (by rw [HB.out]; simp [h1, h2]), rfl⟩
    · go_enter Tryz.func68, Tryz.ntmps68
      go_wp2
      go_ret
      exact ⟨ret_b (by rw [HB.out]; simp [h1, h2]), rfl⟩
  · go_enter Tryz.func68, Tryz.ntmps68
    go_wp2
    go_ret
    exact ⟨ret_b (by rw [HB.out]; simp; omega), rfl⟩
set_option maxRecDepth 100000 in
set_option maxHeartbeats 4000000 in
theorem ch44_status (c : Chs) (s : Cst) (bv wv pv ov : Value) (w : World) (h : ChAt w (· < w.heap.size) bv wv pv ov c) (hs : OkS c s) :
    Calls Tryz.prog 73 #[chV c bv wv pv ov, stV s] w fun e w' => e = .returned (.int .u8 (stC c s)) ∧ Below w.heap.size w w' := by
  unfold chV stV
  obtain ⟨ball, need, str, par, nxt⟩ := s
  obtain ⟨A, ca, rfl, hc1, hc2⟩ := h.mdl.bat.shape
  obtain ⟨A1, ca1, rfl, hc3, hc4⟩ := h.mdl.bow.shape
  obtain ⟨A2, ca2, rfl, hc5, hc6⟩ := h.bow.shape
  obtain ⟨A3, ca3, rfl, hc7, hc8⟩ := h.ord.shape
  have hx := CSB.new w c (.slice A c.mdl.bats.length ca) (.slice A1 c.mdl.bows.length ca1) (.slice A2 c.bows.length ca2) (.slice A3 c.ord.length ca3) ⟨ball, need, str, par, nxt⟩
  have HX := Lib.hid hx
  have HM := Lib.hid h
  have hw := stC_ways c ⟨ball, need, str, par, nxt⟩
  have hm := hs.str.1
  obtain ⟨z, hz⟩ : ∃ z, z = stC c ⟨ball, need, str, par, nxt⟩ := ⟨_, rfl⟩
  rw [← hz] at hw ⊢
  dsimp only at hw hm
  clear hx h hs hz
  rcases hw with ⟨h1, hz⟩ | ⟨h1, h2, hz⟩ | ⟨h1, h2, h3, hz⟩ | ⟨h1, h2, h3, hz⟩
  · have e1 : (need == 0) = true := beq_iff_eq.2 h1
    have HZ := Lib.hid hz
    clear hz h1
    go_enter Tryz.func73, Tryz.ntmps73
    go_wp2
    go_ret
    exact ⟨ret_u8 HZ.out.symm, HX.out.bel⟩
  · have e1 : (need == 0) = false := beq_eq_false_iff_ne.2 h1
    have e2 : (str == -1) = true := beq_iff_eq.2 (by omega)
    have HZ := Lib.hid hz
    clear hz h1
    go_enter Tryz.func73, Tryz.ntmps73
    go_wp2
    go_ret
    exact ⟨ret_u8 HZ.out.symm, HX.out.bel⟩
  · have e1 : (need == 0) = false := beq_eq_false_iff_ne.2 h1
    have e2 : (str == -1) = false := beq_eq_false_iff_ne.2 (by omega)
    have e3 : (ball == (c.bows.length : Int)) = true := beq_iff_eq.2 h3
    have HZ := Lib.hid hz
    clear hz h1 h3
    go_enter Tryz.func73, Tryz.ntmps73
    go_wp2
    go_ret
    exact ⟨ret_u8 HZ.out.symm, HX.out.bel⟩
  · have e1 : (need == 0) = false := beq_eq_false_iff_ne.2 h1
    have e2 : (str == -1) = false := beq_eq_false_iff_ne.2 (by omega)
    have e3 : (ball == (c.bows.length : Int)) = false := beq_eq_false_iff_ne.2 h3
    have HZ := Lib.hid hz
    clear hz h1 h3
    go_enter Tryz.func73, Tryz.ntmps73
    go_wp2
    go_ret
    exact ⟨ret_u8 HZ.out.symm, HX.out.bel⟩
set_option maxRecDepth 100000 in
set_option maxHeartbeats 4000000 in
theorem ch44_checkState (c : Chs) (s : Cst) (bv wv pv ov : Value) (w : World) (h : ChAt w (· < w.heap.size) bv wv pv ov c) :
    Calls Tryz.prog 27 #[chV c bv wv pv ov, stV s] w fun e w' => e = .returned (.int .i64 (stateC c s)) ∧ Below w.heap.size w w' := by
  unfold chV stV
  obtain ⟨ball, need, str, par, nxt⟩ := s
  obtain ⟨A, ca, rfl, hc1, hc2⟩ := h.mdl.bat.shape
  obtain ⟨A1, ca1, rfl, hc3, hc4⟩ := h.mdl.bow.shape
  obtain ⟨A2, ca2, rfl, hc5, hc6⟩ := h.bow.shape
  obtain ⟨A3, ca3, rfl, hc7, hc8⟩ := h.ord.shape
  have hx := CSB.new w c (.slice A c.mdl.bats.length ca) (.slice A1 c.mdl.bows.length ca1) (.slice A2 c.bows.length ca2) (.slice A3 c.ord.length ca3) ⟨ball, need, str, par, nxt⟩
  have HX := Lib.hid hx
  have HM := Lib.hid h
  obtain ⟨z, hz⟩ : ∃ z, z = stateC c ⟨ball, need, str, par, nxt⟩ := ⟨_, rfl⟩
  rw [← hz]
  have hbad : outC c ⟨ball, need, str, par, nxt⟩ = true → z = 2 := fun h => by rw [hz]; unfold stateC; rw [if_pos h]
  have harg : outC c ⟨ball, need, str, par, nxt⟩ = false → (str = par ∨ (str = -1 ∧ nxt < c.ord.length)) → z = 1 := fun h h2 => by rw [hz]; unfold stateC; rw [if_neg (by simp [h]), if_pos h2]
  have hok : outC c ⟨ball, need, str, par, nxt⟩ = false → ¬ (str = par ∨ (str = -1 ∧ nxt < c.ord.length)) → z = 0 := fun h h2 => by rw [hz]; unfold stateC; rw [if_neg (by simp [h]), if_neg h2]
  clear hx h hz
  cases b0 : outC.inC ball 0 c.bows.length
  · have HZ := Lib.hid (hbad (by unfold outC; simp [b0]))
    clear hbad harg hok
    go_enter Tryz.func27, Tryz.ntmps27
    go_wp2_with (go_at_call 68; refine (ch_within _ _ _ _ (by first | exact b0 | exact b1 | exact b2 | exact b3 | exact b4) _).mono ?_; rintro e w2 ⟨rfl, rfl⟩)
    go_ret
    exact ⟨ret_i HZ.out.symm, HX.out.bel⟩
  cases b1 : outC.inC need 0 c.need
  · have HZ := Lib.hid (hbad (by unfold outC; simp [b0, b1]))
    clear hbad harg hok
    go_enter Tryz.func27, Tryz.ntmps27
    go_wp2_with (go_at_call 68; refine (ch_within _ _ _ _ (by first | exact b0 | exact b1 | exact b2 | exact b3 | exact b4) _).mono ?_; rintro e w2 ⟨rfl, rfl⟩)
    go_ret
    exact ⟨ret_i HZ.out.symm, HX.out.bel⟩
  cases b2 : outC.inC nxt 2 c.ord.length
  · have HZ := Lib.hid (hbad (by unfold outC; simp [b0, b1, b2]))
    clear hbad harg hok
    go_enter Tryz.func27, Tryz.ntmps27
    go_wp2_with (go_at_call 68; refine (ch_within _ _ _ _ (by first | exact b0 | exact b1 | exact b2 | exact b3 | exact b4) _).mono ?_; rintro e w2 ⟨rfl, rfl⟩)
    go_ret
    exact ⟨ret_i HZ.out.symm, HX.out.bel⟩
  have gn : 2 ≤ nxt ∧ nxt ≤ (c.ord.length : Int) := by have := b2; unfold outC.inC at this; simpa using this
  obtain ⟨gn1, gn2⟩ := gn
  cases b3 : outC.inC str (-1) (nxt - 1)
  · have HZ := Lib.hid (hbad (by unfold outC; simp [b0, b1, b2, b3]))
    clear hbad harg hok
    go_enter Tryz.func27, Tryz.ntmps27
    go_wp2_with (go_at_call 68; refine (ch_within _ _ _ _ (by first | exact b0 | exact b1 | exact b2 | exact b3 | exact b4) _).mono ?_; rintro e w2 ⟨rfl, rfl⟩)
    go_ret
    exact ⟨ret_i HZ.out.symm, HX.out.bel⟩
  cases b4 : outC.inC par 0 (nxt - 1)
  · have HZ := Lib.hid (hbad (by unfold outC; simp [b0, b1, b2, b3, b4]))
    clear hbad harg hok
    go_enter Tryz.func27, Tryz.ntmps27
    go_wp2_with (go_at_call 68; refine (ch_within _ _ _ _ (by first | exact b0 | exact b1 | exact b2 | exact b3 | exact b4) _).mono ?_; rintro e w2 ⟨rfl, rfl⟩)
    go_ret
    exact ⟨ret_i HZ.out.symm, HX.out.bel⟩
  have ho : outC c ⟨ball, need, str, par, nxt⟩ = false := by unfold outC; simp [b0, b1, b2, b3, b4]
  have hno := outC_no ho
  dsimp only at hno
  obtain ⟨⟨q1, q2⟩, ⟨q3, q4⟩, _, ⟨q5, q6⟩, ⟨q7, q8⟩⟩ := hno
  by_cases h1 : str = par
  · have HZ := Lib.hid (harg ho (.inl h1))
    have e1 : (str == par) = true := beq_iff_eq.2 h1
    have h1' := Lib.hid h1
    clear hbad harg hok ho h1
    go_enter Tryz.func27, Tryz.ntmps27
    go_wp2_with (go_at_call 68; refine (ch_within _ _ _ _ (by first | exact b0 | exact b1 | exact b2 | exact b3 | exact b4) _).mono ?_; rintro e w2 ⟨rfl, rfl⟩)
    go_ret
    exact ⟨ret_i HZ.out.symm, HX.out.bel⟩
  have e1 : (str == par) = false := beq_eq_false_iff_ne.2 h1
  by_cases h2 : str = -1
  · have e2 : (str == -1) = true := beq_iff_eq.2 h2
    by_cases h3 : nxt < (c.ord.length : Int)
    · have HZ := Lib.hid (harg ho (.inr ⟨h2, h3⟩))
      have h2' := Lib.hid h2
      clear hbad harg hok ho h1 h2
      go_enter Tryz.func27, Tryz.ntmps27
      go_wp2_with (go_at_call 68; refine (ch_within _ _ _ _ (by first | exact b0 | exact b1 | exact b2 | exact b3 | exact b4) _).mono ?_; rintro e w2 ⟨rfl, rfl⟩)
      go_ret
      exact ⟨ret_i HZ.out.symm, HX.out.bel⟩
    · have HZ := Lib.hid (hok ho (by rintro (h | h); exact h1 h; exact h3 h.2))
      have h2' := Lib.hid h2
      clear hbad harg hok ho h1 h2
      go_enter Tryz.func27, Tryz.ntmps27
      go_wp2_with (go_at_call 68; refine (ch_within _ _ _ _ (by first | exact b0 | exact b1 | exact b2 | exact b3 | exact b4) _).mono ?_; rintro e w2 ⟨rfl, rfl⟩)
      go_ret
      exact ⟨ret_i HZ.out.symm, HX.out.bel⟩
  · have e2 : (str == -1) = false := beq_eq_false_iff_ne.2 h2
    have HZ := Lib.hid (hok ho (by rintro (h | h); exact h1 h; exact h2 h.1))
    clear hbad harg hok ho h1 h2
    go_enter Tryz.func27, Tryz.ntmps27
    go_wp2_with (go_at_call 68; refine (ch_within _ _ _ _ (by first | exact b0 | exact b1 | exact b2 | exact b3 | exact b4) _).mono ?_; rintro e w2 ⟨rfl, rfl⟩)
    go_ret
    exact ⟨ret_i HZ.out.symm, HX.out.bel⟩
set_option maxRecDepth 100000 in
set_option maxHeartbeats 4000000 in
theorem ch44_CheckState (c : Chs) (s : Cst) (bv wv pv ov : Value) (w : World) (h : ChAt w (· < w.heap.size) bv wv pv ov c) :
    Calls Tryz.prog 61 #[chV c bv wv pv ov, stV s] w fun e w' => e = .returned (.int .i64 (chstC c s)) ∧ Below w.heap.size w w' := by
  unfold chV stV
  obtain ⟨ball, need, str, par, nxt⟩ := s
  obtain ⟨A, ca, rfl, hc1, hc2⟩ := h.mdl.bat.shape
  obtain ⟨A1, ca1, rfl, hc3, hc4⟩ := h.mdl.bow.shape
  obtain ⟨A2, ca2, rfl, hc5, hc6⟩ := h.bow.shape
  obtain ⟨A3, ca3, rfl, hc7, hc8⟩ := h.ord.shape
  have hx := CSB.new w c (.slice A c.mdl.bats.length ca) (.slice A1 c.mdl.bows.length ca1) (.slice A2 c.bows.length ca2) (.slice A3 c.ord.length ca3) ⟨ball, need, str, par, nxt⟩
  have HX := Lib.hid hx
  have HM := Lib.hid h
  obtain ⟨z, hz⟩ : ∃ z, z = chstC c ⟨ball, need, str, par, nxt⟩ := ⟨_, rfl⟩
  rw [← hz]
  unfold chstC at hz
  have k1 := fun W (hW : Below w.heap.size w W) => ch44_Check c _ _ _ _ W (HM.out.below hW)
  have k2 := fun W (hW : Below w.heap.size w W) => ch44_checkState c ⟨ball, need, str, par, nxt⟩ _ _ _ _ W (HM.out.below hW)
  unfold chV stV at k2
  unfold chV at k1
  dsimp only at k2
  obtain ⟨u, hu⟩ : ∃ u, u = checkC c := ⟨_, rfl⟩
  obtain ⟨v, hv⟩ : ∃ v, v = stateC c ⟨ball, need, str, par, nxt⟩ := ⟨_, rfl⟩
  rw [← hu] at k1 hz
  rw [← hv] at k2 hz
  have K1 := Lib.hid k1
  have K2 := Lib.hid k2
  have tok0 : True := trivial
  clear k1 k2 hu hv h hx
  by_cases h0 : u = 0
  · rw [if_neg (by omega)] at hz
    have HZ := Lib.hid hz
    have eu : (u != 0) = false := by simp [h0]
    clear hz h0
    go_enter Tryz.func61, Tryz.ntmps61
    go_wp2_with (first
      | (clear tok0; go_at_call 60; refine (K1.out _ HX.out.bel).mono ?_; rintro e w2 ⟨rfl, hb2⟩; have HX2 := Lib.hid (HX.out.below hb2); obtain ⟨x0, x1, x2, x3, x4, x5, x6, y0, y1, y2, y3, y4⟩ := HX2.out.cells; clear hb2; have tok1 : True := trivial)
      | (clear tok1; go_at_call 27; refine (K2.out _ HX2.out.bel).mono ?_; rintro e w3 ⟨rfl, hb3⟩; have HX3 := Lib.hid (HX2.out.below hb3); clear hb3; have tok2 : True := trivial))
    go_ret
    exact ⟨ret_i HZ.out.symm, HX3.out.bel⟩
  · rw [if_pos h0] at hz
    have HZ := Lib.hid hz
    have eu : (u != 0) = true := by simp [h0]
    clear hz h0
    go_enter Tryz.func61, Tryz.ntmps61
    go_wp2_with (clear tok0; go_at_call 60; refine (K1.out _ HX.out.bel).mono ?_; rintro e w2 ⟨rfl, hb2⟩; have HX2 := Lib.hid (HX.out.below hb2); obtain ⟨x0, x1, x2, x3, x4, x5, x6, y0, y1, y2, y3, y4⟩ := HX2.out.cells; clear hb2; have tok1 : True := trivial)
    go_ret
    exact ⟨ret_i HZ.out.symm, HX2.out.bel⟩
set_option maxRecDepth 100000 in
set_option maxHeartbeats 4000000 in
theorem r44_status (c : Chs) (s : Cst) (bv wv pv ov : Value) (w : World) (h : ChAt w (· < w.heap.size) bv wv pv ov c) (hs : OkS c s) :
    Calls Tryz.prog 63 #[chV c bv wv pv ov, stV s] w fun e w' => e = .returned (.int .u8 (stC c s)) ∧ Below w.heap.size w w' := by
  unfold chV stV
  obtain ⟨ball, need, str, par, nxt⟩ := s
  obtain ⟨A, ca, rfl, hc1, hc2⟩ := h.mdl.bat.shape
  obtain ⟨A1, ca1, rfl, hc3, hc4⟩ := h.mdl.bow.shape
  obtain ⟨A2, ca2, rfl, hc5, hc6⟩ := h.bow.shape
  obtain ⟨A3, ca3, rfl, hc7, hc8⟩ := h.ord.shape
  have hx := CSB.new w c (.slice A c.mdl.bats.length ca) (.slice A1 c.mdl.bows.length ca1) (.slice A2 c.bows.length ca2) (.slice A3 c.ord.length ca3) ⟨ball, need, str, par, nxt⟩
  have HX := Lib.hid hx
  have HM := Lib.hid h
  have hw := stC_ways c ⟨ball, need, str, par, nxt⟩
  have hm := hs.str.1
  obtain ⟨z, hz⟩ : ∃ z, z = stC c ⟨ball, need, str, par, nxt⟩ := ⟨_, rfl⟩
  rw [← hz] at hw ⊢
  dsimp only at hw hm
  clear hx h hs hz
  rcases hw with ⟨h1, hz⟩ | ⟨h1, h2, hz⟩ | ⟨h1, h2, h3, hz⟩ | ⟨h1, h2, h3, hz⟩
  · have e1 : (need == 0) = true := beq_iff_eq.2 h1
    have HZ := Lib.hid hz
    clear hz h1
    go_enter Tryz.func63, Tryz.ntmps63
    go_wp2
    go_ret
    exact ⟨ret_u8 HZ.out.symm, HX.out.bel⟩
  · have e1 : (need == 0) = false := beq_eq_false_iff_ne.2 h1
    have e2 : (str == -1) = true := beq_iff_eq.2 (by omega)
    have HZ := Lib.hid hz
    clear hz h1
    go_enter Tryz.func63, Tryz.ntmps63
    go_wp2
    go_ret
    exact ⟨ret_u8 HZ.out.symm, HX.out.bel⟩
  · have e1 : (need == 0) = false := beq_eq_false_iff_ne.2 h1
    have e2 : (str == -1) = false := beq_eq_false_iff_ne.2 (by omega)
    have e3 : (ball == (c.bows.length : Int)) = true := beq_iff_eq.2 h3
    have HZ := Lib.hid hz
    clear hz h1 h3
    go_enter Tryz.func63, Tryz.ntmps63
    go_wp2
    go_ret
    exact ⟨ret_u8 HZ.out.symm, HX.out.bel⟩
  · have e1 : (need == 0) = false := beq_eq_false_iff_ne.2 h1
    have e2 : (str == -1) = false := beq_eq_false_iff_ne.2 (by omega)
    have e3 : (ball == (c.bows.length : Int)) = false := beq_eq_false_iff_ne.2 h3
    have HZ := Lib.hid hz
    clear hz h1 h3
    go_enter Tryz.func63, Tryz.ntmps63
    go_wp2
    go_ret
    exact ⟨ret_u8 HZ.out.symm, HX.out.bel⟩
set_option maxRecDepth 100000 in
set_option maxHeartbeats 4000000 in
theorem r44_checkState (c : Chs) (s : Cst) (bv wv pv ov : Value) (w : World) (h : ChAt w (· < w.heap.size) bv wv pv ov c) :
    Calls Tryz.prog 31 #[chV c bv wv pv ov, stV s] w fun e w' => e = .returned (.int .i64 (stateC c s)) ∧ Below w.heap.size w w' := by
  unfold chV stV
  obtain ⟨ball, need, str, par, nxt⟩ := s
  obtain ⟨A, ca, rfl, hc1, hc2⟩ := h.mdl.bat.shape
  obtain ⟨A1, ca1, rfl, hc3, hc4⟩ := h.mdl.bow.shape
  obtain ⟨A2, ca2, rfl, hc5, hc6⟩ := h.bow.shape
  obtain ⟨A3, ca3, rfl, hc7, hc8⟩ := h.ord.shape
  have hx := CSB.new w c (.slice A c.mdl.bats.length ca) (.slice A1 c.mdl.bows.length ca1) (.slice A2 c.bows.length ca2) (.slice A3 c.ord.length ca3) ⟨ball, need, str, par, nxt⟩
  have HX := Lib.hid hx
  have HM := Lib.hid h
  obtain ⟨z, hz⟩ : ∃ z, z = stateC c ⟨ball, need, str, par, nxt⟩ := ⟨_, rfl⟩
  rw [← hz]
  have hbad : outC c ⟨ball, need, str, par, nxt⟩ = true → z = 2 := fun h => by rw [hz]; unfold stateC; rw [if_pos h]
  have harg : outC c ⟨ball, need, str, par, nxt⟩ = false → (str = par ∨ (str = -1 ∧ nxt < c.ord.length)) → z = 1 := fun h h2 => by rw [hz]; unfold stateC; rw [if_neg (by simp [h]), if_pos h2]
  have hok : outC c ⟨ball, need, str, par, nxt⟩ = false → ¬ (str = par ∨ (str = -1 ∧ nxt < c.ord.length)) → z = 0 := fun h h2 => by rw [hz]; unfold stateC; rw [if_neg (by simp [h]), if_neg h2]
  clear hx h hz
  cases b0 : outC.inC ball 0 c.bows.length
  · have HZ := Lib.hid (hbad (by unfold outC; simp [b0]))
    clear hbad harg hok
    have pz : ball < 0 ∨ (¬ ball < 0 ∧ (c.bows.length : Int) < ball) := by have := b0; unfold outC.inC at this; simp at this; omega
    clear b0
    rcases pz with g | ⟨g, g2⟩
    · skip
      go_enter Tryz.func31, Tryz.ntmps31
      go_wp2
      go_ret
      exact ⟨ret_i HZ.out.symm, HX.out.bel⟩
    · skip
      go_enter Tryz.func31, Tryz.ntmps31
      go_wp2
      go_ret
      exact ⟨ret_i HZ.out.symm, HX.out.bel⟩
  cases b1 : outC.inC need 0 c.need
  · have HZ := Lib.hid (hbad (by unfold outC; simp [b0, b1]))
    clear hbad harg hok
    have p0 := (show 0 ≤ ball ∧ ball ≤ (c.bows.length : Int) by have := b0; unfold outC.inC at this; simpa using this)
    obtain ⟨p0a, p0b⟩ := p0
    have pz : need < 0 ∨ (¬ need < 0 ∧ c.need < need) := by have := b1; unfold outC.inC at this; simp at this; omega
    clear b0 b1
    rcases pz with g | ⟨g, g2⟩
    · skip
      go_enter Tryz.func31, Tryz.ntmps31
      go_wp2
      go_ret
      exact ⟨ret_i HZ.out.symm, HX.out.bel⟩
    · skip
      go_enter Tryz.func31, Tryz.ntmps31
      go_wp2
      go_ret
      exact ⟨ret_i HZ.out.symm, HX.out.bel⟩
  cases b2 : outC.inC nxt 2 c.ord.length
  · have HZ := Lib.hid (hbad (by unfold outC; simp [b0, b1, b2]))
    clear hbad harg hok
    have p0 := (show 0 ≤ ball ∧ ball ≤ (c.bows.length : Int) by have := b0; unfold outC.inC at this; simpa using this)
    obtain ⟨p0a, p0b⟩ := p0
    have p1 := (show 0 ≤ need ∧ need ≤ c.need by have := b1; unfold outC.inC at this; simpa using this)
    obtain ⟨p1a, p1b⟩ := p1
    have pz : nxt < 2 ∨ (¬ nxt < 2 ∧ (c.ord.length : Int) < nxt) := by have := b2; unfold outC.inC at this; simp at this; omega
    clear b0 b1 b2
    rcases pz with g | ⟨g, g2⟩
    · skip
      go_enter Tryz.func31, Tryz.ntmps31
      go_wp2
      go_ret
      exact ⟨ret_i HZ.out.symm, HX.out.bel⟩
    · skip
      go_enter Tryz.func31, Tryz.ntmps31
      go_wp2
      go_ret
      exact ⟨ret_i HZ.out.symm, HX.out.bel⟩
  have gn : 2 ≤ nxt ∧ nxt ≤ (c.ord.length : Int) := by have := b2; unfold outC.inC at this; simpa using this
  obtain ⟨gn1, gn2⟩ := gn
  cases b3 : outC.inC str (-1) (nxt - 1)
  · have HZ := Lib.hid (hbad (by unfold outC; simp [b0, b1, b2, b3]))
    clear hbad harg hok
    have p0 := (show 0 ≤ ball ∧ ball ≤ (c.bows.length : Int) by have := b0; unfold outC.inC at this; simpa using this)
    obtain ⟨p0a, p0b⟩ := p0
    have p1 := (show 0 ≤ need ∧ need ≤ c.need by have := b1; unfold outC.inC at this; simpa using this)
    obtain ⟨p1a, p1b⟩ := p1
    have p2 := (show 2 ≤ nxt ∧ nxt ≤ (c.ord.length : Int) by have := b2; unfold outC.inC at this; simpa using this)
    obtain ⟨p2a, p2b⟩ := p2
    have pz : str < -1 ∨ (¬ str < -1 ∧ nxt - 1 < str) := by have := b3; unfold outC.inC at this; simp at this; omega
    clear b0 b1 b2 b3
    rcases pz with g | ⟨g, g2⟩
    · skip
      go_enter Tryz.func31, Tryz.ntmps31
      go_wp2
      go_ret
      exact ⟨ret_i HZ.out.symm, HX.out.bel⟩
    · skip
      go_enter Tryz.func31, Tryz.ntmps31
      go_wp2
      go_ret
      exact ⟨ret_i HZ.out.symm, HX.out.bel⟩
  cases b4 : outC.inC par 0 (nxt - 1)
  · have HZ := Lib.hid (hbad (by unfold outC; simp [b0, b1, b2, b3, b4]))
    clear hbad harg hok
    have p0 := (show 0 ≤ ball ∧ ball ≤ (c.bows.length : Int) by have := b0; unfold outC.inC at this; simpa using this)
    obtain ⟨p0a, p0b⟩ := p0
    have p1 := (show 0 ≤ need ∧ need ≤ c.need by have := b1; unfold outC.inC at this; simpa using this)
    obtain ⟨p1a, p1b⟩ := p1
    have p2 := (show 2 ≤ nxt ∧ nxt ≤ (c.ord.length : Int) by have := b2; unfold outC.inC at this; simpa using this)
    obtain ⟨p2a, p2b⟩ := p2
    have p3 := (show -1 ≤ str ∧ str ≤ nxt - 1 by have := b3; unfold outC.inC at this; simpa using this)
    obtain ⟨p3a, p3b⟩ := p3
    have pz : par < 0 ∨ (¬ par < 0 ∧ nxt - 1 < par) := by have := b4; unfold outC.inC at this; simp at this; omega
    clear b0 b1 b2 b3 b4
    rcases pz with g | ⟨g, g2⟩
    · skip
      go_enter Tryz.func31, Tryz.ntmps31
      go_wp2
      go_ret
      exact ⟨ret_i HZ.out.symm, HX.out.bel⟩
    · skip
      go_enter Tryz.func31, Tryz.ntmps31
      go_wp2
      go_ret
      exact ⟨ret_i HZ.out.symm, HX.out.bel⟩
  have ho : outC c ⟨ball, need, str, par, nxt⟩ = false := by unfold outC; simp [b0, b1, b2, b3, b4]
  have hno := outC_no ho
  dsimp only at hno
  obtain ⟨⟨q1, q2⟩, ⟨q3, q4⟩, _, ⟨q5, q6⟩, ⟨q7, q8⟩⟩ := hno
  by_cases h1 : str = par
  · have HZ := Lib.hid (harg ho (.inl h1))
    have e1 : (str == par) = true := beq_iff_eq.2 h1
    have h1' := Lib.hid h1
    clear hbad harg hok ho h1
    go_enter Tryz.func31, Tryz.ntmps31
    go_wp2
    go_ret
    exact ⟨ret_i HZ.out.symm, HX.out.bel⟩
  have e1 : (str == par) = false := beq_eq_false_iff_ne.2 h1
  by_cases h2 : str = -1
  · have e2 : (str == -1) = true := beq_iff_eq.2 h2
    by_cases h3 : nxt < (c.ord.length : Int)
    · have HZ := Lib.hid (harg ho (.inr ⟨h2, h3⟩))
      have h2' := Lib.hid h2
      clear hbad harg hok ho h1 h2
      go_enter Tryz.func31, Tryz.ntmps31
      go_wp2
      go_ret
      exact ⟨ret_i HZ.out.symm, HX.out.bel⟩
    · have HZ := Lib.hid (hok ho (by rintro (h | h); exact h1 h; exact h3 h.2))
      have h2' := Lib.hid h2
      clear hbad harg hok ho h1 h2
      go_enter Tryz.func31, Tryz.ntmps31
      go_wp2
      go_ret
      exact ⟨ret_i HZ.out.symm, HX.out.bel⟩
  · have e2 : (str == -1) = false := beq_eq_false_iff_ne.2 h2
    have HZ := Lib.hid (hok ho (by rintro (h | h); exact h1 h; exact h2 h.1))
    clear hbad harg hok ho h1 h2
    go_enter Tryz.func31, Tryz.ntmps31
    go_wp2
    go_ret
    exact ⟨ret_i HZ.out.symm, HX.out.bel⟩
end Go.Proofs.YtdlmmbfnmnglaaaGreatDoor

namespace Go.Proofs.YtdlmmbfnmnglaaaGreatDoor
open Go.RowKit

theorem Blk.put5 {w : World} {g : Nat} {t : TypeId} {a b c d e : Value} (h : Blk w g t #[a, b, c, d, e]) (x0 x1 x2 x3 x4 : Value) :
    Blk (((((w.setCell ⟨g, 0, none⟩ x0).setCell ⟨g, 1, none⟩ x1).setCell ⟨g, 2, none⟩ x2).setCell ⟨g, 3, none⟩ x3).setCell ⟨g, 4, none⟩ x4) g t #[x0, x1, x2, x3, x4] :=
  ((((h.set_ 0 x0).set_ 1 x1).set_ 2 x2).set_ 3 x3).set_ 4 x4
theorem below_set5 {B : Nat} {a w : World} (h : Below B a w) {g : Nat} (hg : B ≤ g) (x0 x1 x2 x3 x4 : Value) :
    Below B a (((((w.setCell ⟨g, 0, none⟩ x0).setCell ⟨g, 1, none⟩ x1).setCell ⟨g, 2, none⟩ x2).setCell ⟨g, 3, none⟩ x3).setCell ⟨g, 4, none⟩ x4) :=
  Below.setCell (Below.setCell (Below.setCell (Below.setCell (Below.setCell h hg x0) hg x1) hg x2) hg x3) hg x4
set_option maxRecDepth 100000 in
set_option maxHeartbeats 4000000 in
theorem ch44_moves (c : Chs) (s : Cst) (bv wv pv ov : Value) (w : World) (h : ChAt w (· < w.heap.size) bv wv pv ov c) (hc : OkC c) (hs : OkS c s) (h1 : stC c s = 1) :
    Calls Tryz.prog 75 #[chV c bv wv pv ov, stV s] w fun e w' => ∃ A n k, e = .returned (.slice A n k) ∧ Below w.heap.size w w' ∧ Sl 3 elOtc w' (fun b => w.heap.size ≤ b ∧ b < w'.heap.size) (.slice A n k) (mvC c s) := by
  unfold chV stV
  obtain ⟨ball, need, str, par, nxt⟩ := s
  obtain ⟨A, ca, rfl, hc1, hc2⟩ := h.mdl.bat.shape
  obtain ⟨A1, ca1, rfl, hc3, hc4⟩ := h.mdl.bow.shape
  obtain ⟨A2, ca2, rfl, hc5, hc6⟩ := h.bow.shape
  obtain ⟨A3, ca3, rfl, hc7, hc8⟩ := h.ord.shape
  have hx := CSB.new w c (.slice A c.mdl.bats.length ca) (.slice A1 c.mdl.bows.length ca1) (.slice A2 c.bows.length ca2) (.slice A3 c.ord.length ca3) ⟨ball, need, str, par, nxt⟩
  have HX := Lib.hid hx
  have HM := Lib.hid h
  obtain ⟨i, j, bt, bw, e1, e2, s0, s1, i0, i1, j0, j1, f1, f2, hsh, hq5⟩ := mvC_at hc hs h1
  have sn := hs.str.2
  have sx := hs.nxt.2
  have sb := hs.ball.1
  dsimp only at e1 e2 s0 s1 sn sx sb
  obtain ⟨a, rfl⟩ : ∃ a : Nat, str = (a : Int) := ⟨str.toNat, by omega⟩
  obtain ⟨e, rfl⟩ : ∃ a : Nat, ball = (a : Int) := ⟨ball.toNat, by omega⟩
  obtain ⟨i, rfl⟩ : ∃ a : Nat, i = (a : Int) := ⟨i.toNat, by omega⟩
  obtain ⟨j, rfl⟩ : ∃ a : Nat, j = (a : Int) := ⟨j.toNat, by omega⟩
  rw [Int.toNat_natCast] at e1 e2 f1 f2
  have la : a < c.ord.length := by omega
  have le : e < c.bows.length := by omega
  have li : i < c.mdl.bats.length := by omega
  have lj : j < c.mdl.bows.length := by omega
  have ga : c.ord[a] = (i : Int) := by rw [List.getElem?_eq_getElem la] at e1; exact Option.some.inj e1
  have ge : c.bows[e] = (j : Int) := by rw [List.getElem?_eq_getElem le] at e2; exact Option.some.inj e2
  have gi : c.mdl.bats[i] = bt := by rw [List.getElem?_eq_getElem li] at f1; exact Option.some.inj f1
  have gj : c.mdl.bows[j] = bw := by rw [List.getElem?_eq_getElem lj] at f2; exact Option.some.inj f2
  obtain ⟨b0, o0, rfl, hb0, z0⟩ := int_at h.ord la
  obtain ⟨b1, o1, rfl, hb1, z1⟩ := int_at h.bow le
  obtain ⟨b2, o2, v, rfl, hb2, hq3, z2, hv, hq1⟩ := bat_at h.mdl.bat li
  obtain ⟨b3, o3, rfl, hb3, hq4, z3, hq2⟩ := bow_at h.mdl.bow lj
  rw [ga] at z0
  rw [ge] at z1
  rw [gi] at hv
  rw [gj] at z3
  have ks := fun W (hW : Below w.heap.size w W) => m_Shift bt.dist v bw.shift W (hv.keep elOtc_good (Same.of_below hW) fun b h => Nat.lt_of_lt_of_le h hW.size)
  rw [hsh] at ks
  obtain ⟨n, hn⟩ : ∃ n, n = bw.shift := ⟨_, rfl⟩
  rw [← hn] at ks z3
  obtain ⟨l, hl⟩ : ∃ l, l = mvC c ⟨(e : Int), need, (a : Int), par, nxt⟩ := ⟨_, rfl⟩
  rw [← hl] at ks ⊢
  have KS := Lib.hid ks
  obtain ⟨W, hW⟩ : ∃ W, W = (w.alloc (.cells (chC c (.slice (some ⟨b2, o2, none⟩) c.mdl.bats.length ca) (.slice (some ⟨b3, o3, none⟩) c.mdl.bows.length ca1) (.slice (some ⟨b1, o1, none⟩) c.bows.length ca2) (.slice (some ⟨b0, o0, none⟩) c.ord.length ca3)) 28)).alloc (.cells #[.int .i64 (e : Int), .int .i64 need, .int .i64 (a : Int), .int .i64 par, .int .i64 nxt] 30) := ⟨_, rfl⟩
  have hx2 : CSB w W w.heap.size c (.slice (some ⟨b2, o2, none⟩) c.mdl.bats.length ca) (.slice (some ⟨b3, o3, none⟩) c.mdl.bows.length ca1) (.slice (some ⟨b1, o1, none⟩) c.bows.length ca2) (.slice (some ⟨b0, o0, none⟩) c.ord.length ca3) ⟨(e : Int), need, (a : Int), par, nxt⟩ := by rw [hW]; exact hx
  have y0 : W.cell? ⟨b0, o0 + a, none⟩ = some (.int .i64 (i : Int)) := (hx2.bel.cell (p := ⟨b0, o0 + a, none⟩) hb0).trans z0
  have y1 : W.cell? ⟨b1, o1 + e, none⟩ = some (.int .i64 (j : Int)) := (hx2.bel.cell (p := ⟨b1, o1 + e, none⟩) hb1).trans z1
  have y2 : W.cell? ⟨b2, o2 + i * 2 + 1, none⟩ = some v := (hx2.bel.cell (p := ⟨b2, o2 + i * 2 + 1, none⟩) hb2).trans z2
  have y3 : W.cell? ⟨b3, o3 + j * 2 + 1, none⟩ = some (.int .i64 n) := (hx2.bel.cell (p := ⟨b3, o3 + j * 2 + 1, none⟩) hb3).trans z3
  have HX2 := Lib.hid hx2
  have Z0 := Lib.hid z0
  have Z1 := Lib.hid z1
  have Z2 := Lib.hid z2
  have Z3 := Lib.hid z3
  have B0 := Lib.hid hb0
  have B1 := Lib.hid hb1
  have B2 := Lib.hid hb2
  have B3 := Lib.hid hb3
  have HW := Lib.hid hW
  have p1 : (0 : Int) ≤ (a : Int) := by omega
  have p2 : (a : Int) < (c.ord.length : Int) := by omega
  have p3 : (0 : Int) ≤ (e : Int) := by omega
  have p4 : (e : Int) < (c.bows.length : Int) := by omega
  have p5 : (0 : Int) ≤ (i : Int) := by omega
  have p6 : (i : Int) < (c.mdl.bats.length : Int) := by omega
  have p7 : (0 : Int) ≤ (j : Int) := by omega
  have p8 : (j : Int) < (c.mdl.bows.length : Int) := by omega
  clear hq1 hq2 hq3 hq4 hq5 ks hn hl hsh hv z0 z1 z2 z3 hb0 hb1 hb2 hb3 ga ge gi gj la le li lj e1 e2 f1 f2 s0 s1 i0 i1 j0 j1 sn sx sb h1 hs hc hx h HM HX hx2 hW y0 y1 y2 y3
  go_enter Tryz.func75, Tryz.ntmps75
  go_wp2
  unfold chC at HW
  rw [← HW.out]
  clear HW
  have y0 : W.cell? ⟨b0, o0 + a, none⟩ = some (.int .i64 (i : Int)) := (HX2.out.bel.cell (p := ⟨b0, o0 + a, none⟩) B0.out).trans Z0.out
  have y1 : W.cell? ⟨b1, o1 + e, none⟩ = some (.int .i64 (j : Int)) := (HX2.out.bel.cell (p := ⟨b1, o1 + e, none⟩) B1.out).trans Z1.out
  have y2 : W.cell? ⟨b2, o2 + i * 2 + 1, none⟩ = some v := (HX2.out.bel.cell (p := ⟨b2, o2 + i * 2 + 1, none⟩) B2.out).trans Z2.out
  have y3 : W.cell? ⟨b3, o3 + j * 2 + 1, none⟩ = some (.int .i64 n) := (HX2.out.bel.cell (p := ⟨b3, o3 + j * 2 + 1, none⟩) B3.out).trans Z3.out
  obtain ⟨x0, x1, x2, x3, x4, x5, x6, t0, t1, t2, t3, t4⟩ := HX2.out.cells
  dsimp only at t0 t1 t2 t3 t4
  have HXD := Lib.hid HX2.out.drew
  go_region_held3 (fun w' => w'.cell? ⟨w.heap.size, 0, none⟩ = some (.slice (some ⟨b2, o2, none⟩) c.mdl.bats.length ca) ∧ w'.cell? ⟨w.heap.size, 1, none⟩ = some (.slice (some ⟨b3, o3, none⟩) c.mdl.bows.length ca1) ∧ w'.cell? ⟨w.heap.size, 2, none⟩ = some (.slice (some ⟨b1, o1, none⟩) c.bows.length ca2) ∧ w'.cell? ⟨w.heap.size, 6, none⟩ = some (.slice (some ⟨b0, o0, none⟩) c.ord.length ca3) ∧ w'.cell? ⟨w.heap.size + 1, 0, none⟩ = some (.int .i64 (e : Int)) ∧ w'.cell? ⟨w.heap.size + 1, 2, none⟩ = some (.int .i64 (a : Int)) ∧ w'.cell? ⟨b0, o0 + a, none⟩ = some (.int .i64 (i : Int)) ∧ w'.cell? ⟨b1, o1 + e, none⟩ = some (.int .i64 (j : Int)) ∧ w'.cell? ⟨b2, o2 + i * 2 + 1, none⟩ = some v ∧ w'.cell? ⟨b3, o3 + j * 2 + 1, none⟩ = some (.int .i64 n)) (first | exact ⟨x0, x1, x2, x6, t0, t2, u0, u1, u2, u3⟩ | exact ⟨x0, x1, x2, x6, t0, t2, y0, y1, y2, y3⟩ | go_keep) ((go_at_call 112; refine (KS.out _ HXD.out.bel).mono ?_; rintro e4 w4 ⟨v4, rfl, hs4, hb4⟩; obtain ⟨A4, c4, rfl, hc41, hc42⟩ := hs4.shape; have HX4 := Lib.hid (HXD.out.below hb4); obtain ⟨x0, x1, x2, x3, x4, x5, x6, t0, t1, t2, t3, t4⟩ := HX4.out.cells; dsimp only at t0 t1 t2 t3 t4; have u0 := (hb4.cell (p := ⟨b0, o0 + a, none⟩) (Nat.lt_of_lt_of_le B0.out HXD.out.bel.size)).trans y0; have u1 := (hb4.cell (p := ⟨b1, o1 + e, none⟩) (Nat.lt_of_lt_of_le B1.out HXD.out.bel.size)).trans y1; have u2 := (hb4.cell (p := ⟨b2, o2 + i * 2 + 1, none⟩) (Nat.lt_of_lt_of_le B2.out HXD.out.bel.size)).trans y2; have u3 := (hb4.cell (p := ⟨b3, o3 + j * 2 + 1, none⟩) (Nat.lt_of_lt_of_le B3.out HXD.out.bel.size)).trans y3; have HS4 := Lib.hid hs4; clear hs4 hb4))
  all_goals go_wp2
  go_ret
  exact ⟨_, _, _, rfl, HX4.out.bel, HS4.out.keep elOtc_good (Same.refl _ _) fun b h => ⟨Nat.le_trans HXD.out.bel.size h.1, h.2⟩⟩
theorem ch44_start_ret {R' : Ending → World → Prop} {a : Act} {w : World} {x0 x1 x2 x3 x4 v : Value} {g : Nat} (h2 : a.tmps[2]? = some (.pointer (some ⟨g, 0, none⟩))) (h3 : a.tmps[3]? = some v) (hb : Blk w g 30 #[x0, x1, x2, x3, x4])
    (hd : a.defers = []) (hR : R' (.returned (.tuple #[.agg #[x0, x1, x2, x3, x4], v])) w) : bodyPost Tryz.prog Tryz.f22 R' .ret a w := by
  have r0 := hb.cell 0
  have r1 := hb.cell 1
  have r2 := hb.cell 2
  have r3 := hb.cell 3
  have r4 := hb.cell 4
  simp only [List.getElem?_toArray, List.getElem?_cons_zero, List.getElem?_cons_succ] at r0 r1 r2 r3 r4
  refine bodyPost_ret (v := .tuple #[.agg #[x0, x1, x2, x3, x4], v]) (by simp [results, Tryz.results22, go_sem, h2, h3, r0, r1, r2, r3, r4]) hd hR
set_option maxRecDepth 100000 in
set_option maxHeartbeats 4000000 in
theorem ch44_Start (c : Chs) (bv wv pv ov : Value) (w : World) (h : ChAt w (· < w.heap.size) bv wv pv ov c) :
    Calls Tryz.prog 22 #[chV c bv wv pv ov] w fun e w' => e = .returned (.tuple #[stV (startC c).1, .int .i64 (startC c).2]) ∧ Below w.heap.size w w' := by
  unfold chV
  obtain ⟨z, hz⟩ : ∃ z, z = startC c := ⟨_, rfl⟩
  rw [← hz]
  unfold startC at hz
  have hx := ChB.new w c bv wv pv ov
  have k1 := fun W (hW : Below w.heap.size w W) => ch44_Check c _ _ _ _ W (h.below hW)
  unfold chV at k1
  obtain ⟨u, hu⟩ : ∃ u, u = checkC c := ⟨_, rfl⟩
  rw [← hu] at k1 hz
  obtain ⟨A, ca, rfl, hc1, hc2⟩ := h.mdl.bat.shape
  obtain ⟨A1, ca1, rfl, hc3, hc4⟩ := h.mdl.bow.shape
  obtain ⟨A2, ca2, rfl, hc5, hc6⟩ := h.bow.shape
  obtain ⟨A3, ca3, rfl, hc7, hc8⟩ := h.ord.shape
  have HXR := Lib.hid (⟨hx.alloc (.cells #[.int .i64 0, .int .i64 0, .int .i64 0, .int .i64 0, .int .i64 0] 30), by have := Blk.new (w.alloc (.cells #[.slice A c.mdl.bats.length ca, .slice A1 c.mdl.bows.length ca1, .slice A2 c.bows.length ca2, .int .i64 c.over, .int .i64 c.done, .int .i64 c.need, .slice A3 c.ord.length ca3] 28)) 30 #[.int .i64 0, .int .i64 0, .int .i64 0, .int .i64 0, .int .i64 0]; rw [World.size_alloc] at this; exact this⟩ : ChB w ((w.alloc (.cells #[.slice A c.mdl.bats.length ca, .slice A1 c.mdl.bows.length ca1, .slice A2 c.bows.length ca2, .int .i64 c.over, .int .i64 c.done, .int .i64 c.need, .slice A3 c.ord.length ca3] 28)).alloc (.cells #[.int .i64 0, .int .i64 0, .int .i64 0, .int .i64 0, .int .i64 0] 30)) w.heap.size c (.slice A c.mdl.bats.length ca) (.slice A1 c.mdl.bows.length ca1) (.slice A2 c.bows.length ca2) (.slice A3 c.ord.length ca3) ∧ Blk ((w.alloc (.cells #[.slice A c.mdl.bats.length ca, .slice A1 c.mdl.bows.length ca1, .slice A2 c.bows.length ca2, .int .i64 c.over, .int .i64 c.done, .int .i64 c.need, .slice A3 c.ord.length ca3] 28)).alloc (.cells #[.int .i64 0, .int .i64 0, .int .i64 0, .int .i64 0, .int .i64 0] 30)) (w.heap.size + 1) 30 #[.int .i64 0, .int .i64 0, .int .i64 0, .int .i64 0, .int .i64 0])
  have K1 := Lib.hid k1
  clear k1 hu h hx
  by_cases h0 : u = 0
  · rw [if_neg (by omega)] at hz
    have HZ := Lib.hid hz
    have eu : (u != 0) = false := by simp [h0]
    clear hz h0
    go_enter Tryz.func22, Tryz.ntmps22
    go_wp2_with (go_at_call 60; refine (K1.out _ HXR.out.1.bel).mono ?_; rintro e w2 ⟨rfl, hb2⟩; have HX2 := Lib.hid (HXR.out.1.below hb2); have HR2 := Lib.hid (HXR.out.2.below hb2 HXR.out.2.lt); obtain ⟨x0, x1, x2, x3, x4, x5, x6⟩ := HX2.out.cells; have y0 := HR2.out.cell 0; have y1 := HR2.out.cell 1; have y2 := HR2.out.cell 2; have y3 := HR2.out.cell 3; have y4 := HR2.out.cell 4; have g0 := HR2.out.frozen 0; have g1 := HR2.out.frozen 1; have g2 := HR2.out.frozen 2; have g3 := HR2.out.frozen 3; have g4 := HR2.out.frozen 4; simp only [List.getElem?_toArray, List.getElem?_cons_zero, List.getElem?_cons_succ] at y0 y1 y2 y3 y4; clear hb2)
    refine ch44_start_ret rfl rfl (HR2.out.put5 _ _ _ _ _) rfl ⟨by rw [HZ.out]; rfl, ?_⟩
    exact below_set5 HX2.out.bel (by omega) _ _ _ _ _
  · rw [if_pos h0] at hz
    have HZ := Lib.hid hz
    have eu : (u != 0) = true := by simp [h0]
    clear hz h0
    go_enter Tryz.func22, Tryz.ntmps22
    go_wp2_with (go_at_call 60; refine (K1.out _ HXR.out.1.bel).mono ?_; rintro e w2 ⟨rfl, hb2⟩; have HX2 := Lib.hid (HXR.out.1.below hb2); have HR2 := Lib.hid (HXR.out.2.below hb2 HXR.out.2.lt); obtain ⟨x0, x1, x2, x3, x4, x5, x6⟩ := HX2.out.cells; have y0 := HR2.out.cell 0; have y1 := HR2.out.cell 1; have y2 := HR2.out.cell 2; have y3 := HR2.out.cell 3; have y4 := HR2.out.cell 4; have g0 := HR2.out.frozen 0; have g1 := HR2.out.frozen 1; have g2 := HR2.out.frozen 2; have g3 := HR2.out.frozen 3; have g4 := HR2.out.frozen 4; simp only [List.getElem?_toArray, List.getElem?_cons_zero, List.getElem?_cons_succ] at y0 y1 y2 y3 y4; clear hb2)
    refine ch44_start_ret rfl rfl (HR2.out.put5 _ _ _ _ _) rfl ⟨by rw [HZ.out]; rfl, ?_⟩
    exact below_set5 HX2.out.bel (by omega) _ _ _ _ _
set_option maxRecDepth 100000 in
set_option maxHeartbeats 4000000 in
theorem r44_moves (c : Chs) (s : Cst) (bv wv pv ov : Value) (w : World) (h : ChAt w (· < w.heap.size) bv wv pv ov c) (hc : OkC c) (hs : OkS c s) (h1 : stC c s = 1) :
    Calls Tryz.prog 65 #[chV c bv wv pv ov, stV s] w fun e w' => ∃ A n k, e = .returned (.slice A n k) ∧ Below w.heap.size w w' ∧ Sl 3 elOtc w' (fun b => w.heap.size ≤ b ∧ b < w'.heap.size) (.slice A n k) (mvC c s) := by
  unfold chV stV
  obtain ⟨ball, need, str, par, nxt⟩ := s
  obtain ⟨A, ca, rfl, hc1, hc2⟩ := h.mdl.bat.shape
  obtain ⟨A1, ca1, rfl, hc3, hc4⟩ := h.mdl.bow.shape
  obtain ⟨A2, ca2, rfl, hc5, hc6⟩ := h.bow.shape
  obtain ⟨A3, ca3, rfl, hc7, hc8⟩ := h.ord.shape
  have hx := CSB.new w c (.slice A c.mdl.bats.length ca) (.slice A1 c.mdl.bows.length ca1) (.slice A2 c.bows.length ca2) (.slice A3 c.ord.length ca3) ⟨ball, need, str, par, nxt⟩
  have HX := Lib.hid hx
  have HM := Lib.hid h
  obtain ⟨i, j, bt, bw, e1, e2, s0, s1, i0, i1, j0, j1, f1, f2, hsh, hq5⟩ := mvC_at hc hs h1
  have sn := hs.str.2
  have sx := hs.nxt.2
  have sb := hs.ball.1
  dsimp only at e1 e2 s0 s1 sn sx sb
  obtain ⟨a, rfl⟩ : ∃ a : Nat, str = (a : Int) := ⟨str.toNat, by omega⟩
  obtain ⟨e, rfl⟩ : ∃ a : Nat, ball = (a : Int) := ⟨ball.toNat, by omega⟩
  obtain ⟨i, rfl⟩ : ∃ a : Nat, i = (a : Int) := ⟨i.toNat, by omega⟩
  obtain ⟨j, rfl⟩ : ∃ a : Nat, j = (a : Int) := ⟨j.toNat, by omega⟩
  rw [Int.toNat_natCast] at e1 e2 f1 f2
  have la : a < c.ord.length := by omega
  have le : e < c.bows.length := by omega
  have li : i < c.mdl.bats.length := by omega
  have lj : j < c.mdl.bows.length := by omega
  have ga : c.ord[a] = (i : Int) := by rw [List.getElem?_eq_getElem la] at e1; exact Option.some.inj e1
  have ge : c.bows[e] = (j : Int) := by rw [List.getElem?_eq_getElem le] at e2; exact Option.some.inj e2
  have gi : c.mdl.bats[i] = bt := by rw [List.getElem?_eq_getElem li] at f1; exact Option.some.inj f1
  have gj : c.mdl.bows[j] = bw := by rw [List.getElem?_eq_getElem lj] at f2; exact Option.some.inj f2
  obtain ⟨b0, o0, rfl, hb0, z0⟩ := int_at h.ord la
  obtain ⟨b1, o1, rfl, hb1, z1⟩ := int_at h.bow le
  obtain ⟨b2, o2, v, rfl, hb2, hq3, z2, hv, hq1⟩ := bat_at h.mdl.bat li
  obtain ⟨b3, o3, rfl, hb3, hq4, z3, hq2⟩ := bow_at h.mdl.bow lj
  rw [ga] at z0
  rw [ge] at z1
  rw [gi] at hv
  rw [gj] at z3
  have ks := fun W (hW : Below w.heap.size w W) => r_Shift bt.dist v bw.shift W (hv.keep elOtc_good (Same.of_below hW) fun b h => Nat.lt_of_lt_of_le h hW.size)
  rw [hsh] at ks
  obtain ⟨n, hn⟩ : ∃ n, n = bw.shift := ⟨_, rfl⟩
  rw [← hn] at ks z3
  obtain ⟨l, hl⟩ : ∃ l, l = mvC c ⟨(e : Int), need, (a : Int), par, nxt⟩ := ⟨_, rfl⟩
  rw [← hl] at ks ⊢
  have KS := Lib.hid ks
  obtain ⟨W, hW⟩ : ∃ W, W = (w.alloc (.cells (chC c (.slice (some ⟨b2, o2, none⟩) c.mdl.bats.length ca) (.slice (some ⟨b3, o3, none⟩) c.mdl.bows.length ca1) (.slice (some ⟨b1, o1, none⟩) c.bows.length ca2) (.slice (some ⟨b0, o0, none⟩) c.ord.length ca3)) 28)).alloc (.cells #[.int .i64 (e : Int), .int .i64 need, .int .i64 (a : Int), .int .i64 par, .int .i64 nxt] 30) := ⟨_, rfl⟩
  have hx2 : CSB w W w.heap.size c (.slice (some ⟨b2, o2, none⟩) c.mdl.bats.length ca) (.slice (some ⟨b3, o3, none⟩) c.mdl.bows.length ca1) (.slice (some ⟨b1, o1, none⟩) c.bows.length ca2) (.slice (some ⟨b0, o0, none⟩) c.ord.length ca3) ⟨(e : Int), need, (a : Int), par, nxt⟩ := by rw [hW]; exact hx
  have y0 : W.cell? ⟨b0, o0 + a, none⟩ = some (.int .i64 (i : Int)) := (hx2.bel.cell (p := ⟨b0, o0 + a, none⟩) hb0).trans z0
  have y1 : W.cell? ⟨b1, o1 + e, none⟩ = some (.int .i64 (j : Int)) := (hx2.bel.cell (p := ⟨b1, o1 + e, none⟩) hb1).trans z1
  have y2 : W.cell? ⟨b2, o2 + i * 2 + 1, none⟩ = some v := (hx2.bel.cell (p := ⟨b2, o2 + i * 2 + 1, none⟩) hb2).trans z2
  have y3 : W.cell? ⟨b3, o3 + j * 2 + 1, none⟩ = some (.int .i64 n) := (hx2.bel.cell (p := ⟨b3, o3 + j * 2 + 1, none⟩) hb3).trans z3
  have HX2 := Lib.hid hx2
  have Z0 := Lib.hid z0
  have Z1 := Lib.hid z1
  have Z2 := Lib.hid z2
  have Z3 := Lib.hid z3
  have B0 := Lib.hid hb0
  have B1 := Lib.hid hb1
  have B2 := Lib.hid hb2
  have B3 := Lib.hid hb3
  have HW := Lib.hid hW
  have p1 : (0 : Int) ≤ (a : Int) := by omega
  have p2 : (a : Int) < (c.ord.length : Int) := by omega
  have p3 : (0 : Int) ≤ (e : Int) := by omega
  have p4 : (e : Int) < (c.bows.length : Int) := by omega
  have p5 : (0 : Int) ≤ (i : Int) := by omega
  have p6 : (i : Int) < (c.mdl.bats.length : Int) := by omega
  have p7 : (0 : Int) ≤ (j : Int) := by omega
  have p8 : (j : Int) < (c.mdl.bows.length : Int) := by omega
  clear hq1 hq2 hq3 hq4 hq5 ks hn hl hsh hv z0 z1 z2 z3 hb0 hb1 hb2 hb3 ga ge gi gj la le li lj e1 e2 f1 f2 s0 s1 i0 i1 j0 j1 sn sx sb h1 hs hc hx h HM HX hx2 hW y0 y1 y2 y3
  go_enter Tryz.func65, Tryz.ntmps65
  go_wp2
  unfold chC at HW
  rw [← HW.out]
  clear HW
  have y0 : W.cell? ⟨b0, o0 + a, none⟩ = some (.int .i64 (i : Int)) := (HX2.out.bel.cell (p := ⟨b0, o0 + a, none⟩) B0.out).trans Z0.out
  have y1 : W.cell? ⟨b1, o1 + e, none⟩ = some (.int .i64 (j : Int)) := (HX2.out.bel.cell (p := ⟨b1, o1 + e, none⟩) B1.out).trans Z1.out
  have y2 : W.cell? ⟨b2, o2 + i * 2 + 1, none⟩ = some v := (HX2.out.bel.cell (p := ⟨b2, o2 + i * 2 + 1, none⟩) B2.out).trans Z2.out
  have y3 : W.cell? ⟨b3, o3 + j * 2 + 1, none⟩ = some (.int .i64 n) := (HX2.out.bel.cell (p := ⟨b3, o3 + j * 2 + 1, none⟩) B3.out).trans Z3.out
  obtain ⟨x0, x1, x2, x3, x4, x5, x6, t0, t1, t2, t3, t4⟩ := HX2.out.cells
  dsimp only at t0 t1 t2 t3 t4
  have HXD := Lib.hid HX2.out.drew
  go_region_held3 (fun w' => w'.cell? ⟨w.heap.size, 0, none⟩ = some (.slice (some ⟨b2, o2, none⟩) c.mdl.bats.length ca) ∧ w'.cell? ⟨w.heap.size, 1, none⟩ = some (.slice (some ⟨b3, o3, none⟩) c.mdl.bows.length ca1) ∧ w'.cell? ⟨w.heap.size, 2, none⟩ = some (.slice (some ⟨b1, o1, none⟩) c.bows.length ca2) ∧ w'.cell? ⟨w.heap.size, 6, none⟩ = some (.slice (some ⟨b0, o0, none⟩) c.ord.length ca3) ∧ w'.cell? ⟨w.heap.size + 1, 0, none⟩ = some (.int .i64 (e : Int)) ∧ w'.cell? ⟨w.heap.size + 1, 2, none⟩ = some (.int .i64 (a : Int)) ∧ w'.cell? ⟨b0, o0 + a, none⟩ = some (.int .i64 (i : Int)) ∧ w'.cell? ⟨b1, o1 + e, none⟩ = some (.int .i64 (j : Int)) ∧ w'.cell? ⟨b2, o2 + i * 2 + 1, none⟩ = some v ∧ w'.cell? ⟨b3, o3 + j * 2 + 1, none⟩ = some (.int .i64 n)) (first | exact ⟨x0, x1, x2, x6, t0, t2, u0, u1, u2, u3⟩ | exact ⟨x0, x1, x2, x6, t0, t2, y0, y1, y2, y3⟩ | go_keep) ((go_at_call 110; refine (KS.out _ HXD.out.bel).mono ?_; rintro e4 w4 ⟨v4, rfl, hs4, hb4⟩; obtain ⟨A4, c4, rfl, hc41, hc42⟩ := hs4.shape; have HX4 := Lib.hid (HXD.out.below hb4); obtain ⟨x0, x1, x2, x3, x4, x5, x6, t0, t1, t2, t3, t4⟩ := HX4.out.cells; dsimp only at t0 t1 t2 t3 t4; have u0 := (hb4.cell (p := ⟨b0, o0 + a, none⟩) (Nat.lt_of_lt_of_le B0.out HXD.out.bel.size)).trans y0; have u1 := (hb4.cell (p := ⟨b1, o1 + e, none⟩) (Nat.lt_of_lt_of_le B1.out HXD.out.bel.size)).trans y1; have u2 := (hb4.cell (p := ⟨b2, o2 + i * 2 + 1, none⟩) (Nat.lt_of_lt_of_le B2.out HXD.out.bel.size)).trans y2; have u3 := (hb4.cell (p := ⟨b3, o3 + j * 2 + 1, none⟩) (Nat.lt_of_lt_of_le B3.out HXD.out.bel.size)).trans y3; have HS4 := Lib.hid hs4; clear hs4 hb4))
  all_goals go_wp2
  go_ret
  exact ⟨_, _, _, rfl, HX4.out.bel, HS4.out.keep elOtc_good (Same.refl _ _) fun b h => ⟨Nat.le_trans HXD.out.bel.size h.1, h.2⟩⟩
theorem r44_start_ret {R' : Ending → World → Prop} {a : Act} {w : World} {x0 x1 x2 x3 x4 v : Value} {g : Nat} (h2 : a.tmps[2]? = some (.pointer (some ⟨g, 0, none⟩))) (h3 : a.tmps[3]? = some v) (hb : Blk w g 30 #[x0, x1, x2, x3, x4])
    (hd : a.defers = []) (hR : R' (.returned (.tuple #[.agg #[x0, x1, x2, x3, x4], v])) w) : bodyPost Tryz.prog Tryz.f24 R' .ret a w := by
  have r0 := hb.cell 0
  have r1 := hb.cell 1
  have r2 := hb.cell 2
  have r3 := hb.cell 3
  have r4 := hb.cell 4
  simp only [List.getElem?_toArray, List.getElem?_cons_zero, List.getElem?_cons_succ] at r0 r1 r2 r3 r4
  refine bodyPost_ret (v := .tuple #[.agg #[x0, x1, x2, x3, x4], v]) (by simp [results, Tryz.results24, go_sem, h2, h3, r0, r1, r2, r3, r4]) hd hR
set_option maxRecDepth 100000 in
set_option maxHeartbeats 4000000 in
theorem r44_Start (c : Chs) (bv wv pv ov : Value) (w : World) (h : ChAt w (· < w.heap.size) bv wv pv ov c) :
    Calls Tryz.prog 24 #[chV c bv wv pv ov] w fun e w' => e = .returned (.tuple #[stV (startC c).1, .int .i64 (startC c).2]) ∧ Below w.heap.size w w' := by
  unfold chV
  obtain ⟨z, hz⟩ : ∃ z, z = startC c := ⟨_, rfl⟩
  rw [← hz]
  unfold startC at hz
  have hx := ChB.new w c bv wv pv ov
  have k1 := fun W (hW : Below w.heap.size w W) => r44_Check c _ _ _ _ W (h.below hW)
  unfold chV at k1
  obtain ⟨u, hu⟩ : ∃ u, u = checkC c := ⟨_, rfl⟩
  rw [← hu] at k1 hz
  obtain ⟨A, ca, rfl, hc1, hc2⟩ := h.mdl.bat.shape
  obtain ⟨A1, ca1, rfl, hc3, hc4⟩ := h.mdl.bow.shape
  obtain ⟨A2, ca2, rfl, hc5, hc6⟩ := h.bow.shape
  obtain ⟨A3, ca3, rfl, hc7, hc8⟩ := h.ord.shape
  have HXR := Lib.hid (⟨hx.alloc (.cells #[.int .i64 0, .int .i64 0, .int .i64 0, .int .i64 0, .int .i64 0] 30), by have := Blk.new (w.alloc (.cells #[.slice A c.mdl.bats.length ca, .slice A1 c.mdl.bows.length ca1, .slice A2 c.bows.length ca2, .int .i64 c.over, .int .i64 c.done, .int .i64 c.need, .slice A3 c.ord.length ca3] 28)) 30 #[.int .i64 0, .int .i64 0, .int .i64 0, .int .i64 0, .int .i64 0]; rw [World.size_alloc] at this; exact this⟩ : ChB w ((w.alloc (.cells #[.slice A c.mdl.bats.length ca, .slice A1 c.mdl.bows.length ca1, .slice A2 c.bows.length ca2, .int .i64 c.over, .int .i64 c.done, .int .i64 c.need, .slice A3 c.ord.length ca3] 28)).alloc (.cells #[.int .i64 0, .int .i64 0, .int .i64 0, .int .i64 0, .int .i64 0] 30)) w.heap.size c (.slice A c.mdl.bats.length ca) (.slice A1 c.mdl.bows.length ca1) (.slice A2 c.bows.length ca2) (.slice A3 c.ord.length ca3) ∧ Blk ((w.alloc (.cells #[.slice A c.mdl.bats.length ca, .slice A1 c.mdl.bows.length ca1, .slice A2 c.bows.length ca2, .int .i64 c.over, .int .i64 c.done, .int .i64 c.need, .slice A3 c.ord.length ca3] 28)).alloc (.cells #[.int .i64 0, .int .i64 0, .int .i64 0, .int .i64 0, .int .i64 0] 30)) (w.heap.size + 1) 30 #[.int .i64 0, .int .i64 0, .int .i64 0, .int .i64 0, .int .i64 0])
  have K1 := Lib.hid k1
  clear k1 hu h hx
  by_cases h0 : u = 0
  · rw [if_neg (by omega)] at hz
    have HZ := Lib.hid hz
    have eu : (u != 0) = false := by simp [h0]
    clear hz h0
    go_enter Tryz.func24, Tryz.ntmps24
    go_wp2_with (go_at_call 62; refine (K1.out _ HXR.out.1.bel).mono ?_; rintro e w2 ⟨rfl, hb2⟩; have HX2 := Lib.hid (HXR.out.1.below hb2); have HR2 := Lib.hid (HXR.out.2.below hb2 HXR.out.2.lt); obtain ⟨x0, x1, x2, x3, x4, x5, x6⟩ := HX2.out.cells; have y0 := HR2.out.cell 0; have y1 := HR2.out.cell 1; have y2 := HR2.out.cell 2; have y3 := HR2.out.cell 3; have y4 := HR2.out.cell 4; have g0 := HR2.out.frozen 0; have g1 := HR2.out.frozen 1; have g2 := HR2.out.frozen 2; have g3 := HR2.out.frozen 3; have g4 := HR2.out.frozen 4; simp only [List.getElem?_toArray, List.getElem?_cons_zero, List.getElem?_cons_succ] at y0 y1 y2 y3 y4; clear hb2)
    refine r44_start_ret rfl rfl (HR2.out.put5 _ _ _ _ _) rfl ⟨by rw [HZ.out]; rfl, ?_⟩
    exact below_set5 HX2.out.bel (by omega) _ _ _ _ _
  · rw [if_pos h0] at hz
    have HZ := Lib.hid hz
    have eu : (u != 0) = true := by simp [h0]
    clear hz h0
    go_enter Tryz.func24, Tryz.ntmps24
    go_wp2_with (go_at_call 62; refine (K1.out _ HXR.out.1.bel).mono ?_; rintro e w2 ⟨rfl, hb2⟩; have HX2 := Lib.hid (HXR.out.1.below hb2); have HR2 := Lib.hid (HXR.out.2.below hb2 HXR.out.2.lt); obtain ⟨x0, x1, x2, x3, x4, x5, x6⟩ := HX2.out.cells; have y0 := HR2.out.cell 0; have y1 := HR2.out.cell 1; have y2 := HR2.out.cell 2; have y3 := HR2.out.cell 3; have y4 := HR2.out.cell 4; have g0 := HR2.out.frozen 0; have g1 := HR2.out.frozen 1; have g2 := HR2.out.frozen 2; have g3 := HR2.out.frozen 3; have g4 := HR2.out.frozen 4; simp only [List.getElem?_toArray, List.getElem?_cons_zero, List.getElem?_cons_succ] at y0 y1 y2 y3 y4; clear hb2)
    refine r44_start_ret rfl rfl (HR2.out.put5 _ _ _ _ _) rfl ⟨by rw [HZ.out]; rfl, ?_⟩
    exact below_set5 HX2.out.bel (by omega) _ _ _ _ _
end Go.Proofs.YtdlmmbfnmnglaaaGreatDoor

namespace Go.Proofs.YtdlmmbfnmnglaaaGreatDoor
open Go.RowKit

theorem Blk.drewNB {w : World} {g : Nat} {t : TypeId} {cs : Array Value} (h : Blk w g t cs) (n : Nat) : Blk (w.drewN n) g t cs := h
theorem blk_r (w : World) (o1 o2 o3 : Obj) : Blk ((((w.alloc o1).alloc o2).alloc o3).alloc (.cells #[.int .i64 0, .int .i64 0, .int .i64 0, .int .i64 0, .int .i64 0] 30)) (w.heap.size + 1 + 1 + 1) 30 #[.int .i64 0, .int .i64 0, .int .i64 0, .int .i64 0, .int .i64 0] := by
  have h := Blk.new (((w.alloc o1).alloc o2).alloc o3) 30 #[.int .i64 0, .int .i64 0, .int .i64 0, .int .i64 0, .int .i64 0]
  rw [World.size_alloc, World.size_alloc, World.size_alloc] at h
  exact h
theorem blk_rv (w : World) (o1 o2 o3 : Obj) (x0 x1 x2 x3 x4 : Value) : Blk ((((w.alloc o1).alloc o2).alloc o3).alloc (.cells #[x0, x1, x2, x3, x4] 30)) (w.heap.size + 1 + 1 + 1) 30 #[x0, x1, x2, x3, x4] := by
  have h := Blk.new (((w.alloc o1).alloc o2).alloc o3) 30 #[x0, x1, x2, x3, x4]
  rw [World.size_alloc, World.size_alloc, World.size_alloc] at h
  exact h
theorem ne31 (n : Nat) : n + 1 + 1 + 1 ≠ n + 1 := by omega
theorem le3 (n : Nat) : n ≤ n + 1 + 1 + 1 := by omega
theorem le1 (n : Nat) : n ≤ n + 1 := by omega
theorem blk_far1 {W : World} {n : Nat} {t : TypeId} {cs : Array Value} (h : Blk W (n + 1 + 1 + 1) t cs) (i : Nat) (u : Value) : Blk (W.setCell ⟨n + 1, i, none⟩ u) (n + 1 + 1 + 1) t cs := h.far (ne31 n) u
theorem below_far1 {W a : World} {n : Nat} (h : Below n a W) (i : Nat) (u : Value) : Below n a (W.setCell ⟨n + 1, i, none⟩ u) := Below.setCell h (le1 n) u
theorem below_r (w : World) (o1 o2 o3 o4 : Obj) : Below w.heap.size w ((((w.alloc o1).alloc o2).alloc o3).alloc o4) :=
  Below.alloc (Below.alloc (Below.alloc (Below.alloc (Below.refl _ _) (Nat.le_refl _) o1) (by simp) o2) (by simp; omega) o3) (by simp; omega) o4
theorem ch44_step_ret {R' : Ending → World → Prop} {a : Act} {w : World} {x0 x1 x2 x3 x4 : Value} {g : Nat} (h2 : a.tmps[6]? = some (.pointer (some ⟨g, 0, none⟩))) (hb : Blk w g 30 #[x0, x1, x2, x3, x4])
    (hd : a.defers = []) (hR : R' (.returned (.agg #[x0, x1, x2, x3, x4])) w) : bodyPost Tryz.prog Tryz.f76 R' .ret a w := by
  have r0 := hb.cell 0
  have r1 := hb.cell 1
  have r2 := hb.cell 2
  have r3 := hb.cell 3
  have r4 := hb.cell 4
  simp only [List.getElem?_toArray, List.getElem?_cons_zero, List.getElem?_cons_succ] at r0 r1 r2 r3 r4
  refine bodyPost_ret (v := .agg #[x0, x1, x2, x3, x4]) (by simp [results, Tryz.results76, go_sem, h2, r0, r1, r2, r3, r4]) hd hR
set_option maxRecDepth 100000 in
set_option maxHeartbeats 4000000 in
theorem ch44_step (c : Chs) (s : Cst) (o : Otc) (A A1 A2 A3 : Option Addr) (ca ca1 ca2 ca3 : Nat) (w : World) (hc : OkC c) (hs : OkS c s) (h1 : stC c s = 1) (hr : 0 ≤ o.runs ∧ o.runs ≤ 7) :
    Calls Tryz.prog 76 #[.agg #[.slice A c.mdl.bats.length ca, .slice A1 c.mdl.bows.length ca1, .slice A2 c.bows.length ca2, .int .i64 c.over, .int .i64 c.done, .int .i64 c.need, .slice A3 c.ord.length ca3], stV s, .agg #[.int .i64 o.runs, .bool o.wick, .int .i64 o.wt]] w fun e w' => e = .returned (stV (stepC c s o)) ∧ Below w.heap.size w w' := by
  obtain ⟨z, hz⟩ : ∃ z, z = stepC c s o := ⟨_, rfl⟩
  rw [← hz]
  unfold stepC at hz
  obtain ⟨ball, need, str, par, nxt⟩ := s
  obtain ⟨pr, pw, pt⟩ := o
  unfold stV
  dsimp only at hr hz ⊢
  have b1 := hs.ball
  have b2 := hs.need
  have b3 := hs.nxt
  have b4 := hs.str
  have b5 := hs.par
  have b6 := hc.nb
  have b7 := hc.need
  have b8 := hc.no
  have b9 := hc.over
  have b10 := hc.done
  have hst := (left_run hs h1).2.1
  dsimp only at b1 b2 b3 b4 b5 hst
  obtain ⟨m, hm⟩ : ∃ m, max (need - pr) 0 = m := ⟨_, rfl⟩
  have hm2 : max 0 (need - pr) = m := by rw [← hm]; omega
  have hm3 : 0 ≤ m ∧ m ≤ 84 := by omega
  rw [hm] at hz
  have hsw : swapC c (ball + 1) ⟨pr, pw, pt⟩ = (decide (pr % 2 = 1) != decide ((c.done + (ball + 1)) % c.over = 0)) := rfl
  have e1 : (pr % 2 == 1) = decide (pr % 2 = 1) := by by_cases h : pr % 2 = 1 <;> simp [h]
  have e2 : ((c.done + (ball + 1)) % c.over == 0) = decide ((c.done + (ball + 1)) % c.over = 0) := by by_cases h : (c.done + (ball + 1)) % c.over = 0 <;> simp [h]
  rw [hsw] at hz
  obtain ⟨x1, hx1⟩ : ∃ x, x = decide (pr % 2 = 1) := ⟨_, rfl⟩
  obtain ⟨x2, hx2⟩ : ∃ x, x = decide ((c.done + (ball + 1)) % c.over = 0) := ⟨_, rfl⟩
  rw [← hx1] at e1 hz
  rw [← hx2] at e2 hz
  obtain ⟨over, hov⟩ : ∃ x, x = c.over := ⟨_, rfl⟩
  obtain ⟨done, hdo⟩ : ∃ x, x = c.done := ⟨_, rfl⟩
  rw [← hov, ← hdo] at e2 ⊢
  rw [← hov] at b9
  rw [← hdo, ← hov] at b10
  obtain ⟨c1, c2⟩ := b1
  obtain ⟨c3, c4⟩ := b2
  obtain ⟨c5, c6⟩ := b3
  obtain ⟨c7, c8⟩ := b4
  obtain ⟨c9, c10⟩ := b5
  obtain ⟨c11, c12⟩ := b6
  obtain ⟨c13, c14⟩ := b7
  obtain ⟨c15, c16⟩ := b8
  obtain ⟨c17, c18⟩ := b9
  obtain ⟨c19, c20⟩ := b10
  obtain ⟨c21, c22⟩ := hr
  obtain ⟨c23, c24⟩ := hm3
  have d0 : (str == -1) = false := beq_eq_false_iff_ne.2 (by omega)
  clear hx1 hx2 hov hdo hsw hs hc h1
  cases pw
  · rw [if_neg (by simp)] at hz
    cases x1 <;> cases x2 <;> simp only [bne_self_eq_false, if_true, if_false, Bool.false_eq_true, Bool.bne_false, Bool.bne_true, Bool.not_false, Bool.not_true] at hz
    all_goals
      have HZ := Lib.hid hz
      clear hz
      go_enter Tryz.func76, Tryz.ntmps76
      go_wp2
      go_quiet (fail)
      go_wp2
      apply ch44_step_ret (g := w.heap.size + 1 + 1 + 1) (h2 := rfl) (hd := rfl)
      case hb =>
        first
          | with_reducible exact blk_rv _ _ _ _ _ _ _ _ _
          | (with_reducible apply Blk.put5
             repeat (first | with_reducible refine Blk.drewNB ?_ _ | with_reducible refine blk_far1 ?_ _ _)
             with_reducible exact blk_r _ _ _ _)
      case hR =>
        refine ⟨by rw [HZ.out], ?_⟩
        first
          | with_reducible exact below_r _ _ _ _ _
          | (with_reducible refine below_set5 ?_ (le3 _) _ _ _ _ _
             repeat (first | with_reducible refine Below.drewN_ ?_ _ | with_reducible refine below_far1 ?_ _ _)
             with_reducible exact below_r _ _ _ _ _)
  · rw [if_pos rfl] at hz
    by_cases hn : nxt = (c.ord.length : Int)
    · rw [if_pos hn] at hz
      have en : (nxt == (c.ord.length : Int)) = true := beq_iff_eq.2 hn
      have en2 : ¬ nxt < (c.ord.length : Int) := by omega
      have HZ := Lib.hid hz
      clear hz hn
      cases x1 <;> cases x2
      all_goals
        go_enter Tryz.func76, Tryz.ntmps76
        go_wp2
        apply ch44_step_ret (g := w.heap.size + 1 + 1 + 1) (h2 := rfl) (hd := rfl)
        case hb =>
          first
            | with_reducible exact blk_rv _ _ _ _ _ _ _ _ _
            | (with_reducible apply Blk.put5
               repeat (first | with_reducible refine Blk.drewNB ?_ _ | with_reducible refine blk_far1 ?_ _ _)
               with_reducible exact blk_r _ _ _ _)
        case hR =>
          refine ⟨by rw [HZ.out], ?_⟩
          first
            | with_reducible exact below_r _ _ _ _ _
            | (with_reducible refine below_set5 ?_ (le3 _) _ _ _ _ _
               repeat (first | with_reducible refine Below.drewN_ ?_ _ | with_reducible refine below_far1 ?_ _ _)
               with_reducible exact below_r _ _ _ _ _)
    · rw [if_neg hn] at hz
      have en : (nxt == (c.ord.length : Int)) = false := beq_eq_false_iff_ne.2 hn
      have en2 : nxt < (c.ord.length : Int) := by omega
      cases x1 <;> cases x2 <;> simp only [bne_self_eq_false, if_true, if_false, Bool.false_eq_true, Bool.bne_false, Bool.bne_true, Bool.not_false, Bool.not_true] at hz
      all_goals
        have HZ := Lib.hid hz
        clear hz hn
        go_enter Tryz.func76, Tryz.ntmps76
        go_wp2
        go_quiet (fail)
        go_wp2
        apply ch44_step_ret (g := w.heap.size + 1 + 1 + 1) (h2 := rfl) (hd := rfl)
        case hb =>
          first
            | with_reducible exact blk_rv _ _ _ _ _ _ _ _ _
            | (with_reducible apply Blk.put5
               repeat (first | with_reducible refine Blk.drewNB ?_ _ | with_reducible refine blk_far1 ?_ _ _)
               with_reducible exact blk_r _ _ _ _)
        case hR =>
          refine ⟨by rw [HZ.out], ?_⟩
          first
            | with_reducible exact below_r _ _ _ _ _
            | (with_reducible refine below_set5 ?_ (le3 _) _ _ _ _ _
               repeat (first | with_reducible refine Below.drewN_ ?_ _ | with_reducible refine below_far1 ?_ _ _)
               with_reducible exact below_r _ _ _ _ _)

theorem r44_after_ret {R' : Ending → World → Prop} {a : Act} {w : World} {x0 x1 x2 x3 x4 : Value} {g : Nat} (h2 : a.tmps[6]? = some (.pointer (some ⟨g, 0, none⟩))) (hb : Blk w g 30 #[x0, x1, x2, x3, x4])
    (hd : a.defers = []) (hR : R' (.returned (.agg #[x0, x1, x2, x3, x4])) w) : bodyPost Tryz.prog Tryz.f66 R' .ret a w := by
  have r0 := hb.cell 0
  have r1 := hb.cell 1
  have r2 := hb.cell 2
  have r3 := hb.cell 3
  have r4 := hb.cell 4
  simp only [List.getElem?_toArray, List.getElem?_cons_zero, List.getElem?_cons_succ] at r0 r1 r2 r3 r4
  refine bodyPost_ret (v := .agg #[x0, x1, x2, x3, x4]) (by simp [results, Tryz.results66, go_sem, h2, r0, r1, r2, r3, r4]) hd hR
set_option maxRecDepth 100000 in
set_option maxHeartbeats 4000000 in
theorem r44_after (c : Chs) (s : Cst) (o : Otc) (A A1 A2 A3 : Option Addr) (ca ca1 ca2 ca3 : Nat) (w : World) (hc : OkC c) (hs : OkS c s) (h1 : stC c s = 1) (hr : 0 ≤ o.runs ∧ o.runs ≤ 7) :
    Calls Tryz.prog 66 #[.agg #[.slice A c.mdl.bats.length ca, .slice A1 c.mdl.bows.length ca1, .slice A2 c.bows.length ca2, .int .i64 c.over, .int .i64 c.done, .int .i64 c.need, .slice A3 c.ord.length ca3], stV s, .agg #[.int .i64 o.runs, .bool o.wick, .int .i64 o.wt]] w fun e w' => e = .returned (stV (stepC c s o)) ∧ Below w.heap.size w w' := by
  obtain ⟨z, hz⟩ : ∃ z, z = stepC c s o := ⟨_, rfl⟩
  rw [← hz]
  unfold stepC at hz
  obtain ⟨ball, need, str, par, nxt⟩ := s
  obtain ⟨pr, pw, pt⟩ := o
  unfold stV
  dsimp only at hr hz ⊢
  have b1 := hs.ball
  have b2 := hs.need
  have b3 := hs.nxt
  have b4 := hs.str
  have b5 := hs.par
  have b6 := hc.nb
  have b7 := hc.need
  have b8 := hc.no
  have b9 := hc.over
  have b10 := hc.done
  have hst := (left_run hs h1).2.1
  dsimp only at b1 b2 b3 b4 b5 hst
  obtain ⟨m, hm⟩ : ∃ m, max (need - pr) 0 = m := ⟨_, rfl⟩
  have hm2 : max 0 (need - pr) = m := by rw [← hm]; omega
  have hm3 : 0 ≤ m ∧ m ≤ 84 := by omega
  rw [hm] at hz
  have hsw : swapC c (ball + 1) ⟨pr, pw, pt⟩ = (decide (pr % 2 = 1) != decide ((c.done + (ball + 1)) % c.over = 0)) := rfl
  have e1 : (pr % 2 == 1) = decide (pr % 2 = 1) := by by_cases h : pr % 2 = 1 <;> simp [h]
  have e2 : ((c.done + (ball + 1)) % c.over == 0) = decide ((c.done + (ball + 1)) % c.over = 0) := by by_cases h : (c.done + (ball + 1)) % c.over = 0 <;> simp [h]
  rw [hsw] at hz
  obtain ⟨x1, hx1⟩ : ∃ x, x = decide (pr % 2 = 1) := ⟨_, rfl⟩
  obtain ⟨x2, hx2⟩ : ∃ x, x = decide ((c.done + (ball + 1)) % c.over = 0) := ⟨_, rfl⟩
  rw [← hx1] at e1 hz
  rw [← hx2] at e2 hz
  obtain ⟨over, hov⟩ : ∃ x, x = c.over := ⟨_, rfl⟩
  obtain ⟨done, hdo⟩ : ∃ x, x = c.done := ⟨_, rfl⟩
  rw [← hov, ← hdo] at e2 ⊢
  rw [← hov] at b9
  rw [← hdo, ← hov] at b10
  obtain ⟨c1, c2⟩ := b1
  obtain ⟨c3, c4⟩ := b2
  obtain ⟨c5, c6⟩ := b3
  obtain ⟨c7, c8⟩ := b4
  obtain ⟨c9, c10⟩ := b5
  obtain ⟨c11, c12⟩ := b6
  obtain ⟨c13, c14⟩ := b7
  obtain ⟨c15, c16⟩ := b8
  obtain ⟨c17, c18⟩ := b9
  obtain ⟨c19, c20⟩ := b10
  obtain ⟨c21, c22⟩ := hr
  obtain ⟨c23, c24⟩ := hm3
  have d0 : (str == -1) = false := beq_eq_false_iff_ne.2 (by omega)
  clear hx1 hx2 hov hdo hsw hs hc h1
  cases pw
  · rw [if_neg (by simp)] at hz
    cases x1 <;> cases x2 <;> simp only [bne_self_eq_false, if_true, if_false, Bool.false_eq_true, Bool.bne_false, Bool.bne_true, Bool.not_false, Bool.not_true] at hz
    all_goals
      have HZ := Lib.hid hz
      clear hz
      go_enter Tryz.func66, Tryz.ntmps66
      go_wp2
      apply r44_after_ret (g := w.heap.size + 1 + 1 + 1) (h2 := rfl) (hd := rfl)
      case hb =>
        first
          | with_reducible exact blk_rv _ _ _ _ _ _ _ _ _
          | (with_reducible apply Blk.put5
             repeat (first | with_reducible refine Blk.drewNB ?_ _ | with_reducible refine blk_far1 ?_ _ _)
             with_reducible exact blk_r _ _ _ _)
      case hR =>
        refine ⟨by rw [HZ.out], ?_⟩
        first
          | with_reducible exact below_r _ _ _ _ _
          | (with_reducible refine below_set5 ?_ (le3 _) _ _ _ _ _
             repeat (first | with_reducible refine Below.drewN_ ?_ _ | with_reducible refine below_far1 ?_ _ _)
             with_reducible exact below_r _ _ _ _ _)
  · rw [if_pos rfl] at hz
    by_cases hn : nxt = (c.ord.length : Int)
    · rw [if_pos hn] at hz
      have en : (nxt == (c.ord.length : Int)) = true := beq_iff_eq.2 hn
      have en2 : ¬ nxt < (c.ord.length : Int) := by omega
      have HZ := Lib.hid hz
      clear hz hn
      cases x1 <;> cases x2
      all_goals
        go_enter Tryz.func66, Tryz.ntmps66
        go_wp2
        apply r44_after_ret (g := w.heap.size + 1 + 1 + 1) (h2 := rfl) (hd := rfl)
        case hb =>
          first
            | with_reducible exact blk_rv _ _ _ _ _ _ _ _ _
            | (with_reducible apply Blk.put5
               repeat (first | with_reducible refine Blk.drewNB ?_ _ | with_reducible refine blk_far1 ?_ _ _)
               with_reducible exact blk_r _ _ _ _)
        case hR =>
          refine ⟨by rw [HZ.out], ?_⟩
          first
            | with_reducible exact below_r _ _ _ _ _
            | (with_reducible refine below_set5 ?_ (le3 _) _ _ _ _ _
               repeat (first | with_reducible refine Below.drewN_ ?_ _ | with_reducible refine below_far1 ?_ _ _)
               with_reducible exact below_r _ _ _ _ _)
    · rw [if_neg hn] at hz
      have en : (nxt == (c.ord.length : Int)) = false := beq_eq_false_iff_ne.2 hn
      have en2 : nxt < (c.ord.length : Int) := by omega
      cases x1 <;> cases x2 <;> simp only [bne_self_eq_false, if_true, if_false, Bool.false_eq_true, Bool.bne_false, Bool.bne_true, Bool.not_false, Bool.not_true] at hz
      all_goals
        have HZ := Lib.hid hz
        clear hz hn
        go_enter Tryz.func66, Tryz.ntmps66
        go_wp2
        apply r44_after_ret (g := w.heap.size + 1 + 1 + 1) (h2 := rfl) (hd := rfl)
        case hb =>
          first
            | with_reducible exact blk_rv _ _ _ _ _ _ _ _ _
            | (with_reducible apply Blk.put5
               repeat (first | with_reducible refine Blk.drewNB ?_ _ | with_reducible refine blk_far1 ?_ _ _)
               with_reducible exact blk_r _ _ _ _)
        case hR =>
          refine ⟨by rw [HZ.out], ?_⟩
          first
            | with_reducible exact below_r _ _ _ _ _
            | (with_reducible refine below_set5 ?_ (le3 _) _ _ _ _ _
               repeat (first | with_reducible refine Below.drewN_ ?_ _ | with_reducible refine below_far1 ?_ _ _)
               with_reducible exact below_r _ _ _ _ _)

end Go.Proofs.YtdlmmbfnmnglaaaGreatDoor

namespace Go.Proofs.YtdlmmbfnmnglaaaGreatDoor
open Go.RowKit

set_option maxRecDepth 100000 in
set_option maxHeartbeats 4000000 in
theorem ch44_power (c : Chs) (s : Cst) (bv wv pv ov : Value) (w : World) (h : ChAt w (· < w.heap.size) bv wv pv ov c) (hc : OkC c) (hs : OkS c s) :
    Calls Tryz.prog 74 #[chV c bv wv pv ov, stV s] w fun e w' => e = .returned (.int .i64 (pow16 (leftC c s))) ∧ Below w.heap.size w w' := by
  unfold chV stV
  obtain ⟨ball, need, str, par, nxt⟩ := s
  obtain ⟨A, ca, rfl, hc1, hc2⟩ := h.mdl.bat.shape
  obtain ⟨A1, ca1, rfl, hc3, hc4⟩ := h.mdl.bow.shape
  obtain ⟨A2, ca2, rfl, hc5, hc6⟩ := h.bow.shape
  obtain ⟨A3, ca3, rfl, hc7, hc8⟩ := h.ord.shape
  have hx := CSB.new w c (.slice A c.mdl.bats.length ca) (.slice A1 c.mdl.bows.length ca1) (.slice A2 c.bows.length ca2) (.slice A3 c.ord.length ca3) ⟨ball, need, str, par, nxt⟩
  have HX := Lib.hid hx
  have HM := Lib.hid h
  obtain ⟨n, hn⟩ : ∃ n, n = leftC c ⟨ball, need, str, par, nxt⟩ := ⟨_, rfl⟩
  have hn12 := left_le hc hs
  rw [← hn] at hn12
  have hb := hs.ball
  dsimp only at hb
  have hbn : (c.bows.length : Int) - ball = (n : Int) := by rw [hn]; unfold leftC; dsimp only; omega
  rw [← hn]
  obtain ⟨z, hz⟩ : ∃ z, z = pow16 n := ⟨_, rfl⟩
  rw [← hz]
  have hnb := hc.nb
  obtain ⟨hb1, hb2⟩ := hb
  obtain ⟨hnb1, hnb2⟩ := hnb
  clear hs hc hn hx h
  have hcase : n = 0 ∨ n = 1 ∨ n = 2 ∨ n = 3 ∨ n = 4 ∨ n = 5 ∨ n = 6 ∨ n = 7 ∨ n = 8 ∨ n = 9 ∨ n = 10 ∨ n = 11 ∨ n = 12 := by omega
  clear hn12
  rcases hcase with rfl | rfl | rfl | rfl | rfl | rfl | rfl | rfl | rfl | rfl | rfl | rfl | rfl
  all_goals
    have HZ := Lib.hid hz
    have hq := hbn
    simp only [Int.natCast_zero, Int.natCast_one, Int.cast_ofNat_Int] at hq
    clear hz hbn
    go_enter Tryz.func74, Tryz.ntmps74
    go_wp2
    go_ret
    exact ⟨ret_i (by rw [HZ.out]; first | rfl | decide), HX.out.bel⟩
set_option maxRecDepth 100000 in
set_option maxHeartbeats 4000000 in
theorem r44_ended (c : Chs) (s : Cst) (bv wv pv ov : Value) (w : World) (h : ChAt w (· < w.heap.size) bv wv pv ov c) (hc : OkC c) (hs : OkS c s) :
    Calls Tryz.prog 64 #[chV c bv wv pv ov, stV s] w fun e w' => e = .returned (.int .i64 (if stC c s = 2 then pow16 (leftC c s) else 0)) ∧ Below w.heap.size w w' := by
  unfold chV stV
  obtain ⟨ball, need, str, par, nxt⟩ := s
  obtain ⟨A, ca, rfl, hc1, hc2⟩ := h.mdl.bat.shape
  obtain ⟨A1, ca1, rfl, hc3, hc4⟩ := h.mdl.bow.shape
  obtain ⟨A2, ca2, rfl, hc5, hc6⟩ := h.bow.shape
  obtain ⟨A3, ca3, rfl, hc7, hc8⟩ := h.ord.shape
  have hx := CSB.new w c (.slice A c.mdl.bats.length ca) (.slice A1 c.mdl.bows.length ca1) (.slice A2 c.bows.length ca2) (.slice A3 c.ord.length ca3) ⟨ball, need, str, par, nxt⟩
  have HX := Lib.hid hx
  have HM := Lib.hid h
  obtain ⟨n, hn⟩ : ∃ n, n = leftC c ⟨ball, need, str, par, nxt⟩ := ⟨_, rfl⟩
  have hn12 := left_le hc hs
  rw [← hn] at hn12
  have hb := hs.ball
  dsimp only at hb
  have hbn : (c.bows.length : Int) - ball = (n : Int) := by rw [hn]; unfold leftC; dsimp only; omega
  rw [← hn]
  have k1 := fun W (hW : Below w.heap.size w W) => r44_status c ⟨ball, need, str, par, nxt⟩ _ _ _ _ W (HM.out.below hW) hs
  unfold chV stV at k1
  dsimp only at k1
  have k2 := fun W => ref_Unit (n : Int) W
  have hu : unitS (n : Int) = (pow16 n, 0) := by unfold unitS; rw [if_neg (by omega), Int.toNat_natCast, pow16_unit]
  rw [hu] at k2
  rw [← hbn] at k2
  obtain ⟨v, hv⟩ : ∃ v, v = stC c ⟨ball, need, str, par, nxt⟩ := ⟨_, rfl⟩
  rw [← hv] at k1 ⊢
  have K1 := Lib.hid k1
  have K2 := Lib.hid k2
  have hnb := hc.nb
  obtain ⟨hb1, hb2⟩ := hb
  obtain ⟨hnb1, hnb2⟩ := hnb
  have tok0 : True := trivial
  clear k1 k2 hs hc hn hx h hu hv hbn hn12
  by_cases h2 : v = 2
  · rw [if_pos h2]
    have e2 : (v == 2) = true := beq_iff_eq.2 h2
    clear h2
    go_enter Tryz.func64, Tryz.ntmps64
    go_wp2_with (first
      | (clear tok0; go_at_call 63; refine (K1.out _ HX.out.bel).mono ?_; rintro e w2 ⟨rfl, hb2'⟩; have HX2 := Lib.hid (HX.out.below hb2'); obtain ⟨x0, x1, x2, x3, x4, x5, x6, y0, y1, y2, y3, y4⟩ := HX2.out.cells; dsimp only at y0 y1 y2 y3 y4; clear hb2'; have tok1 : True := trivial)
      | (clear tok1; go_at_call 93; refine (K2.out _).mono ?_; rintro e w3 ⟨rfl, rfl⟩; have tok2 : True := trivial))
    go_ret
    exact ⟨rfl, HX2.out.bel⟩
  · rw [if_neg h2]
    have e2 : (v == 2) = false := beq_eq_false_iff_ne.2 h2
    clear h2
    go_enter Tryz.func64, Tryz.ntmps64
    go_wp2_with (clear tok0; go_at_call 63; refine (K1.out _ HX.out.bel).mono ?_; rintro e w2 ⟨rfl, hb2'⟩; have HX2 := Lib.hid (HX.out.below hb2'); obtain ⟨x0, x1, x2, x3, x4, x5, x6, y0, y1, y2, y3, y4⟩ := HX2.out.cells; dsimp only at y0 y1 y2 y3 y4; clear hb2'; have tok1 : True := trivial)
    go_ret
    exact ⟨rfl, HX2.out.bel⟩
end Go.Proofs.YtdlmmbfnmnglaaaGreatDoor

namespace Go.Proofs.YtdlmmbfnmnglaaaGreatDoor

def nextsC (c : Chs) (s : Cst) : List Cst := if stC c s = 1 then (mvC c s).map (stepC c s) else []
theorem nextsC_end {c : Chs} {s : Cst} (h : stC c s ≠ 1) : nextsC c s = [] := by unfold nextsC; rw [if_neg h]
theorem nextsC_run {c : Chs} {s : Cst} (h : stC c s = 1) : nextsC c s = (mvC c s).map (stepC c s) := by unfold nextsC; rw [if_pos h]
/-- A state that is reached from r. -/
def ReachC (c : Chs) (r s : Cst) : Prop := ∀ P : Cst → Prop, P r → (∀ s x, P s → x ∈ nextsC c s → P x) → P s
theorem ReachC.start (c : Chs) (r : Cst) : ReachC c r r := fun _ h _ => h
theorem ReachC.next {c : Chs} {r s : Cst} (h : ReachC c r s) : ∀ x ∈ nextsC c s, ReachC c r x := fun x hx P h1 h2 => h2 s x (h P h1 h2) hx
end Go.Proofs.YtdlmmbfnmnglaaaGreatDoor

namespace Go.Proofs.YtdlmmbfnmnglaaaGreatDoor
open Go.RowKit Go.Maps

def keyS (s : Cst) : Lit := .string (keyBytes [.int .i64 s.ball, .int .i64 s.need, .int .i64 s.str, .int .i64 s.par, .int .i64 s.nxt])
structure Smol (s : Cst) : Prop where
  ball : -1000 ≤ s.ball ∧ s.ball ≤ 1000
  need : -1000 ≤ s.need ∧ s.need ≤ 1000
  str : -1000 ≤ s.str ∧ s.str ≤ 1000
  par : -1000 ≤ s.par ∧ s.par ≤ 1000
  nxt : -1000 ≤ s.nxt ∧ s.nxt ≤ 1000
theorem OkS.smol {c : Chs} {s : Cst} (hc : OkC c) (h : OkS c s) : Smol s := by
  have := hc.nb; have := hc.need; have := hc.no; have := h.ball; have := h.need; have := h.nxt; have := h.str; have := h.par
  exact ⟨by omega, by omega, by omega, by omega, by omega⟩
theorem law44 : Keyed Tryz.prog 30 := Keyed.of_law (deep_law_gate (by kernel_rfl) (of_decide_eq_true (by kernel_rfl)) (of_decide_eq_true (by kernel_rfl)) (by kernel_rfl) (by kernel_rfl))
theorem wf_small {x : Int} (h : -1000 ≤ x ∧ x ≤ 1000) : (Lit.int .i64 x).wf = true := WalkArith.wf_i64 (by omega)
theorem key_of {s : Cst} (h : Smol s) : keyOf Tryz.prog 30 (stV s) = some (keyS s) := by
  have hkt : Tryz.prog.keyType 30 = true := by kernel_rfl
  have hce : Tryz.prog.cellsOf 30 = 5 := by kernel_rfl
  have hci : Tryz.prog.cellsOf 3 = 1 := by kernel_rfl
  obtain ⟨m, hm⟩ : ∃ m, Tryz.prog.types.size = m + 1 := ⟨Tryz.prog.types.size - 1, by kernel_rfl⟩
  have w0 := wf_small h.ball
  have w1 := wf_small h.need
  have w2 := wf_small h.str
  have w3 := wf_small h.par
  have w4 := wf_small h.nxt
  unfold keyOf stV keyS
  simp only [Tryz.underlying30]
  rw [if_pos (by simp [hkt, Value.formed, Tryz.underlying30, hce]), hm]
  unfold Program.keyLits
  simp only [Tryz.underlying30, Value.cells]
  rw [if_pos ⟨by rw [hce]; rfl, by kernel_rfl⟩]
  simp [hci, Program.keyLits, Tryz.underlying3, w0, w1, w2, w3, w4]
theorem key_inj {s t : Cst} (hs : Smol s) (ht : Smol t) (h : keyS s = keyS t) : s = t := by
  have e := keyOf_inj_deep (P := Tryz.prog) (m := Tryz.prog.types.size + 1) (k := 30) (by kernel_rfl) (by kernel_rfl) (key_of hs) (h ▸ key_of ht)
  obtain ⟨a1, a2, a3, a4, a5⟩ := s
  obtain ⟨b1, b2, b3, b4, b5⟩ := t
  unfold stV at e
  simp at e
  obtain ⟨rfl, rfl, rfl, rfl, rfl⟩ := e
  rfl
theorem key_lit (s : Cst) : WideAt.IsKeyLit (keyS s) := by unfold keyS; trivial
theorem zero_i64 (w : World) : (zeroValue 2).run Tryz.prog w = .ok (.int .i64 0) w := by kernel_rfl
/-- Nothing is taken out. -/
def GrewC (D D' : DataW Unit) : Prop := ∀ s, Maps.has D (keyS s) = true → Maps.has D' (keyS s) = true
theorem GrewC.refl (D : DataW Unit) : GrewC D D := fun _ h => h
theorem GrewC.trans {A B C : DataW Unit} (h : GrewC A B) (k : GrewC B C) : GrewC A C := fun s x => k s (h s x)
theorem GrewC.put {D : DataW Unit} (hD : IsMap D) (s : Cst) (v : DataW Unit) : GrewC D (D.put (keyS s) v) := fun t h => by
  by_cases e : keyS t = keyS s
  · rw [e]; exact has_put_same hD (key_lit _) _
  · rw [has_put_other e]; exact h
/-- Every state of the map has its value; every key is a state that is reached from r; with a state all that follow are there. -/
structure Known (c : Chs) (r : Cst) (D : DataW Unit) : Prop where
  val : ∀ s, OkS c s → Maps.has D (keyS s) = true → D.atKey (keyS s) (.lit (.int .i64 0)) = .lit (.int .i64 (valS c s))
  sub : ∀ k, Maps.has D k = true → ∃ s, k = keyS s ∧ OkS c s ∧ ReachC c r s
  clo : ∀ s, OkS c s → Maps.has D (keyS s) = true → ∀ x ∈ nextsC c s, Maps.has D (keyS x) = true
theorem Known.none (c : Chs) (r : Cst) : Known c r (.map []) := ⟨fun s _ h => (by cases h), fun k h => (by cases h), fun s _ h => (by cases h)⟩
theorem Known.put {c : Chs} {r : Cst} {D : DataW Unit} (h : Known c r D) (hD : IsMap D) (hc : OkC c) {s : Cst} (hs : OkS c s) (hr : ReachC c r s) (hx : ∀ x ∈ nextsC c s, Maps.has D (keyS x) = true) : Known c r (D.put (keyS s) (.lit (.int .i64 (valS c s)))) := by
  refine ⟨fun t ht hh => ?_, fun k hh => ?_, fun t ht hh x hxt => ?_⟩
  · by_cases e : keyS t = keyS s
    · have := key_inj (ht.smol hc) (hs.smol hc) e
      subst this
      exact atKey_put_same hD (key_lit _) _ _
    · rw [has_put_other e] at hh
      rw [atKey_put_other e]
      exact h.val t ht hh
  · by_cases e : k = keyS s
    · exact ⟨s, e, hs, hr⟩
    · rw [has_put_other e] at hh
      exact h.sub k hh
  · by_cases e : keyS t = keyS s
    · have := key_inj (ht.smol hc) (hs.smol hc) e
      subst this
      exact GrewC.put hD t _ x (hx x hxt)
    · rw [has_put_other e] at hh
      exact GrewC.put hD s _ x (h.clo t ht hh x hxt)
abbrev Vals (w : World) (b N : Nat) (D : DataW Unit) : Prop := w.ownsMap Tryz.prog 30 (plainElem Tryz.prog 2) b N D
def cntV : Nat → Nat
  | 0 => 1
  | n + 1 => 1 + 16 * cntV n
theorem cntV_le : ∀ n, n ≤ 12 → cntV n ≤ 17 ^ 13 := fun n h => by
  have hm : ∀ k, cntV k ≤ 17 ^ k := fun k => by
    induction k with
    | zero => decide
    | succ k ih => rw [cntV, Nat.pow_succ]; have : 0 < 17 ^ k := Nat.pow_pos (by omega); omega
  exact Nat.le_trans (hm n) (Nat.pow_le_pow_right (by omega) (by omega))
end Go.Proofs.YtdlmmbfnmnglaaaGreatDoor

namespace Go.Proofs.YtdlmmbfnmnglaaaGreatDoor
open Go.RowKit Go.Maps

/-- A chase and a state boxed, a map of values beside them. -/
structure Sol (w W : World) (b N : Nat) (r : Cst) (P : DataW Unit → Prop) (c : Chs) (bv wv pv ov : Value) (s : Cst) : Prop where
  only : Only b w W
  box : Blk W w.heap.size 28 #[bv, wv, pv, .int .i64 c.over, .int .i64 c.done, .int .i64 c.need, ov]
  st : Blk W (w.heap.size + 1) 30 #[.int .i64 s.ball, .int .i64 s.need, .int .i64 s.str, .int .i64 s.par, .int .i64 s.nxt]
  blt : b < w.heap.size
  vals : ∃ D, Vals W b N D ∧ Known c r D ∧ P D
section
variable {w W W' : World} {b N N' : Nat} {r : Cst} {P P' : DataW Unit → Prop} {c : Chs} {bv wv pv ov : Value} {s : Cst}
theorem vals_below {D : DataW Unit} (h : Vals W b N D) (hb : Below W.heap.size W W') : Vals W' b N D := h.kept (Only.of_below (g := b + 1) hb) (by simp)
theorem Sol.below (h : Sol w W b N r P c bv wv pv ov s) (hb : Below W.heap.size W W') : Sol w W' b N r P c bv wv pv ov s :=
  ⟨h.only.trans (Only.of_below hb), h.box.below hb h.box.lt, h.st.below hb h.st.lt, h.blt, let ⟨D, h1, h2⟩ := h.vals; ⟨D, vals_below h1 hb, h2⟩⟩
theorem Sol.alloc (h : Sol w W b N r P c bv wv pv ov s) (o : Obj) : Sol w (W.alloc o) b N r P c bv wv pv ov s := h.below (Below.alloc (Below.refl _ _) (Nat.le_refl _) o)
theorem Sol.drew (h : Sol w W b N r P c bv wv pv ov s) : Sol w W.drew b N r P c bv wv pv ov s := h.below (Below.drew (Below.refl _ _))
theorem Sol.into (h : Sol w W b N r P c bv wv pv ov s) (ho : Only b W W') (hv : ∃ D, Vals W' b N' D ∧ Known c r D ∧ P' D) : Sol w W' b N' r P' c bv wv pv ov s :=
  ⟨h.only.trans ho, h.box.grown ho (by intro e; injection e with e; have := h.blt; omega), h.st.grown ho (by intro e; injection e with e; have := h.blt; omega), h.blt, hv⟩
theorem Sol.cells (h : Sol w W b N r P c bv wv pv ov s) : W.cell? ⟨w.heap.size, 0, none⟩ = some bv ∧ W.cell? ⟨w.heap.size, 1, none⟩ = some wv ∧ W.cell? ⟨w.heap.size, 2, none⟩ = some pv ∧ W.cell? ⟨w.heap.size, 3, none⟩ = some (.int .i64 c.over) ∧ W.cell? ⟨w.heap.size, 4, none⟩ = some (.int .i64 c.done) ∧ W.cell? ⟨w.heap.size, 5, none⟩ = some (.int .i64 c.need) ∧ W.cell? ⟨w.heap.size, 6, none⟩ = some ov ∧
    W.cell? ⟨w.heap.size + 1, 0, none⟩ = some (.int .i64 s.ball) ∧ W.cell? ⟨w.heap.size + 1, 1, none⟩ = some (.int .i64 s.need) ∧ W.cell? ⟨w.heap.size + 1, 2, none⟩ = some (.int .i64 s.str) ∧ W.cell? ⟨w.heap.size + 1, 3, none⟩ = some (.int .i64 s.par) ∧ W.cell? ⟨w.heap.size + 1, 4, none⟩ = some (.int .i64 s.nxt) :=
  ⟨h.box.cell 0, h.box.cell 1, h.box.cell 2, h.box.cell 3, h.box.cell 4, h.box.cell 5, h.box.cell 6, h.st.cell 0, h.st.cell 1, h.st.cell 2, h.st.cell 3, h.st.cell 4⟩
theorem Sol.new {D : DataW Unit} (h1 : Vals w b N D) (h2 : Known c r D) (h3 : P D) : Sol w ((w.alloc (.cells #[bv, wv, pv, .int .i64 c.over, .int .i64 c.done, .int .i64 c.need, ov] 28)).alloc (.cells #[.int .i64 s.ball, .int .i64 s.need, .int .i64 s.str, .int .i64 s.par, .int .i64 s.nxt] 30)) b N r P c bv wv pv ov s :=
  let hx := CSB.new w c bv wv pv ov s
  ⟨Only.of_below hx.bel, hx.box, hx.st, h1.lt, D, vals_below h1 hx.bel, h2, h3⟩
theorem Sol.weak (h : Sol w W b N r P c bv wv pv ov s) (hP : ∀ D, P D → P' D) : Sol w W b N r P' c bv wv pv ov s := ⟨h.only, h.box, h.st, h.blt, let ⟨D, h1, h2, h3⟩ := h.vals; ⟨D, h1, h2, hP D h3⟩⟩
end
/-- A list that lies in blocks other than b. -/
theorem sl_only {W W' : World} {b : Nat} {v : Value} {l : List Otc} (h : Sl 3 elOtc W (fun x => x < W.heap.size ∧ x ≠ b) v l) (ho : Only b W W') : Sl 3 elOtc W' (fun x => x < W'.heap.size ∧ x ≠ b) v l :=
  h.keep elOtc_good (ho.same fun x hx => hx) fun x hx => ⟨Nat.lt_of_lt_of_le hx.1 ho.size, hx.2⟩
/-- What a function that values states does. -/
def SolveAt (f : FuncId) (c : Chs) (n : Nat) : Prop := ∀ (s : Cst), leftC c s = n → OkS c s → ∀ (r : Cst), ReachC c r s → ∀ (bv wv pv ov : Value) (F : Nat → Prop) (b N : Nat) (D : DataW Unit) (w : World), ChAt w F bv wv pv ov c → (∀ x, F x → x < w.heap.size ∧ x ≠ b) → Vals w b N D → Known c r D → N + cntV n ≤ 2000000000000000000 →
  Calls Tryz.prog f #[chV c bv wv pv ov, stV s, .map (some b)] w fun e w' => e = .returned (.int .i64 (valS c s)) ∧ Only b w w' ∧ ∃ D', Vals w' b (N + cntV n) D' ∧ Known c r D' ∧ GrewC D D' ∧ Maps.has D' (keyS s) = true
theorem prod_bd {x y : Int} {n : Nat} (hn : n ≤ 11) (hx : 1 ≤ x ∧ x ≤ 16) (hy : 0 ≤ y ∧ y ≤ pow16 n) : 0 ≤ x * y ∧ x * y ≤ 281474976710656 := by
  have h1 : pow16 n ≤ 17592186044416 := by
    have h2 := (pow16_le (n := n + 1) (by omega)).2
    rw [pow16] at h2; omega
  refine ⟨Int.mul_nonneg (by omega) hy.1, ?_⟩
  have := Int.mul_le_mul hx.2 (Int.le_trans hy.2 h1) hy.1 (by omega)
  omega
set_option maxRecDepth 100000 in
set_option maxHeartbeats 8000000 in
theorem ch44_solve_at (c : Chs) (hc : OkC c) (n : Nat) (ih : ∀ k, n = k + 1 → SolveAt 49 c k) : SolveAt 49 c n := by
  intro s hl hs r hre bv wv pv ov F b N D w h hF hown hkn hN
  obtain ⟨xs, hxs⟩ : ∃ xs, xs = nextsC c s := ⟨_, rfl⟩
  have hkey := key_of (hs.smol hc)
  have hn12 := left_le hc hs
  rw [hl] at hn12
  obtain ⟨z, hz⟩ : ∃ z, z = valS c s := ⟨_, rfl⟩
  have hbd := valS_bd hc hs
  rw [hl] at hbd
  have hp16 := pow16_le hn12
  have hz0 : 0 ≤ z ∧ z ≤ 281474976710656 := by rw [hz]; omega
  have hit : Maps.has D (keyS s) = true → D.atKey (keyS s) (.lit (.int .i64 0)) = .lit (.int .i64 z) := fun hh => by rw [hz]; exact hkn.val s hs hh
  have hput : ∀ (D2 : DataW Unit), Known c r D2 → IsMap D2 → (GrewC D D2 ∧ ∀ x ∈ xs, Maps.has D2 (keyS x) = true) → Known c r (D2.put (keyS s) (.lit (.int .i64 z))) ∧ GrewC D (D2.put (keyS s) (.lit (.int .i64 z))) ∧ Maps.has (D2.put (keyS s) (.lit (.int .i64 z))) (keyS s) = true := fun D2 h1 h2 h3 => ⟨by rw [hz]; exact h1.put h2 hc hs hre (by rw [← hxs]; exact h3.2), h3.1.trans (GrewC.put h2 s _), has_put_same h2 (key_lit s) _⟩
  have hsol : Sol w _ b N r (GrewC D) c bv wv pv ov s := Sol.new hown hkn (GrewC.refl _)
  have kst := fun W (hW : Only b w W) => ch44_status c s bv wv pv ov W ((h.keep (hW.same hF) fun x hx => Nat.lt_of_lt_of_le (hF x hx).1 hW.size)) hs
  have kmv := fun (h1 : stC c s = 1) W (hW : Only b w W) => ch44_moves c s bv wv pv ov W ((h.keep (hW.same hF) fun x hx => Nat.lt_of_lt_of_le (hF x hx).1 hW.size)) hc hs h1
  have ken := fun W (hW : Only b w W) => ch44_power c s bv wv pv ov W ((h.keep (hW.same hF) fun x hx => Nat.lt_of_lt_of_le (hF x hx).1 hW.size)) hc hs
  have hend : stC c s ≠ 1 → (if stC c s = 2 then pow16 (leftC c s) else 0) = z := fun h1 => by
    have := stC_bd c s
    rw [hz]
    by_cases h2 : stC c s = 2
    · rw [if_pos h2, valS_won h2]
    · rw [if_neg h2, valS_lost hs (by omega)]
  have HA := Lib.hid h
  have HF := Lib.hid hF
  have HKN := Lib.hid hkn
  rw [← hz]
  clear hbd hp16
  obtain ⟨A, ca, rfl, hc1, hc2⟩ := h.mdl.bat.shape
  obtain ⟨A1, ca1, rfl, hc3, hc4⟩ := h.mdl.bow.shape
  obtain ⟨A2, ca2, rfl, hc5, hc6⟩ := h.bow.shape
  obtain ⟨A3, ca3, rfl, hc7, hc8⟩ := h.ord.shape
  unfold chV stV at kst kmv ken ⊢
  unfold stV at hkey
  have HSOL := Lib.hid hsol
  have HKEY := Lib.hid hkey
  have HV2 := Lib.hid (vals_below hown (CSB.new w c (.slice A c.mdl.bats.length ca) (.slice A1 c.mdl.bows.length ca1) (.slice A2 c.bows.length ca2) (.slice A3 c.ord.length ca3) s).bel)
  have HPUT := Lib.hid hput
  clear hsol hkey h hF hown hput
  obtain ⟨y0, y1, y2, y3, y4, y5, y6, t0, t1, t2, t3, t4⟩ := HSOL.out.cells
  clear y0 y1 y2 y3 y4 y5 y6 t0 t1 t2 t3 t4
  cases hh : Maps.has D (keyS s)
  case true =>
    have HIT := Lib.hid (hit hh)
    clear hit ih kst kmv ken hend hz hl hs hc hkn hre hxs
    go_enter Tryz.func49, Tryz.ntmps49
    go_wp2_with (at_lookup; refine wpList_lookup_own_ok_int _ rfl _ _ 67 rfl 30 2 .i64 law44 Tryz.underlying67 Tryz.underlying2 (zero_i64 _) b N D rfl HV2.out _ _ rfl HKEY.out ?_; intro cc hat hwc; have HC := Lib.hid (show cc = z from by have := hat.symm.trans HIT.out; injection this with this; injection this); clear hat hwc)
    go_ret
    exact ⟨ret_i HC.out, HSOL.out.only, D, HV2.out.mono (by omega), HKN.out, GrewC.refl _, hh⟩
  case false =>
    clear hit
    obtain ⟨st, hst⟩ : ∃ x, x = stC c s := ⟨_, rfl⟩
    have hst3 := stC_bd c s
    rw [← hst] at kst kmv hend hst3
    by_cases h1 : st = 1
    case neg =>
      have hx0 : xs = [] := by rw [hxs]; exact nextsC_end (by rw [← hst]; exact h1)
      have HNX := Lib.hid (fun (D2 : DataW Unit) (h : GrewC D D2) => (⟨h, fun x hx => by rw [hx0] at hx; cases hx⟩ : GrewC D D2 ∧ ∀ x ∈ xs, Maps.has D2 (keyS x) = true))
      have HSt := Lib.hid hst
      have KST := Lib.hid kst
      have hcn : 1 ≤ cntV n := by cases n <;> rw [cntV] <;> omega
      have tok0 : True := trivial
      by_cases h2 : st = 2
      · have he := hend h1
        rw [if_pos h2] at he
        rw [he] at ken
        have KEN := Lib.hid ken
        have e2 : (st == 2) = true := beq_iff_eq.2 h2
        clear kst kmv ken hend hst hst3 h1 h2 he ih hl hs hc hkn hz hn12 hre hxs hx0
        go_enter Tryz.func49, Tryz.ntmps49
        go_wp2_with (first
          | (at_lookup; refine wpList_lookup_own_ok_int _ rfl _ _ 67 rfl 30 2 .i64 law44 Tryz.underlying67 Tryz.underlying2 (zero_i64 _) b N D rfl HV2.out _ _ rfl HKEY.out ?_; intro cc hat hwc; clear hat hwc)
          | (clear tok0; go_at_call 73; refine (KST.out _ HSOL.out.only).mono ?_; rintro e w2 ⟨rfl, hb2⟩; have HS2 := Lib.hid (HSOL.out.below hb2); obtain ⟨y0, y1, y2, y3, y4, y5, y6, t0, t1, t2, t3, t4⟩ := HS2.out.cells; clear hb2; have tok1 : True := trivial)
          | (clear tok1; go_at_call 74; refine (KEN.out _ HS2.out.only).mono ?_; rintro e w3 ⟨rfl, hb3⟩; have HS3 := Lib.hid (HS2.out.below hb3); clear y0 y1 y2 y3 y4 y5 y6 t0 t1 t2 t3 t4; obtain ⟨y0, y1, y2, y3, y4, y5, y6, t0, t1, t2, t3, t4⟩ := HS3.out.cells; obtain ⟨D2, hv9, hk9, hg8⟩ := HS3.out.vals; have HV9 := Lib.hid hv9; have HK9 := Lib.hid hk9; have HG8 := Lib.hid hg8; clear hg8 hb3 hv9 hk9; have tok2 : True := trivial)
          | (at_mapUpdate; refine wpList_mapUpdate_own _ rfl _ _ _ 67 rfl 30 2 law44 Tryz.underlying67 _ b N D2 rfl HV9.out (by unfold maxLen; omega) _ _ _ rfl rfl HKEY.out _ [] (plainElem_int Tryz.underlying2 (WalkArith.wf_i64 (by omega))) ?_; intro w9 hown9 hgrow9; have HG9 := Lib.hid hgrow9; have HO9 := Lib.hid hown9; clear hgrow9 hown9))
        go_ret
        exact ⟨rfl, HS3.out.only.trans HG9.out, _, HO9.out.mono (by omega), HPUT.out _ HK9.out HV9.out.isMap (HNX.out _ HG8.out)⟩
      · have he := hend h1
        rw [if_neg h2] at he
        subst he
        have e2 : (st == 2) = false := beq_eq_false_iff_ne.2 h2
        have e1 : (st == 1) = false := beq_eq_false_iff_ne.2 h1
        clear kst kmv ken hend hst hst3 h1 h2 ih hl hs hc hkn hz hn12 hre hxs hx0
        go_enter Tryz.func49, Tryz.ntmps49
        go_wp2_with (first
          | (at_lookup; refine wpList_lookup_own_ok_int _ rfl _ _ 67 rfl 30 2 .i64 law44 Tryz.underlying67 Tryz.underlying2 (zero_i64 _) b N D rfl HV2.out _ _ rfl HKEY.out ?_; intro cc hat hwc; clear hat hwc)
          | (clear tok0; go_at_call 73; refine (KST.out _ HSOL.out.only).mono ?_; rintro e w3 ⟨rfl, hb2⟩; have HS3 := Lib.hid (HSOL.out.below hb2); obtain ⟨y0, y1, y2, y3, y4, y5, y6, t0, t1, t2, t3, t4⟩ := HS3.out.cells; obtain ⟨D2, hv9, hk9, hg8⟩ := HS3.out.vals; have HV9 := Lib.hid hv9; have HK9 := Lib.hid hk9; have HG8 := Lib.hid hg8; clear hg8 hb2 hv9 hk9; have tok1 : True := trivial)
          | (at_mapUpdate; refine wpList_mapUpdate_own _ rfl _ _ _ 67 rfl 30 2 law44 Tryz.underlying67 _ b N D2 rfl HV9.out (by unfold maxLen; omega) _ _ _ rfl rfl HKEY.out _ [] (plainElem_int Tryz.underlying2 (WalkArith.wf_i64 (by omega))) ?_; intro w9 hown9 hgrow9; have HG9 := Lib.hid hgrow9; have HO9 := Lib.hid hown9; clear hgrow9 hown9))
        go_ret
        exact ⟨rfl, HS3.out.only.trans HG9.out, _, HO9.out.mono (by omega), HPUT.out _ HK9.out HV9.out.isMap (HNX.out _ HG8.out)⟩
    case pos =>
      have h1' : stC c s = 1 := by rw [← hst]; exact h1
      obtain ⟨hneed, hstr, k0, hk0, hk1⟩ := left_run hs h1'
      obtain rfl : n = k0 + 1 := by omega
      have hih := ih k0 rfl
      obtain ⟨l, hle⟩ : ∃ l, mvC c s = l := ⟨_, rfl⟩
      obtain ⟨_, _, _, _, _, _, _, _, _, _, _, _, _, _, _, hd⟩ := mvC_at hc hs h1'
      rw [hle] at hd
      have hok := checkD_ok hd
      have hlen : l.length ≤ 16 := hok.len.2
      have hoe : ∀ (k : Nat) (hk : k < l.length), OkO l[k] := fun k hk => hok.each _ (List.getElem_mem hk)
      have kstep := fun k (hk : k < l.length) W => ch44_step c s l[k] A A1 A2 A3 ca ca1 ca2 ca3 W hc hs h1' ⟨(hoe k hk).r0, (hoe k hk).r7⟩
      have hok2 : ∀ (k : Nat) (hk : k < l.length), leftC c (stepC c s l[k]) = k0 ∧ OkS c (stepC c s l[k]) := fun k hk => ⟨by have := left_step hc hs h1' (o := l[k]) (hoe k hk).r0; omega, (stepC_ok hc hs h1' (hoe k hk).r0).1⟩
      have hxl : xs = l.map (stepC c s) := by rw [hxs, nextsC_run h1', hle]
      have hnx : ∀ k (hk : k < l.length), ReachC c r (stepC c s l[k]) := fun k hk => hre.next _ (by rw [← hxs, hxl]; exact List.mem_map.2 ⟨_, List.getElem_mem hk, rfl⟩)
      have htk : ∀ (k : Nat) (hk : k < l.length) (x : Cst), x ∈ xs.take (k + 1) → x ∈ xs.take k ∨ x = stepC c s l[k] := fun k hk x hx => by
        have hk2 : k < xs.length := by rw [hxl, List.length_map]; exact hk
        rw [List.take_add_one, List.getElem?_eq_getElem hk2] at hx
        rcases List.mem_append.1 hx with hx | hx
        · exact .inl hx
        · refine .inr ?_
          have : xs[k] = stepC c s l[k] := by simp only [hxl, List.getElem_map]
          rw [← this]; simpa using hx
      have hxn : xs.take l.length = xs := List.take_of_length_le (by rw [hxl, List.length_map]; exact Nat.le_refl _)
      have HTK := Lib.hid htk
      have HXN := Lib.hid hxn
      have krec := fun k (hk : k < l.length) N' D' W => hih (stepC c s l[k]) (hok2 k hk).1 (hok2 k hk).2 r (hnx k hk) (.slice A c.mdl.bats.length ca) (.slice A1 c.mdl.bows.length ca1) (.slice A2 c.bows.length ca2) (.slice A3 c.ord.length ca3) F b N' D' W
      have hprod : ∀ (k : Nat) (hk : k < l.length), 0 ≤ l[k].wt * valS c (stepC c s l[k]) ∧ l[k].wt * valS c (stepC c s l[k]) ≤ 281474976710656 := fun k hk => prod_bd (n := k0) (by omega) ⟨(hoe k hk).w1, (hoe k hk).w16⟩ (by have := valS_bd hc (hok2 k hk).2; rw [(hok2 k hk).1] at this; exact this)
      have hsum : ∀ (k : Nat) (hk : k < l.length) (sm : Int), sm = sumI ((l.take k).map fun o => o.wt * valS c (stepC c s o)) → sm + l[k].wt * valS c (stepC c s l[k]) = sumI ((l.take (k + 1)).map fun o => o.wt * valS c (stepC c s o)) := fun k hk sm h => by
        rw [h, sum_take (fun o : Otc => o.wt * valS c (stepC c s o)) hk]
      have hfin : sumI (l.map fun o => o.wt * valS c (stepC c s o)) = z := by rw [hz, valS_run hc hs h1', hle]
      obtain ⟨q, hq⟩ : ∃ q, q = cntV k0 := ⟨_, rfl⟩
      have hcnt : cntV (k0 + 1) = 1 + 16 * q := by rw [cntV, hq]
      rw [hcnt] at hN ⊢
      unfold chV stV at krec
      unfold stV at kstep
      rw [← hq] at krec
      have kmv1 := kmv h1
      rw [hle] at kmv1
      rw [h1] at kst
      have KST := Lib.hid kst
      have KMV := Lib.hid kmv1
      have KSTEP := Lib.hid kstep
      have KREC := Lib.hid krec
      have HPR := Lib.hid hprod
      have HSUM := Lib.hid hsum
      have HFIN := Lib.hid hfin
      have tok0 : True := trivial
      clear kst kmv kmv1 ken hend hst hst3 h1 h1' hneed hstr hk0 hk1 hih hle hd hok hoe kstep hok2 krec hprod hsum hfin hq hcnt ih hl hs hc hkn hz hn12 hxl hnx htk hxn hre hxs
      go_enter Tryz.func49, Tryz.ntmps49
      go_wp2_with (first
        | (at_lookup; refine wpList_lookup_own_ok_int _ rfl _ _ 67 rfl 30 2 .i64 law44 Tryz.underlying67 Tryz.underlying2 (zero_i64 _) b N D rfl HV2.out _ _ rfl HKEY.out ?_; intro cc hat hwc; clear hat hwc)
        | (clear tok0; go_at_call 73; refine (KST.out _ HSOL.out.only).mono ?_; rintro e w2 ⟨rfl, hb2⟩; have HS2 := Lib.hid (HSOL.out.below hb2); obtain ⟨y0, y1, y2, y3, y4, y5, y6, t0, t1, t2, t3, t4⟩ := HS2.out.cells; clear hb2; have tok1 : True := trivial)
        | (clear tok1; go_at_call 75; refine (KMV.out _ HS2.out.only).mono ?_; rintro e w3 ⟨A4, n4, k4, rfl, hb3, hs3⟩; obtain ⟨Az, kz, hze, hz1, hz2⟩ := hs3.shape; have hn4 : n4 = l.length := (by injection hze); subst hn4; have HS3 := Lib.hid (HS2.out.below hb3); have HL3 := Lib.hid (hs3.keep (G := fun x => x < w3.heap.size ∧ x ≠ b) elOtc_good (Same.refl _ _) fun x hx => ⟨hx.2, by have := HS2.out.blt; have := HS2.out.only.size; omega⟩); clear y0 y1 y2 y3 y4 y5 y6 t0 t1 t2 t3 t4; obtain ⟨y0, y1, y2, y3, y4, y5, y6, t0, t1, t2, t3, t4⟩ := HS3.out.cells; clear hb3 hs3 hze hz1 hz2; have tok2 : True := trivial))
      go_loopw [9, 34] (fun v i wr => ∃ (k : Nat) (sm : Int), k ≤ l.length ∧ i = .int .i64 k ∧ v = .int .i64 sm ∧ 0 ≤ sm ∧ sm ≤ 281474976710656 * k ∧ Hid (Sol w wr b (N + k * q) r (fun D' => GrewC D D' ∧ ∀ x ∈ xs.take k, Maps.has D' (keyS x) = true) c (.slice A c.mdl.bats.length ca) (.slice A1 c.mdl.bows.length ca1) (.slice A2 c.bows.length ca2) (.slice A3 c.ord.length ca3) s) ∧ Hid (Sl 3 elOtc wr (fun x => x < wr.heap.size ∧ x ≠ b) (.slice A4 l.length k4) l) ∧ Hid (sm = sumI ((l.take k).map fun o => o.wt * valS c (stepC c s o)))) (fun _ i _ => l.length - (intOf i).toNat)
      case atStart => exact ⟨0, 0, Nat.zero_le _, rfl, rfl, by omega, by omega, Lib.hid (by rw [Nat.zero_mul]; exact HS3.out.weak (fun D2 h => ⟨h, fun x hx => by cases hx⟩)), HL3, Lib.hid rfl⟩
      case round =>
        clear HS2 HS3 HL3 y0 y1 y2 y3 y4 y5 y6 t0 t1 t2 t3 t4
        obtain ⟨k, sm, hk, rfl, rfl, hs0, hs1, HS, HL, hss⟩ := hrel
        by_cases hlt : k < l.length
        · obtain ⟨b0, o, rfl, hbl, g0, g1, g2⟩ := otc_at HL.out hlt
          have hp := HPR.out k hlt
          have hst := HSUM.out k hlt sm hss.out
          have kS := KSTEP.out k hlt
          have kR := KREC.out k hlt
          have hT := HTK.out k hlt
          obtain ⟨s', hs'⟩ : ∃ x, x = stepC c s l[k] := ⟨_, rfl⟩
          rw [← hs'] at hp hst
          simp only [← hs'] at kS kR hT
          obtain ⟨vv, hvv⟩ : ∃ x, x = valS c s' := ⟨_, rfl⟩
          rw [← hvv] at hp hst
          simp only [← hvv] at kR
          obtain ⟨⟨pr, pw, pt⟩, hp'⟩ : ∃ p, p = l[k] := ⟨_, rfl⟩
          rw [← hp'] at g0 g1 g2 hp hst
          simp only [← hp'] at kS
          dsimp only at g0 g1 g2 hp hst kS
          obtain ⟨hp0, hp1⟩ := hp
          have hkq : k * q + q ≤ 16 * q := by have := Nat.mul_le_mul_right q (show k + 1 ≤ 16 by omega); rw [Nat.add_mul, Nat.one_mul] at this; exact this
          have HST := Lib.hid hst
          have KS := Lib.hid kS
          have KR := Lib.hid kR
          have HKQ := Lib.hid hkq
          have HT := Lib.hid hT
          clear hst kS kR hT hs' hvv hp' hss hkq
          go_wp2
          have HSA := Lib.hid (HS.out.alloc (.cells #[.int .i64 pr, .bool pw, .int .i64 pt] 110)).drew
          have HLA := Lib.hid (sl_only HL.out (Only.of_below (g := b) (Below.drew (Below.alloc (Below.refl wr.heap.size wr) (Nat.le_refl _) (.cells #[.int .i64 pr, .bool pw, .int .i64 pt] 110)))))
          have HCA := Lib.hid (Blk.new wr 110 #[.int .i64 pr, .bool pw, .int .i64 pt]).drew
          obtain ⟨y0, y1, y2, y3, y4, y5, y6, t0, t1, t2, t3, t4⟩ := HSA.out.cells
          have u0 := HCA.out.cell 0
          have u1 := HCA.out.cell 1
          have u2 := HCA.out.cell 2
          have tok2 : True := trivial
          have hwb : b < wr.heap.size := by have := HS.out.blt; have := HS.out.only.size; omega
          go_region_held3 (fun w' => w'.cell? ⟨w.heap.size, 0, none⟩ = some (.slice A c.mdl.bats.length ca) ∧ w'.cell? ⟨w.heap.size, 1, none⟩ = some (.slice A1 c.mdl.bows.length ca1) ∧ w'.cell? ⟨w.heap.size, 2, none⟩ = some (.slice A2 c.bows.length ca2) ∧ w'.cell? ⟨w.heap.size, 3, none⟩ = some (.int .i64 c.over) ∧ w'.cell? ⟨w.heap.size, 4, none⟩ = some (.int .i64 c.done) ∧ w'.cell? ⟨w.heap.size, 5, none⟩ = some (.int .i64 c.need) ∧ w'.cell? ⟨w.heap.size, 6, none⟩ = some (.slice A3 c.ord.length ca3) ∧ w'.cell? ⟨w.heap.size + 1, 0, none⟩ = some (.int .i64 s.ball) ∧ w'.cell? ⟨w.heap.size + 1, 1, none⟩ = some (.int .i64 s.need) ∧ w'.cell? ⟨w.heap.size + 1, 2, none⟩ = some (.int .i64 s.str) ∧ w'.cell? ⟨w.heap.size + 1, 3, none⟩ = some (.int .i64 s.par) ∧ w'.cell? ⟨w.heap.size + 1, 4, none⟩ = some (.int .i64 s.nxt) ∧ w'.cell? ⟨wr.heap.size, 0, none⟩ = some (.int .i64 pr) ∧ w'.cell? ⟨wr.heap.size, 1, none⟩ = some (.bool pw) ∧ w'.cell? ⟨wr.heap.size, 2, none⟩ = some (.int .i64 pt)) (first | exact ⟨y0, y1, y2, y3, y4, y5, y6, t0, t1, t2, t3, t4, u0, u1, u2⟩ | go_keep) (first
            | (clear tok2; go_at_call 76; refine (KS.out _).mono ?_; rintro e w5 ⟨rfl, hb5⟩; have HS5 := Lib.hid (HSA.out.below hb5); have HL5 := Lib.hid (sl_only HLA.out (Only.of_below hb5)); have HC5 := Lib.hid (HCA.out.below hb5 HCA.out.lt); obtain ⟨y0, y1, y2, y3, y4, y5, y6, t0, t1, t2, t3, t4⟩ := HS5.out.cells; have u0 := HC5.out.cell 0; have u1 := HC5.out.cell 1; have u2 := HC5.out.cell 2; clear hb5; have tok3 : True := trivial)
            | (clear tok3; go_at_call 49; obtain ⟨D5, hv5, hk5, hg5⟩ := HS5.out.vals; refine (KR.out _ D5 _ (HA.out.keep (HS5.out.only.same HF.out) fun _ h => h) (fun x hx => ⟨Nat.lt_of_lt_of_le (HF.out x hx).1 HS5.out.only.size, (HF.out x hx).2⟩) hv5 hk5 (by have := HKQ.out; omega)).mono ?_; rintro e w6 ⟨rfl, ho6, hv6⟩; have HS6 := Lib.hid (show Sol w w6 b (N + (k + 1) * q) r (fun D' => GrewC D D' ∧ ∀ x ∈ xs.take (k + 1), Maps.has D' (keyS x) = true) c (.slice A c.mdl.bats.length ca) (.slice A1 c.mdl.bows.length ca1) (.slice A2 c.bows.length ca2) (.slice A3 c.ord.length ca3) s from HS5.out.into ho6 (by obtain ⟨D7, h1, h2, h3, h4⟩ := hv6; exact ⟨D7, h1.mono (by rw [Nat.add_mul]; omega), h2, hg5.1.trans h3, fun x hx => by rcases HT.out x hx with h | h; exact h3 x (hg5.2 x h); rw [h]; exact h4⟩)); have HL6 := Lib.hid (sl_only HL5.out ho6); have HC6 := Lib.hid (HC5.out.grown ho6 (by intro e; injection e with e; omega)); obtain ⟨y0, y1, y2, y3, y4, y5, y6, t0, t1, t2, t3, t4⟩ := HS6.out.cells; have u0 := HC6.out.cell 0; have u1 := HC6.out.cell 1; have u2 := HC6.out.cell 2; clear ho6 hv6 hv5 hk5 hg5; have tok4 : True := trivial))
          all_goals go_wp2
          go_roundw
          case rel => exact ⟨k + 1, sm + pt * vv, by omega, by go_num, by rw [IntWalk.i64_in (pt * vv) (by omega), IntWalk.i64_in (sm + pt * vv) (by omega)], by omega, by push_cast; omega, HS6, HL6, HST⟩
          case measure => simp [intOf]; omega
        · obtain rfl : k = l.length := by omega
          have hs2 := hss.out
          rw [List.take_of_length_le (Nat.le_refl _), HFIN.out] at hs2
          subst hs2
          obtain ⟨D2, hv9, hk9, hg8⟩ := HS.out.vals
          rw [HXN.out] at hg8
          have HG8 := Lib.hid hg8
          clear hg8
          have HV9 := Lib.hid hv9
          have HK9 := Lib.hid hk9
          obtain ⟨y0, y1, y2, y3, y4, y5, y6, t0, t1, t2, t3, t4⟩ := HS.out.cells
          have hlq : l.length * q ≤ 16 * q := Nat.mul_le_mul_right q hlen
          obtain ⟨NN, hNN⟩ : ∃ NN, NN = N + l.length * q := ⟨_, rfl⟩
          rw [← hNN] at HV9
          have hN9 : NN + 1 ≤ N + (1 + 16 * q) := by omega
          have hN8 : NN < 2000000000000000000 := by omega
          clear hv9 hk9 hss hlq hNN
          go_wp2_with (at_mapUpdate; refine wpList_mapUpdate_own _ rfl _ _ _ 67 rfl 30 2 law44 Tryz.underlying67 _ b NN D2 rfl HV9.out (by unfold maxLen; omega) _ _ _ rfl rfl HKEY.out _ [] (plainElem_int Tryz.underlying2 (WalkArith.wf_i64 (by omega))) ?_; intro w9 hown9 hgrow9; have HG9 := Lib.hid hgrow9; have HO9 := Lib.hid hown9; clear hgrow9 hown9)
          go_ret
          exact ⟨rfl, HS.out.only.trans HG9.out, _, HO9.out.mono (by omega), HPUT.out _ HK9.out HV9.out.isMap HG8.out⟩
theorem ch44_solve (c : Chs) (hc : OkC c) : ∀ n, SolveAt 49 c n
  | 0 => ch44_solve_at c hc 0 (fun k h => by omega)
  | n + 1 => ch44_solve_at c hc (n + 1) fun k h => by
      obtain rfl : n = k := by omega
      exact ch44_solve c hc n
end Go.Proofs.YtdlmmbfnmnglaaaGreatDoor

namespace Go.Proofs.YtdlmmbfnmnglaaaGreatDoor
open Go.RowKit

/-! A region that draws its order, some of whose operations are not wanted. -/
structure FreeG (P : Program) (ops : Array Oper) (V : Tab) (G : World → Prop) (needs : Nat → List Nat) (init : List Nat) (N : Nat) : Prop where
  back : ∀ (i : Nat) (o : Oper), ops[i]? = some o → ∀ e ∈ o.after, e.on < i
  dst : ∀ (i : Nat) (o : Oper), ops[i]? = some o → ∃ d, o.dst = some d ∧ d < N
  need : ∀ (i : Nat) (o : Oper), ops[i]? = some o → ∀ d ∈ needs i, d ∈ init ∨ ∃ e ∈ o.after, Region.binds .any e = true ∧ ∃ p, ops[e.on]? = some p ∧ p.dst = some d
  sV : ∀ d w w' v, V d w v → Below w.heap.size w w' → V d w' v
  sG : ∀ w w', G w → Below w.heap.size w w' → G w'
  step : ∀ (i : Nat) (o : Oper), ops[i]? = some o → ∀ a w, G w → (∀ x ∈ needs i, Holds V a w x) → (Region.wanted o (yielded ops a.tmps) = true ∧ Meets P V o a w) ∨ (Region.wanted o (yielded ops a.tmps) = false ∧ ∀ d, o.dst = some d → V d w undef)
section
variable {P : Program} {ops : Array Oper} {V : Tab} {G : World → Prop} {needs : Nat → List Nat} {init : List Nat} {N : Nat} {Q : Exit → Act → World → Prop} {a0 : Act} {w0 : World}
theorem all_listedG (hback : ∀ (i : Nat) (o : Oper), ops[i]? = some o → ∀ e ∈ o.after, e.on < i) {listed : Array Bool} (hr : Region.ready .any ops listed = []) (hsz : listed.size = ops.size) : ∀ i, i < ops.size → listed.getD i false = true := by
  intro i
  induction i using Nat.strongRecOn with
  | ind i ih =>
    intro hi
    cases hl : listed.getD i false with
    | true => rfl
    | false =>
      exfalso
      have h2 : listed.getD i true = false := by
        have hlt : i < listed.size := by omega
        simp [hlt] at hl ⊢; exact hl
      have ho : ops[i]? = some ops[i] := Array.getElem?_eq_getElem hi
      have : i ∈ Region.ready .any ops listed := mem_ready.2 ⟨h2, _, ho, fun e he _ => ih e.on (hback i _ ho e he) (by have := hback i _ ho e he; omega)⟩
      rw [hr] at this
      cases this
theorem wpAny_freeG (hF : FreeG P ops V G needs init N) (hN : N ≤ a0.tmps.size) (fin : ∀ a w, RIn ops V G init a0 w0 (Array.replicate ops.size true) a w → Q .normal a w) :
    ∀ (fuel : Nat) (listed : Array Bool) (a : Act) (w : World), listed.size = ops.size → listed.toList.count false ≤ fuel → RIn ops V G init a0 w0 listed a w → wpAny P .any ops Q fuel listed a w := by
  have hfin : ∀ (listed : Array Bool) (a : Act) (w : World), listed.size = ops.size → Region.ready .any ops listed = [] → RIn ops V G init a0 w0 listed a w → Q .normal a w := by
    intro listed a w hsz hr h
    refine fin a w ⟨h.size, h.dfr, h.g, h.below, h.ini, fun i o d ho _ hd => h.done i o d ho (all_listedG hF.back hr hsz i (Array.getElem?_eq_some_iff.1 ho).1) hd, h.keep⟩
  intro fuel
  induction fuel with
  | zero =>
    intro listed a w hsz hc h
    have hr : Region.ready .any ops listed = [] := by
      cases hr : Region.ready .any ops listed with
      | nil => rfl
      | cons j t =>
        exfalso
        have hj : j ∈ Region.ready .any ops listed := by rw [hr]; simp
        obtain ⟨h1, o, ho, _⟩ := mem_ready.1 hj
        have hlt : j < listed.size := by have := (Array.getElem?_eq_some_iff.1 ho).1; omega
        have h2 : listed[j]? = some false := by
          rw [Array.getElem?_eq_getElem hlt]; simp [hlt] at h1; rw [h1]
        have : false ∈ listed.toList := Array.mem_toList_iff.2 (Array.mem_of_getElem? h2)
        have := List.count_pos_iff.2 this
        omega
    exact ⟨hr, hfin listed a w hsz hr h⟩
  | succ fuel ih =>
    intro listed a w hsz hc h
    refine ⟨fun hr => hfin listed a w hsz hr h, fun i hi => ?_⟩
    obtain ⟨h1, o, ho, hall⟩ := mem_ready.1 hi
    obtain ⟨d, hd, hdN⟩ := hF.dst i o ho
    have hlt : i < listed.size := by have := (Array.getElem?_eq_some_iff.1 ho).1; omega
    have h2 : listed[i]? = some false := by
      rw [Array.getElem?_eq_getElem hlt]; simp [hlt] at h1; rw [h1]
    have hcnt := count_set listed.toList i (by rw [Array.getElem?_toList]; exact h2)
    have hneeds : ∀ x ∈ needs i, Holds V a w x := fun x hx => by
      rcases hF.need i o ho x hx with hx | ⟨e, he, hbi, p, hp, hpd⟩
      · exact h.ini x hx
      · exact h.done e.on p x hp (hall e he hbi) hpd
    have go : ∀ v w', Below w.heap.size w w' → V d w' v → wpAny P .any ops Q fuel (listed.setIfInBounds i true) (a.put o.dst v) w' := fun v w' hb hv => by
      rw [hd]
      refine ih _ _ _ (by simpa using hsz) (by rw [Array.toList_setIfInBounds]; omega) ⟨by unfold Act.put; simpa using h.size, h.dfr, hF.sG _ _ h.g hb, h.below.trans (hb.mono h.below.size), fun x hx => (h.ini x hx).put hF.sV hb hv, fun j p x hj hl hx => ?_, fun k hk => ?_⟩
      · by_cases hji : j = i
        · subst hji
          rw [ho] at hj; obtain rfl := Option.some.inj hj
          have hdx : d = x := Option.some.inj (hd.symm.trans hx)
          subst hdx
          refine ⟨v, ?_, hv⟩
          rw [put_get, if_pos ⟨rfl, by rw [h.size]; exact Nat.lt_of_lt_of_le hdN hN⟩]
        · have hl' : listed.getD j false = true := by rw [getD_set_ne false (Ne.symm hji)] at hl; exact hl
          exact (h.done j p x hj hl' hx).put hF.sV hb hv
      · rw [put_get, if_neg (fun hc => hk i o ho (by rw [hd, hc.1]))]
        exact h.keep k hk
    unfold wpOp
    rw [ho]
    dsimp only
    rcases hF.step i o ho a w h.g hneeds with ⟨hw, hm⟩ | ⟨hw, hm⟩
    · rw [hw, if_pos rfl]
      exact .inl (hm d hd _ _ go)
    · rw [hw, if_neg (by simp)]
      exact go undef w (Below.refl _ _) (hm d hd)
theorem wp_region_freeG {ops' : Array Oper} {id : Nat} (he : ops = ops') (hm : P.follows .mixedOrders = true) (hF : FreeG P ops' V G needs init N) (hN : N ≤ a0.tmps.size) (hG : G w0) (hini : ∀ d ∈ init, Holds V a0 w0 d)
    (fin : ∀ a w, RIn ops' V G init a0 w0 (Array.replicate ops'.size true) a w → Q .normal a w) : (Code.region id ops true).wp P Q a0 w0 := by
  subst he
  have hb : Below w0.heap.size w0 { w0 with drawn := w0.drawn + 1 } := Below.drew (Below.refl _ _)
  refine wp_region_any hm (wpAny_freeG hF hN fin _ _ _ _ (by simp) (by simp) ⟨rfl, rfl, hF.sG _ _ hG hb, hb, fun d hd => ?_, fun i o d ho hl => ?_, fun _ _ => rfl⟩)
  · obtain ⟨v, h1, h2⟩ := hini d hd
    exact ⟨v, h1, hF.sV _ _ _ _ h2 hb⟩
  · exfalso
    have hlt := (Array.getElem?_eq_some_iff.1 ho).1
    simp [hlt] at hl
end
/-- The operations of a region of a function's text. -/
def findR6 (n : Nat) : Code → Option (Array Oper)
  | .region id ops _ => if id = n then some ops else none
  | .seq a b => match findR6 n a with
    | some x => some x
    | none => findR6 n b
  | .cond _ a b => match findR6 n a with
    | some x => some x
    | none => findR6 n b
  | .block _ c => findR6 n c
  | .loop c => findR6 n c
  | .scope c => findR6 n c
  | _ => none
def backG (ops : Array Oper) : Bool := (List.range ops.size).all fun i => match ops[i]? with
  | some o => o.after.toList.all fun e => decide (e.on < i)
  | none => true
def dstG (ops : Array Oper) (N : Nat) : Bool := (List.range ops.size).all fun i => match ops[i]? with
  | some o => (match o.dst with | some d => decide (d < N) | none => false)
  | none => true
def needG (ops : Array Oper) (needs : List (List Nat)) (init : List Nat) : Bool := (List.range ops.size).all fun i => match ops[i]? with
  | some o => (needs.getD i []).all fun d => init.contains d || o.after.toList.any fun e => Region.binds .any e && (match ops[e.on]? with | some p => p.dst == some d | none => false)
  | none => true
theorem backG_of {ops : Array Oper} (h : backG ops = true) : ∀ (i : Nat) (o : Oper), ops[i]? = some o → ∀ e ∈ o.after, e.on < i := by
  intro i o ho e he
  have := List.all_eq_true.1 h i (List.mem_range.2 (Array.getElem?_eq_some_iff.1 ho).1)
  rw [ho] at this
  exact of_decide_eq_true (List.all_eq_true.1 this e (Array.mem_toList_iff.2 he))
theorem dstG_of {ops : Array Oper} {N : Nat} (h : dstG ops N = true) : ∀ (i : Nat) (o : Oper), ops[i]? = some o → ∃ d, o.dst = some d ∧ d < N := by
  intro i o ho
  have h2 := List.all_eq_true.1 h i (List.mem_range.2 (Array.getElem?_eq_some_iff.1 ho).1)
  rw [ho] at h2
  dsimp only at h2
  cases hd : o.dst with
  | none => rw [hd] at h2; cases h2
  | some d => rw [hd] at h2; exact ⟨d, rfl, of_decide_eq_true h2⟩
theorem needG_of {ops : Array Oper} {needs : List (List Nat)} {init : List Nat} (h : needG ops needs init = true) : ∀ (i : Nat) (o : Oper), ops[i]? = some o → ∀ d ∈ needs.getD i [], d ∈ init ∨ ∃ e ∈ o.after, Region.binds .any e = true ∧ ∃ p, ops[e.on]? = some p ∧ p.dst = some d := by
  intro i o ho d hd
  have := List.all_eq_true.1 h i (List.mem_range.2 (Array.getElem?_eq_some_iff.1 ho).1)
  rw [ho] at this
  have := List.all_eq_true.1 this d hd
  rcases Bool.or_eq_true_iff.1 this with h1 | h1
  · exact .inl (by simpa using h1)
  · obtain ⟨e, he, h2⟩ := List.any_eq_true.1 h1
    rw [Bool.and_eq_true] at h2
    refine .inr ⟨e, Array.mem_toList_iff.1 he, h2.1, ?_⟩
    cases hp : ops[e.on]? with
    | none => rw [hp] at h2; cases h2.2
    | some p => rw [hp] at h2; exact ⟨p, rfl, by simpa using h2.2⟩
theorem opG_of {ops : Array Oper} {i : Nat} {o : Oper} {x : Op} {d : Option Tmp} (h : (ops[i]?).map (fun o => (o.op, o.dst)) = some (x, d)) (ho : ops[i]? = some o) : o.op = x ∧ o.dst = d := by
  rw [ho] at h
  simpa using h
theorem free_not {ops : Array Oper} {o : Oper} (h : o.guard = none) {t : Array Value} : Region.wanted o (yielded ops t) = true := by unfold Region.wanted; rw [h]
theorem RIn.atG {ops : Array Oper} {V : Tab} {G : World → Prop} {init : List Nat} {a0 a : Act} {w0 w : World} (h : RIn ops V G init a0 w0 (Array.replicate ops.size true) a w) (i d : Nat) (hd : (ops[i]?).bind (·.dst) = some d) : Holds V a w d := by
  cases ho : ops[i]? with
  | none => rw [ho] at hd; cases hd
  | some o =>
    rw [ho] at hd
    have hlt := (Array.getElem?_eq_some_iff.1 ho).1
    exact h.done i o d ho (by simp [hlt]) hd
theorem listG_cons {α : Type} {n : Nat} {l : List α} (h : l.length = n + 1) : ∃ x t, l = x :: t ∧ t.length = n := by
  cases l with
  | nil => simp at h
  | cons x t => exact ⟨x, t, rfl, by simpa using h⟩
theorem guardG_of {ops : Array Oper} {i : Nat} {o : Oper} (h : (ops[i]?).map (·.guard) = some none) (ho : ops[i]? = some o) : o.guard = none := by
  rw [ho] at h
  simpa using h
/-- What a list of slots says. -/
def tabV (tab : List (Nat × Value)) : Tab := fun d _ v => v = (tab.lookup d).getD undef
theorem fg_tmp {tab : List (Nat × Value)} {a : Act} {w : World} {l : List Nat} (d : Nat) (v : Value) (hn : ∀ x ∈ l, Holds (tabV tab) a w x) (hd : l.contains d = true) (hv : (tab.lookup d).getD undef = v) : a.tmps[d]? = some v := by
  obtain ⟨u, h1, h2⟩ := hn d (by simpa using hd)
  have h2 : u = _ := h2
  rw [h1, h2, hv]
theorem fg_val {tab : List (Nat × Value)} {a : Act} {w : World} {l : List Nat} (d : Nat) (v : Value) (hn : ∀ x ∈ l, Holds (tabV tab) a w x) (hd : l.contains d = true) (hv : (tab.lookup d).getD undef = v) : a.eval (.tmp d) = v :=
  eval_tmp (fg_tmp d v hn hd hv)
theorem fg_put {tab : List (Nat × Value)} {w : World} {o : Oper} {d0 : Nat} {v : Value} (hd : o.dst = some d0) (hv : v = (tab.lookup d0).getD undef) : ∀ d, o.dst = some d → tabV tab d w v := by
  intro d h
  rw [hd] at h
  obtain rfl := Option.some.inj h
  exact hv
theorem guard_at {ops : Array Oper} {i j d : Nat} {o : Oper} {b b' : Bool} {a : Act} (hg : (ops[i]?).map (·.guard) = some (some (j, b))) (hj : (ops[j]?).bind (·.dst) = some d) (ho : ops[i]? = some o) (hv : a.tmps[d]? = some (.bool b')) : Region.wanted o (yielded ops a.tmps) = (b' == b) := by
  rw [ho] at hg
  have hg : o.guard = some (j, b) := by simpa using hg
  unfold Region.wanted
  rw [hg]
  have h3 : yielded ops a.tmps j = some b' := by
    unfold yielded
    rw [hj]
    show (match (some d).bind (a.tmps[·]?) with | some (.bool b) => some b | _ => none) = some b'
    rw [Option.bind_some, hv]
  dsimp only
  rw [h3]
  cases b <;> cases b' <;> rfl
theorem guard_un {ops : Array Oper} {i j d : Nat} {o : Oper} {b : Bool} {a : Act} (hg : (ops[i]?).map (·.guard) = some (some (j, b))) (hj : (ops[j]?).bind (·.dst) = some d) (ho : ops[i]? = some o) (hv : a.tmps[d]? = some undef) : Region.wanted o (yielded ops a.tmps) = false := by
  rw [ho] at hg
  have hg : o.guard = some (j, b) := by simpa using hg
  unfold Region.wanted
  rw [hg]
  have h3 : yielded ops a.tmps j = none := by
    unfold yielded
    rw [hj]
    show (match (some d).bind (a.tmps[·]?) with | some (.bool b) => some b | _ => none) = none
    rw [Option.bind_some, hv]
    rfl
  dsimp only
  rw [h3]
  cases b <;> rfl
/-- The frame with some slots put anew. -/
def updM : List (Option Value) → List Value → List Value
  | none :: m, x :: l => x :: updM m l
  | some v :: m, _ :: l => v :: updM m l
  | _, _ => []
theorem updM_get : ∀ (m : List (Option Value)) (l : List Value) (i : Nat), m.length = l.length → (updM m l)[i]? = (l[i]?).map fun x => ((m[i]?).getD none).getD x
  | [], [], _, _ => by simp [updM]
  | none :: m, x :: l, 0, _ => by simp [updM]
  | some v :: m, x :: l, 0, _ => by simp [updM]
  | none :: m, x :: l, i + 1, h => by
    rw [updM, List.getElem?_cons_succ, List.getElem?_cons_succ, List.getElem?_cons_succ, updM_get m l i (by simpa using h)]
  | some v :: m, x :: l, i + 1, h => by
    rw [updM, List.getElem?_cons_succ, List.getElem?_cons_succ, List.getElem?_cons_succ, updM_get m l i (by simpa using h)]
  | [], _ :: _, _, h => by simp at h
  | _ :: _, [], _, h => by simp at h
def maskOf (tab : List (Nat × Value)) (dl : List Nat) : Nat → Nat → List (Option Value)
  | _, 0 => []
  | k, n + 1 => (bif dl.contains k then some ((tab.lookup k).getD undef) else none) :: maskOf tab dl (k + 1) n
theorem maskOf_len (tab : List (Nat × Value)) (dl : List Nat) : ∀ n k, (maskOf tab dl k n).length = n
  | 0, _ => rfl
  | n + 1, k => by rw [maskOf, List.length_cons, maskOf_len tab dl n]
theorem maskOf_get (tab : List (Nat × Value)) (dl : List Nat) : ∀ (n k i : Nat), i < n → (maskOf tab dl k n)[i]? = some (bif dl.contains (k + i) then some ((tab.lookup (k + i)).getD undef) else none)
  | 0, _, _, h => by omega
  | n + 1, k, 0, _ => by rw [maskOf]; simp
  | n + 1, k, i + 1, h => by rw [maskOf, List.getElem?_cons_succ, maskOf_get tab dl n (k + 1) i (by omega), show k + 1 + i = k + (i + 1) by omega]
def dstIn (ops : Array Oper) (dl : List Nat) : Bool := ops.toList.all (fun o => match o.dst with | some d => dl.contains d | none => true) && dl.all fun d => ops.toList.any fun o => o.dst == some d
theorem wp_region_freeF {P : Program} {ops ops' : Array Oper} {tab : List (Nat × Value)} {dl : List Nat} {mask : List (Option Value)} {G : World → Prop} {needs : Nat → List Nat} {init : List Nat} {N id : Nat} {Q : Exit → Act → World → Prop} {l T : List Value} {df : List Deferred} {w0 : World}
    (he : ops = ops') (hm : P.follows .mixedOrders = true) (hF : FreeG P ops' (tabV tab) G needs init N) (hN : l.length = N) (hdl : dstIn ops' dl = true) (hmk : mask = maskOf tab dl 0 N) (hG : G w0) (hini : ∀ d ∈ init, l[d]? = some ((tab.lookup d).getD undef))
    (hT : updM mask l = T) (fin : ∀ w, G w → Below w0.heap.size w0 w → Q .normal ⟨T.toArray, df⟩ w) : (Code.region id ops true).wp P Q ⟨l.toArray, df⟩ w0 := by
  refine wp_region_freeG he hm hF (by simp [hN]) hG (fun d hd => ⟨_, by simpa using hini d hd, rfl⟩) fun a w hin => ?_
  have hdf : a.defers = df := hin.dfr
  have hta : a.tmps = T.toArray := by
    have hsz : a.tmps.size = l.length := by simpa using hin.size
    refine Array.ext_getElem? fun k => ?_
    have hml : mask.length = l.length := by rw [hmk, maskOf_len, hN]
    have eT : T.toArray[k]? = T[k]? := by simp
    rw [eT, ← hT, updM_get _ _ _ hml]
    unfold dstIn at hdl
    rw [Bool.and_eq_true] at hdl
    rcases Nat.lt_or_ge k l.length with hlt | hge
    · have hmg : mask[k]? = some (bif dl.contains k then some ((tab.lookup k).getD undef) else none) := by rw [hmk, maskOf_get _ _ _ _ _ (by omega), Nat.zero_add]
      rw [hmg, List.getElem?_eq_getElem hlt]
      cases hc : dl.contains k
      · have hk := hin.keep k fun i o ho e => by
          have h1 := List.all_eq_true.1 hdl.1 o (Array.mem_toList_iff.2 (Array.mem_of_getElem? ho))
          rw [e] at h1
          dsimp only at h1
          rw [hc] at h1; cases h1
        have el : l.toArray[k]? = l[k]? := by simp
        rw [hk]
        show l.toArray[k]? = _
        rw [el, List.getElem?_eq_getElem hlt]
        rfl
      · have h1 := List.all_eq_true.1 hdl.2 k (by simpa using hc)
        obtain ⟨o, ho, h2⟩ := List.any_eq_true.1 h1
        have h2 : o.dst = some k := by simpa using h2
        obtain ⟨i, hi⟩ := List.mem_iff_getElem?.1 ho
        rw [Array.getElem?_toList] at hi
        obtain ⟨v, h3, h4⟩ := hin.atG i k (by rw [hi]; exact h2)
        have h4 : v = _ := h4
        rw [h3, h4]
        rfl
    · rw [Array.getElem?_eq_none (by omega), (List.getElem?_eq_none hge : l[k]? = none)]
      rfl
  obtain ⟨tm, df'⟩ := a
  dsimp only at hdf hta
  subst hdf hta
  exact fin w hin.g hin.below
end Go.Proofs.YtdlmmbfnmnglaaaGreatDoor
