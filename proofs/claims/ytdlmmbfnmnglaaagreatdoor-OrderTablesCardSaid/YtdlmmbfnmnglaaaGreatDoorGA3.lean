/- Several texts of this family in one: J14 P70 P71 Y0 W8 Y1 Y2 Y3 P80 Z1 W10 P81 Z2. -/
import Derived.Test.YtdlmmbfnmnglaaaGreatDoorGA2
import Derived.Test.YtdlmmbfnmnglaaaGreatDoorGA1
import Derived.Deep.RegionHeld3
import Derived.Laws.BitsAllLaws
import Derived.Laws.IdiomArrays
import Derived.Laws.ShiftsVarLaws
set_option linter.unusedSimpArgs false
set_option linter.unusedVariables false
namespace Go.Proofs.YtdlmmbfnmnglaaaGreatDoor
open Go.RowKit

/-- A model boxed in block g, a copy of an element in block B. -/
structure TwoM (w W : World) (g B : Nat) (t : TypeId) (bv wv x v : Value) : Prop where
  bel : Below w.heap.size w W
  box : Blk W g 25 #[bv, wv]
  el : Blk W B t #[x, v]
theorem Blk.duo {w : World} {g : Nat} {t : TypeId} {a b : Value} (h : Blk w g t #[a, b]) : w.cell? ⟨g, 0, none⟩ = some a ∧ w.cell? ⟨g, 1, none⟩ = some b ∧ w.frozen? ⟨g, 0, none⟩ = false ∧ w.frozen? ⟨g, 1, none⟩ = false := ⟨h.cell 0, h.cell 1, h.frozen 0, h.frozen 1⟩
theorem TwoM.below {w W W' : World} {g B : Nat} {t : TypeId} {bv wv x v : Value} (h : TwoM w W g B t bv wv x v) (hb : Below W.heap.size W W') : TwoM w W' g B t bv wv x v := ⟨h.bel.trans (hb.mono h.bel.size), h.box.below hb h.box.lt, h.el.below hb h.el.lt⟩
theorem TwoM.cells {w W : World} {g B : Nat} {t : TypeId} {bv wv x v : Value} (h : TwoM w W g B t bv wv x v) : W.cell? ⟨g, 0, none⟩ = some bv ∧ W.cell? ⟨g, 1, none⟩ = some wv ∧ W.cell? ⟨B, 0, none⟩ = some x ∧ W.cell? ⟨B, 1, none⟩ = some v := ⟨h.box.duo.1, h.box.duo.2.1, h.el.duo.1, h.el.duo.2.1⟩
theorem TwoM.new {w W : World} {g : Nat} {bv wv : Value} (hb : Below w.heap.size w W) (hx : Blk W g 25 #[bv, wv]) (t : TypeId) (x v : Value) : TwoM w (W.alloc (.cells #[x, v] t)) g W.heap.size t bv wv x v := ⟨hb.alloc hb.size _, hx.alloc _, Blk.new _ _ _⟩
theorem bat_ways (pre : List (List UInt8)) (b : Bat) : (nameS b.name = false ∧ batErr pre b = 5) ∨ (nameS b.name = true ∧ decide (b.name ∈ pre) = true ∧ batErr pre b = 7) ∨ (nameS b.name = true ∧ decide (b.name ∈ pre) = false ∧ batErr pre b = checkD b.dist) := by
  unfold batErr
  cases h1 : nameS b.name
  · exact .inl ⟨rfl, by simp⟩
  · by_cases h2 : b.name ∈ pre
    · exact .inr (.inl ⟨rfl, by simp [h2], by rw [if_neg (by simp), if_pos h2]⟩)
    · exact .inr (.inr ⟨rfl, by simp [h2], by rw [if_neg (by simp), if_neg h2]⟩)
theorem bow_ways (pre : List (List UInt8)) (b : Bow) : (nameS b.name = false ∧ bowErr pre b = 5) ∨ (nameS b.name = true ∧ decide (b.name ∈ pre) = true ∧ bowErr pre b = 7) ∨ (nameS b.name = true ∧ decide (b.name ∈ pre) = false ∧ b.shift < -12 ∧ bowErr pre b = 2) ∨ (nameS b.name = true ∧ decide (b.name ∈ pre) = false ∧ ¬ b.shift < -12 ∧ 12 < b.shift ∧ bowErr pre b = 2) ∨ (nameS b.name = true ∧ decide (b.name ∈ pre) = false ∧ ¬ b.shift < -12 ∧ ¬ 12 < b.shift ∧ bowErr pre b = 0) := by
  unfold bowErr
  cases h1 : nameS b.name
  · exact .inl ⟨rfl, by simp⟩
  · by_cases h2 : b.name ∈ pre
    · exact .inr (.inl ⟨rfl, by simp [h2], by rw [if_neg (by simp), if_pos h2]⟩)
    · by_cases h3 : b.shift < -12
      · exact .inr (.inr (.inl ⟨rfl, by simp [h2], h3, by rw [if_neg (by simp), if_neg h2, if_pos (.inl h3)]⟩))
      · by_cases h4 : 12 < b.shift
        · exact .inr (.inr (.inr (.inl ⟨rfl, by simp [h2], h3, h4, by rw [if_neg (by simp), if_neg h2, if_pos (.inr h4)]⟩)))
        · exact .inr (.inr (.inr (.inr ⟨rfl, by simp [h2], h3, h4, by rw [if_neg (by simp), if_neg h2, if_neg (by omega)]⟩)))
/-- What is left of a check: the batters from k on, then the bowlers. -/
def restM (m : Mdl) (k : Nat) : Int := if batsF ((m.bats.take k).map (·.name)) (m.bats.drop k) ≠ 0 then batsF ((m.bats.take k).map (·.name)) (m.bats.drop k) else bowsF [] m.bows
def restW (m : Mdl) (k : Nat) : Int := bowsF ((m.bows.take k).map (·.name)) (m.bows.drop k)
theorem restM_at {m : Mdl} {k : Nat} (hk : k < m.bats.length) : restM m k = if batErr ((m.bats.take k).map (·.name)) m.bats[k] ≠ 0 then batErr ((m.bats.take k).map (·.name)) m.bats[k] else restM m (k + 1) := by
  unfold restM
  rw [batsF_at hk]
  by_cases h : batErr ((m.bats.take k).map (·.name)) m.bats[k] ≠ 0
  · simp only [if_pos h]
  · rw [if_neg h, if_neg h]
theorem restM_end {m : Mdl} : restM m m.bats.length = restW m 0 := by
  unfold restM restW
  rw [List.drop_of_length_le (Nat.le_refl _), batsF, if_neg (by simp)]
  simp
theorem restW_at {m : Mdl} {k : Nat} (hk : k < m.bows.length) : restW m k = if bowErr ((m.bows.take k).map (·.name)) m.bows[k] ≠ 0 then bowErr ((m.bows.take k).map (·.name)) m.bows[k] else restW m (k + 1) := bowsF_at hk
theorem restW_end {m : Mdl} : restW m m.bows.length = 0 := by
  unfold restW
  rw [List.drop_of_length_le (Nat.le_refl _), bowsF]
theorem checkM_rest {m : Mdl} (h1 : ¬ (m.bats.length = 0 ∨ m.bows.length = 0)) (h2 : ¬ (11 < m.bats.length ∨ 11 < m.bows.length)) : checkM m = restM m 0 := by
  unfold checkM restM
  rw [if_neg h1, if_neg h2]; simp
set_option maxRecDepth 100000 in
set_option maxHeartbeats 4000000 in
theorem m_Check (m : Mdl) (bv wv : Value) (w : World) (h : MdlAt w (· < w.heap.size) bv wv m) :
    Calls Tryz.prog 80 #[.agg #[bv, wv]] w fun e w' => e = .returned (.int .i64 (checkM m)) ∧ Below w.heap.size w w' := by
  obtain ⟨z, hz⟩ : ∃ z, z = checkM m := ⟨_, rfl⟩
  rw [← hz]
  obtain ⟨A, c, rfl, hc, hc2⟩ := h.bat.shape
  obtain ⟨A', c', rfl, hc', hc2'⟩ := h.bow.shape
  have HM := Lib.hid h
  have hb1 : Below w.heap.size w (w.alloc (.cells #[.slice A m.bats.length c, .slice A' m.bows.length c'] 25)) := Below.alloc (Below.refl _ _) (Nat.le_refl _) _
  have hx1 := Blk.new w 25 #[.slice A m.bats.length c, .slice A' m.bows.length c']
  by_cases h1 : m.bats.length = 0 ∨ m.bows.length = 0
  · have HZ := Lib.hid (show z = 6 by rw [hz]; unfold checkM; rw [if_pos h1])
    have HB1 := Lib.hid hb1
    clear hz h hb1 hx1
    by_cases h2 : m.bats.length = 0
    · have e1 : ((m.bats.length : Int) == 0) = true := beq_iff_eq.2 (by omega)
      have h3 := Lib.hid h2
      clear h1 h2
      go_enter Tryz.func80, Tryz.ntmps80
      go_wp2
      go_ret
      exact ⟨ret_i HZ.out.symm, HB1.out⟩
    · have e1 : ((m.bats.length : Int) == 0) = false := beq_eq_false_iff_ne.2 (by omega)
      have e2 : ((m.bows.length : Int) == 0) = true := beq_iff_eq.2 (by omega)
      have h3 := Lib.hid h2
      clear h1 h2
      go_enter Tryz.func80, Tryz.ntmps80
      go_wp2
      go_ret
      exact ⟨ret_i HZ.out.symm, HB1.out⟩
  have e1 : ((m.bats.length : Int) == 0) = false := beq_eq_false_iff_ne.2 (by omega)
  have e2 : ((m.bows.length : Int) == 0) = false := beq_eq_false_iff_ne.2 (by omega)
  by_cases h2 : 11 < m.bats.length ∨ 11 < m.bows.length
  · have HZ := Lib.hid (show z = 9 by rw [hz]; unfold checkM; rw [if_neg h1, if_pos h2])
    have HB1 := Lib.hid hb1
    clear hz h hb1 hx1 h1
    by_cases h3 : 11 < m.bats.length
    · have e3 : (11 : Int) < (m.bats.length : Int) := by omega
      clear h2 h3
      go_enter Tryz.func80, Tryz.ntmps80
      go_wp2
      go_ret
      exact ⟨ret_i HZ.out.symm, HB1.out⟩
    · have e3 : ¬ (11 : Int) < (m.bats.length : Int) := by omega
      have e4 : (11 : Int) < (m.bows.length : Int) := by omega
      clear h2 h3
      go_enter Tryz.func80, Tryz.ntmps80
      go_wp2
      go_ret
      exact ⟨ret_i HZ.out.symm, HB1.out⟩
  have HZ0 := Lib.hid (show z = restM m 0 by rw [hz, checkM_rest h1 h2])
  have e3 : ¬ (11 : Int) < (m.bats.length : Int) := by omega
  have e4 : ¬ (11 : Int) < (m.bows.length : Int) := by omega
  have HB1 := Lib.hid hb1
  have HX1 := Lib.hid hx1
  clear hz h hb1 hx1 h1 h2
  go_enter Tryz.func80, Tryz.ntmps80
  go_wp2
  go_loopw [33] (fun i wr => ∃ k : Nat, k ≤ m.bats.length ∧ i = .int .i64 k ∧ Hid (Below w.heap.size w wr ∧ Blk wr w.heap.size 25 #[.slice A m.bats.length c, .slice A' m.bows.length c']) ∧ Hid (z = restM m k)) (fun i _ => m.bats.length - (intOf i).toNat)
  case atStart => exact ⟨0, Nat.zero_le _, rfl, Lib.hid ⟨HB1.out, HX1.out⟩, HZ0⟩
  case round =>
    clear HB1 HX1
    obtain ⟨k, hk, rfl, HW, hzz⟩ := hrel
    obtain ⟨r0, r1, _, _⟩ := HW.out.2.duo
    by_cases hlt : k < m.bats.length
    · obtain ⟨b0, o, v, rfl, hbl, yy0, yy1, hv, hpl⟩ := bat_at HM.out.bat hlt
      have y0 := (HW.out.1.cell (p := ⟨b0, o + k * 2, none⟩) hbl).trans yy0
      have y1 := (HW.out.1.cell (p := ⟨b0, o + k * 2 + 1, none⟩) hbl).trans yy1
      have hz2 := hzz.out
      rw [restM_at hlt] at hz2
      have hbf := batI_before hlt
      have hw := bat_ways ((m.bats.take k).map (·.name)) m.bats[k]
      obtain ⟨⟨p, d⟩, hp⟩ : ∃ b, b = m.bats[k] := ⟨_, rfl⟩
      rw [← hp] at y0 hv hpl hz2 hbf hw
      dsimp only at y0 hv hpl hbf hw
      obtain ⟨A2, c2, hve, _, _⟩ := hv.shape
      obtain ⟨n2, hn2⟩ : ∃ n, n = d.length := ⟨_, rfl⟩
      rw [← hn2] at hve
      subst hve
      generalize (m.bats.take k).map (·.name) = pre at hz2 hbf hw
      have hx := TwoM.new HW.out.1 HW.out.2 60 (.string (S p)) (.slice A2 n2 c2)
      obtain ⟨x0, x1, x2, x3⟩ := hx.cells
      have HX := Lib.hid hx
      clear hzz hp yy0 yy1 hx
      have tok0 : True := trivial
      have kb : ∀ W, Below w.heap.size w W → Calls Tryz.prog 121 #[.agg #[.slice (some ⟨b0, o, none⟩) m.bats.length c, .slice A' m.bows.length c'], .string (S p)] W fun e W' => e = .returned (.int .i64 (batI m.bats p)) ∧ Below W.heap.size W W' := fun W hW => m_Batter m _ _ p W (HM.out.below hW)
      have kd : ∀ W, Below w.heap.size w W → Calls Tryz.prog 106 #[.slice A2 n2 c2] W fun e W' => e = .returned (.int .i64 (checkD d)) ∧ Below W.heap.size W W' := fun W hW => ch_Check d _ W (hv.keep elOtc_good (Same.of_below hW) fun b h => Nat.lt_of_lt_of_le h hW.size)
      obtain ⟨i, hi⟩ : ∃ i, i = batI m.bats p := ⟨_, rfl⟩
      obtain ⟨u, hu⟩ : ∃ u, u = checkD d := ⟨_, rfl⟩
      rw [← hi] at kb hbf
      rw [← hu] at kd hw
      have KB := Lib.hid kb
      have KD := Lib.hid kd
      clear kb kd hi hu hn2
      rcases hw with ⟨hnm, he⟩ | ⟨hnm, hin, he⟩ | ⟨hnm, hin, he⟩
      · rw [he, if_pos (by decide)] at hz2
        have kn : ∀ W, Calls Tryz.prog 120 #[.string (S p)] W fun e W' => e = .returned (.bool false) ∧ Below W.heap.size W W' := fun W => (text_Name (S p) W (by rw [S_size]; exact hpl)).mono fun e W' h => by rw [S_data, hnm] at h; exact h
        have KN := Lib.hid kn
        have HZZ := Lib.hid hz2
        clear kn hz2 he hnm hbf hv hpl
        go_wp2_with (first
          | (clear tok0; go_at_call 120; refine (KN.out _).mono ?_; rintro e w2 ⟨rfl, hb2⟩; have HX2 := Lib.hid (HX.out.below hb2); obtain ⟨p0, p1, p2, p3⟩ := HX2.out.cells; clear hb2; have tok1 : True := trivial))
        go_ret
        exact ⟨ret_i HZZ.out.symm, HX2.out.bel⟩
      · rw [he, if_pos (by decide)] at hz2
        have kn : ∀ W, Calls Tryz.prog 120 #[.string (S p)] W fun e W' => e = .returned (.bool true) ∧ Below W.heap.size W W' := fun W => (text_Name (S p) W (by rw [S_size]; exact hpl)).mono fun e W' h => by rw [S_data, hnm] at h; exact h
        have KN := Lib.hid kn
        have HZZ := Lib.hid hz2
        rw [hin] at hbf
        clear kn hz2 he hnm hin hv hpl
        go_wp2_with (first
          | (clear tok0; go_at_call 120; refine (KN.out _).mono ?_; rintro e w2 ⟨rfl, hb2⟩; have HX2 := Lib.hid (HX.out.below hb2); obtain ⟨p0, p1, p2, p3⟩ := HX2.out.cells; clear hb2; have tok1 : True := trivial)
          | (clear tok1; go_at_call 121; refine (KB.out _ HX2.out.bel).mono ?_; rintro e w3 ⟨rfl, hb3⟩; have HX3 := Lib.hid (HX2.out.below hb3); obtain ⟨q0, q1, q2, q3⟩ := HX3.out.cells; clear hb3; have tok2 : True := trivial))
        go_ret
        exact ⟨ret_i HZZ.out.symm, HX3.out.bel⟩
      · rw [he] at hz2
        have kn : ∀ W, Calls Tryz.prog 120 #[.string (S p)] W fun e W' => e = .returned (.bool true) ∧ Below W.heap.size W W' := fun W => (text_Name (S p) W (by rw [S_size]; exact hpl)).mono fun e W' h => by rw [S_data, hnm] at h; exact h
        have KN := Lib.hid kn
        rw [hin] at hbf
        by_cases hu0 : u = 0
        · rw [if_neg (by simp [hu0])] at hz2
          have eu : (u != 0) = false := by simp [hu0]
          have HZZ := Lib.hid hz2
          clear kn hz2 he hnm hin hu0 hv hpl
          go_wp2_with (first
          | (clear tok0; go_at_call 120; refine (KN.out _).mono ?_; rintro e w2 ⟨rfl, hb2⟩; have HX2 := Lib.hid (HX.out.below hb2); obtain ⟨p0, p1, p2, p3⟩ := HX2.out.cells; clear hb2; have tok1 : True := trivial)
          | (clear tok1; go_at_call 121; refine (KB.out _ HX2.out.bel).mono ?_; rintro e w3 ⟨rfl, hb3⟩; have HX3 := Lib.hid (HX2.out.below hb3); obtain ⟨q0, q1, q2, q3⟩ := HX3.out.cells; clear hb3; have tok2 : True := trivial)
          | (clear tok2; go_at_call 106; refine (KD.out _ HX3.out.bel).mono ?_; rintro e w4 ⟨rfl, hb4⟩; have HX4 := Lib.hid (HX3.out.below hb4); clear hb4; have tok3 : True := trivial))
          go_roundw
          case rel => exact ⟨k + 1, by omega, by go_num, Lib.hid ⟨HX4.out.bel, HX4.out.box⟩, HZZ⟩
          case measure => simp [intOf]; omega
        · rw [if_pos hu0] at hz2
          have eu : (u != 0) = true := by simp [hu0]
          have HZZ := Lib.hid hz2
          clear kn hz2 he hnm hin hu0 hv hpl
          go_wp2_with (first
          | (clear tok0; go_at_call 120; refine (KN.out _).mono ?_; rintro e w2 ⟨rfl, hb2⟩; have HX2 := Lib.hid (HX.out.below hb2); obtain ⟨p0, p1, p2, p3⟩ := HX2.out.cells; clear hb2; have tok1 : True := trivial)
          | (clear tok1; go_at_call 121; refine (KB.out _ HX2.out.bel).mono ?_; rintro e w3 ⟨rfl, hb3⟩; have HX3 := Lib.hid (HX2.out.below hb3); obtain ⟨q0, q1, q2, q3⟩ := HX3.out.cells; clear hb3; have tok2 : True := trivial)
          | (clear tok2; go_at_call 106; refine (KD.out _ HX3.out.bel).mono ?_; rintro e w4 ⟨rfl, hb4⟩; have HX4 := Lib.hid (HX3.out.below hb4); clear hb4; have tok3 : True := trivial))
          go_ret
          exact ⟨ret_i HZZ.out.symm, HX4.out.bel⟩
    · obtain rfl : k = m.bats.length := by omega
      have hz2 := hzz.out
      rw [restM_end] at hz2
      have HZ1 := Lib.hid hz2
      have HW1 := HW
      clear hzz hz2 HW HZ0
      obtain ⟨wo, rfl⟩ : ∃ wo : World, wo = wr := ⟨_, rfl⟩
      go_wp2
      go_loopw [60] (fun i wr => ∃ k : Nat, k ≤ m.bows.length ∧ i = .int .i64 k ∧ Hid (Below w.heap.size w wr ∧ Blk wr w.heap.size 25 #[.slice A m.bats.length c, .slice A' m.bows.length c']) ∧ Hid (z = restW m k)) (fun i _ => m.bows.length - (intOf i).toNat)
      case atStart => exact ⟨0, Nat.zero_le _, rfl, HW1, HZ1⟩
      case round =>
        clear HW1 HZ1 r0 r1
        obtain ⟨k, hk, rfl, HW, hzz⟩ := hrel
        obtain ⟨r0, r1, _, _⟩ := HW.out.2.duo
        by_cases hlt : k < m.bows.length
        · obtain ⟨b0, o, rfl, hbl, yy0, yy1, hpl⟩ := bow_at HM.out.bow hlt
          have y0 := (HW.out.1.cell (p := ⟨b0, o + k * 2, none⟩) hbl).trans yy0
          have y1 := (HW.out.1.cell (p := ⟨b0, o + k * 2 + 1, none⟩) hbl).trans yy1
          have hz2 := hzz.out
          rw [restW_at hlt] at hz2
          have hbf := bowI_before hlt
          have hw := bow_ways ((m.bows.take k).map (·.name)) m.bows[k]
          obtain ⟨⟨p, d⟩, hp⟩ : ∃ b, b = m.bows[k] := ⟨_, rfl⟩
          rw [← hp] at y0 y1 hpl hz2 hbf hw
          dsimp only at y0 y1 hpl hbf hw
          generalize (m.bows.take k).map (·.name) = pre at hz2 hbf hw
          have hx := TwoM.new HW.out.1 HW.out.2 62 (.string (S p)) (.int .i64 d)
          obtain ⟨x0, x1, x2, x3⟩ := hx.cells
          have HX := Lib.hid hx
          clear hzz hp yy0 yy1 hx
          have tok0 : True := trivial
          have kb : ∀ W, Below w.heap.size w W → Calls Tryz.prog 122 #[.agg #[.slice A m.bats.length c, .slice (some ⟨b0, o, none⟩) m.bows.length c'], .string (S p)] W fun e W' => e = .returned (.int .i64 (bowI m.bows p)) ∧ Below W.heap.size W W' := fun W hW => m_Bowler m _ _ p W (HM.out.below hW)
          obtain ⟨i, hi⟩ : ∃ i, i = bowI m.bows p := ⟨_, rfl⟩
          rw [← hi] at kb hbf
          have KB := Lib.hid kb
          clear kb hi
          rcases hw with ⟨hnm, he⟩ | ⟨hnm, hin, he⟩ | ⟨hnm, hin, hs, he⟩ | ⟨hnm, hin, hs, hs2, he⟩ | ⟨hnm, hin, hs, hs2, he⟩
          · rw [he, if_pos (by decide)] at hz2
            have kn : ∀ W, Calls Tryz.prog 120 #[.string (S p)] W fun e W' => e = .returned (.bool false) ∧ Below W.heap.size W W' := fun W => (text_Name (S p) W (by rw [S_size]; exact hpl)).mono fun e W' h => by rw [S_data, hnm] at h; exact h
            have KN := Lib.hid kn
            have HZZ := Lib.hid hz2
            clear kn hz2 he hnm hbf hpl
            go_wp2_with (first
          | (clear tok0; go_at_call 120; refine (KN.out _).mono ?_; rintro e w2 ⟨rfl, hb2⟩; have HX2 := Lib.hid (HX.out.below hb2); obtain ⟨p0, p1, p2, p3⟩ := HX2.out.cells; clear hb2; have tok1 : True := trivial))
            go_ret
            exact ⟨ret_i HZZ.out.symm, HX2.out.bel⟩
          · rw [he, if_pos (by decide)] at hz2
            have kn : ∀ W, Calls Tryz.prog 120 #[.string (S p)] W fun e W' => e = .returned (.bool true) ∧ Below W.heap.size W W' := fun W => (text_Name (S p) W (by rw [S_size]; exact hpl)).mono fun e W' h => by rw [S_data, hnm] at h; exact h
            have KN := Lib.hid kn
            have HZZ := Lib.hid hz2
            rw [hin] at hbf
            clear kn hz2 he hnm hin hpl
            go_wp2_with (first
          | (clear tok0; go_at_call 120; refine (KN.out _).mono ?_; rintro e w2 ⟨rfl, hb2⟩; have HX2 := Lib.hid (HX.out.below hb2); obtain ⟨p0, p1, p2, p3⟩ := HX2.out.cells; clear hb2; have tok1 : True := trivial)
          | (clear tok1; go_at_call 122; refine (KB.out _ HX2.out.bel).mono ?_; rintro e w3 ⟨rfl, hb3⟩; have HX3 := Lib.hid (HX2.out.below hb3); obtain ⟨q0, q1, q2, q3⟩ := HX3.out.cells; clear hb3; have tok2 : True := trivial))
            go_ret
            exact ⟨ret_i HZZ.out.symm, HX3.out.bel⟩
          · rw [he, if_pos (by decide)] at hz2
            have kn : ∀ W, Calls Tryz.prog 120 #[.string (S p)] W fun e W' => e = .returned (.bool true) ∧ Below W.heap.size W W' := fun W => (text_Name (S p) W (by rw [S_size]; exact hpl)).mono fun e W' h => by rw [S_data, hnm] at h; exact h
            have KN := Lib.hid kn
            have HZZ := Lib.hid hz2
            rw [hin] at hbf
            clear kn hz2 he hnm hin hpl
            go_wp2_with (first
          | (clear tok0; go_at_call 120; refine (KN.out _).mono ?_; rintro e w2 ⟨rfl, hb2⟩; have HX2 := Lib.hid (HX.out.below hb2); obtain ⟨p0, p1, p2, p3⟩ := HX2.out.cells; clear hb2; have tok1 : True := trivial)
          | (clear tok1; go_at_call 122; refine (KB.out _ HX2.out.bel).mono ?_; rintro e w3 ⟨rfl, hb3⟩; have HX3 := Lib.hid (HX2.out.below hb3); obtain ⟨q0, q1, q2, q3⟩ := HX3.out.cells; clear hb3; have tok2 : True := trivial))
            go_ret
            exact ⟨ret_i HZZ.out.symm, HX3.out.bel⟩
          · rw [he, if_pos (by decide)] at hz2
            have kn : ∀ W, Calls Tryz.prog 120 #[.string (S p)] W fun e W' => e = .returned (.bool true) ∧ Below W.heap.size W W' := fun W => (text_Name (S p) W (by rw [S_size]; exact hpl)).mono fun e W' h => by rw [S_data, hnm] at h; exact h
            have KN := Lib.hid kn
            have HZZ := Lib.hid hz2
            rw [hin] at hbf
            clear kn hz2 he hnm hin hpl
            go_wp2_with (first
          | (clear tok0; go_at_call 120; refine (KN.out _).mono ?_; rintro e w2 ⟨rfl, hb2⟩; have HX2 := Lib.hid (HX.out.below hb2); obtain ⟨p0, p1, p2, p3⟩ := HX2.out.cells; clear hb2; have tok1 : True := trivial)
          | (clear tok1; go_at_call 122; refine (KB.out _ HX2.out.bel).mono ?_; rintro e w3 ⟨rfl, hb3⟩; have HX3 := Lib.hid (HX2.out.below hb3); obtain ⟨q0, q1, q2, q3⟩ := HX3.out.cells; clear hb3; have tok2 : True := trivial))
            go_ret
            exact ⟨ret_i HZZ.out.symm, HX3.out.bel⟩
          · rw [he, if_neg (by decide)] at hz2
            have kn : ∀ W, Calls Tryz.prog 120 #[.string (S p)] W fun e W' => e = .returned (.bool true) ∧ Below W.heap.size W W' := fun W => (text_Name (S p) W (by rw [S_size]; exact hpl)).mono fun e W' h => by rw [S_data, hnm] at h; exact h
            have KN := Lib.hid kn
            have HZZ := Lib.hid hz2
            rw [hin] at hbf
            clear kn hz2 he hnm hin hpl
            go_wp2_with (first
          | (clear tok0; go_at_call 120; refine (KN.out _).mono ?_; rintro e w2 ⟨rfl, hb2⟩; have HX2 := Lib.hid (HX.out.below hb2); obtain ⟨p0, p1, p2, p3⟩ := HX2.out.cells; clear hb2; have tok1 : True := trivial)
          | (clear tok1; go_at_call 122; refine (KB.out _ HX2.out.bel).mono ?_; rintro e w3 ⟨rfl, hb3⟩; have HX3 := Lib.hid (HX2.out.below hb3); obtain ⟨q0, q1, q2, q3⟩ := HX3.out.cells; clear hb3; have tok2 : True := trivial))
            go_roundw
            case rel => exact ⟨k + 1, by omega, by go_num, Lib.hid ⟨HX3.out.bel, HX3.out.box⟩, HZZ⟩
            case measure => simp [intOf]; omega
        · obtain rfl : k = m.bows.length := by omega
          have hz2 := hzz.out
          rw [restW_end] at hz2
          have HZ2 := Lib.hid hz2
          clear hzz hz2
          go_wp2
          go_ret
          exact ⟨ret_i HZ2.out.symm, HW.out.1⟩
set_option maxRecDepth 100000 in
set_option maxHeartbeats 4000000 in
theorem r_Check (m : Mdl) (bv wv : Value) (w : World) (h : MdlAt w (· < w.heap.size) bv wv m) :
    Calls Tryz.prog 77 #[.agg #[bv, wv]] w fun e w' => e = .returned (.int .i64 (checkM m)) ∧ Below w.heap.size w w' := by
  obtain ⟨z, hz⟩ : ∃ z, z = checkM m := ⟨_, rfl⟩
  rw [← hz]
  obtain ⟨A, c, rfl, hc, hc2⟩ := h.bat.shape
  obtain ⟨A', c', rfl, hc', hc2'⟩ := h.bow.shape
  have HM := Lib.hid h
  have hb1 : Below w.heap.size w (w.alloc (.cells #[.slice A m.bats.length c, .slice A' m.bows.length c'] 25)) := Below.alloc (Below.refl _ _) (Nat.le_refl _) _
  have hx1 := Blk.new w 25 #[.slice A m.bats.length c, .slice A' m.bows.length c']
  by_cases h1 : m.bats.length = 0 ∨ m.bows.length = 0
  · have HZ := Lib.hid (show z = 6 by rw [hz]; unfold checkM; rw [if_pos h1])
    have HB1 := Lib.hid hb1
    clear hz h hb1 hx1
    by_cases h2 : m.bats.length = 0
    · have e1 : ((m.bats.length : Int) == 0) = true := beq_iff_eq.2 (by omega)
      have h3 := Lib.hid h2
      clear h1 h2
      go_enter Tryz.func77, Tryz.ntmps77
      go_wp2
      go_ret
      exact ⟨ret_i HZ.out.symm, HB1.out⟩
    · have e1 : ((m.bats.length : Int) == 0) = false := beq_eq_false_iff_ne.2 (by omega)
      have e2 : ((m.bows.length : Int) == 0) = true := beq_iff_eq.2 (by omega)
      have h3 := Lib.hid h2
      clear h1 h2
      go_enter Tryz.func77, Tryz.ntmps77
      go_wp2
      go_ret
      exact ⟨ret_i HZ.out.symm, HB1.out⟩
  have e1 : ((m.bats.length : Int) == 0) = false := beq_eq_false_iff_ne.2 (by omega)
  have e2 : ((m.bows.length : Int) == 0) = false := beq_eq_false_iff_ne.2 (by omega)
  by_cases h2 : 11 < m.bats.length ∨ 11 < m.bows.length
  · have HZ := Lib.hid (show z = 9 by rw [hz]; unfold checkM; rw [if_neg h1, if_pos h2])
    have HB1 := Lib.hid hb1
    clear hz h hb1 hx1 h1
    by_cases h3 : 11 < m.bats.length
    · have e3 : (11 : Int) < (m.bats.length : Int) := by omega
      clear h2 h3
      go_enter Tryz.func77, Tryz.ntmps77
      go_wp2
      go_ret
      exact ⟨ret_i HZ.out.symm, HB1.out⟩
    · have e3 : ¬ (11 : Int) < (m.bats.length : Int) := by omega
      have e4 : (11 : Int) < (m.bows.length : Int) := by omega
      clear h2 h3
      go_enter Tryz.func77, Tryz.ntmps77
      go_wp2
      go_ret
      exact ⟨ret_i HZ.out.symm, HB1.out⟩
  have HZ0 := Lib.hid (show z = restM m 0 by rw [hz, checkM_rest h1 h2])
  have e3 : ¬ (11 : Int) < (m.bats.length : Int) := by omega
  have e4 : ¬ (11 : Int) < (m.bows.length : Int) := by omega
  have HB1 := Lib.hid hb1
  have HX1 := Lib.hid hx1
  clear hz h hb1 hx1 h1 h2
  go_enter Tryz.func77, Tryz.ntmps77
  go_wp2
  go_loopw [31] (fun i wr => ∃ k : Nat, k ≤ m.bats.length ∧ i = .int .i64 k ∧ Hid (Below w.heap.size w wr ∧ Blk wr w.heap.size 25 #[.slice A m.bats.length c, .slice A' m.bows.length c']) ∧ Hid (z = restM m k)) (fun i _ => m.bats.length - (intOf i).toNat)
  case atStart => exact ⟨0, Nat.zero_le _, rfl, Lib.hid ⟨HB1.out, HX1.out⟩, HZ0⟩
  case round =>
    clear HB1 HX1
    obtain ⟨k, hk, rfl, HW, hzz⟩ := hrel
    obtain ⟨r0, r1, _, _⟩ := HW.out.2.duo
    by_cases hlt : k < m.bats.length
    · obtain ⟨b0, o, v, rfl, hbl, yy0, yy1, hv, hpl⟩ := bat_at HM.out.bat hlt
      have y0 := (HW.out.1.cell (p := ⟨b0, o + k * 2, none⟩) hbl).trans yy0
      have y1 := (HW.out.1.cell (p := ⟨b0, o + k * 2 + 1, none⟩) hbl).trans yy1
      have hz2 := hzz.out
      rw [restM_at hlt] at hz2
      have hbf := batI_before hlt
      have hw := bat_ways ((m.bats.take k).map (·.name)) m.bats[k]
      obtain ⟨⟨p, d⟩, hp⟩ : ∃ b, b = m.bats[k] := ⟨_, rfl⟩
      rw [← hp] at y0 hv hpl hz2 hbf hw
      dsimp only at y0 hv hpl hbf hw
      obtain ⟨A2, c2, hve, _, _⟩ := hv.shape
      obtain ⟨n2, hn2⟩ : ∃ n, n = d.length := ⟨_, rfl⟩
      rw [← hn2] at hve
      subst hve
      generalize (m.bats.take k).map (·.name) = pre at hz2 hbf hw
      have hx := TwoM.new HW.out.1 HW.out.2 60 (.string (S p)) (.slice A2 n2 c2)
      obtain ⟨x0, x1, x2, x3⟩ := hx.cells
      have HX := Lib.hid hx
      clear hzz hp yy0 yy1 hx
      have tok0 : True := trivial
      have kb : ∀ W, Below w.heap.size w W → Calls Tryz.prog 114 #[.agg #[.slice (some ⟨b0, o, none⟩) m.bats.length c, .slice A' m.bows.length c'], .string (S p)] W fun e W' => e = .returned (.int .i64 (batI m.bats p)) ∧ Below W.heap.size W W' := fun W hW => r_Batter m _ _ p W (HM.out.below hW)
      have kd : ∀ W, Below w.heap.size w W → Calls Tryz.prog 115 #[.slice A2 n2 c2] W fun e W' => e = .returned (.int .i64 (checkD d)) ∧ Below W.heap.size W W' := fun W hW => ref_CCheck d _ W (hv.keep elOtc_good (Same.of_below hW) fun b h => Nat.lt_of_lt_of_le h hW.size)
      obtain ⟨i, hi⟩ : ∃ i, i = batI m.bats p := ⟨_, rfl⟩
      obtain ⟨u, hu⟩ : ∃ u, u = checkD d := ⟨_, rfl⟩
      rw [← hi] at kb hbf
      rw [← hu] at kd hw
      have KB := Lib.hid kb
      have KD := Lib.hid kd
      clear kb kd hi hu hn2
      rcases hw with ⟨hnm, he⟩ | ⟨hnm, hin, he⟩ | ⟨hnm, hin, he⟩
      · rw [he, if_pos (by decide)] at hz2
        have kn : ∀ W, Calls Tryz.prog 113 #[.string (S p)] W fun e W' => e = .returned (.bool false) ∧ Below W.heap.size W W' := fun W => (ref_Name (S p) W (by rw [S_size]; exact hpl)).mono fun e W' h => by rw [S_data, hnm] at h; exact ⟨h.1, h.2 ▸ Below.refl _ _⟩
        have KN := Lib.hid kn
        have HZZ := Lib.hid hz2
        clear kn hz2 he hnm hbf hv hpl
        go_wp2_with (first
          | (clear tok0; go_at_call 113; refine (KN.out _).mono ?_; rintro e w2 ⟨rfl, hb2⟩; have HX2 := Lib.hid (HX.out.below hb2); obtain ⟨p0, p1, p2, p3⟩ := HX2.out.cells; clear hb2; have tok1 : True := trivial))
        go_ret
        exact ⟨ret_i HZZ.out.symm, HX2.out.bel⟩
      · rw [he, if_pos (by decide)] at hz2
        have kn : ∀ W, Calls Tryz.prog 113 #[.string (S p)] W fun e W' => e = .returned (.bool true) ∧ Below W.heap.size W W' := fun W => (ref_Name (S p) W (by rw [S_size]; exact hpl)).mono fun e W' h => by rw [S_data, hnm] at h; exact ⟨h.1, h.2 ▸ Below.refl _ _⟩
        have KN := Lib.hid kn
        have HZZ := Lib.hid hz2
        rw [hin] at hbf
        clear kn hz2 he hnm hin hv hpl
        go_wp2_with (first
          | (clear tok0; go_at_call 113; refine (KN.out _).mono ?_; rintro e w2 ⟨rfl, hb2⟩; have HX2 := Lib.hid (HX.out.below hb2); obtain ⟨p0, p1, p2, p3⟩ := HX2.out.cells; clear hb2; have tok1 : True := trivial)
          | (clear tok1; go_at_call 114; refine (KB.out _ HX2.out.bel).mono ?_; rintro e w3 ⟨rfl, hb3⟩; have HX3 := Lib.hid (HX2.out.below hb3); obtain ⟨q0, q1, q2, q3⟩ := HX3.out.cells; clear hb3; have tok2 : True := trivial))
        go_ret
        exact ⟨ret_i HZZ.out.symm, HX3.out.bel⟩
      · rw [he] at hz2
        have kn : ∀ W, Calls Tryz.prog 113 #[.string (S p)] W fun e W' => e = .returned (.bool true) ∧ Below W.heap.size W W' := fun W => (ref_Name (S p) W (by rw [S_size]; exact hpl)).mono fun e W' h => by rw [S_data, hnm] at h; exact ⟨h.1, h.2 ▸ Below.refl _ _⟩
        have KN := Lib.hid kn
        rw [hin] at hbf
        by_cases hu0 : u = 0
        · rw [if_neg (by simp [hu0])] at hz2
          have eu : (u != 0) = false := by simp [hu0]
          have HZZ := Lib.hid hz2
          clear kn hz2 he hnm hin hu0 hv hpl
          go_wp2_with (first
          | (clear tok0; go_at_call 113; refine (KN.out _).mono ?_; rintro e w2 ⟨rfl, hb2⟩; have HX2 := Lib.hid (HX.out.below hb2); obtain ⟨p0, p1, p2, p3⟩ := HX2.out.cells; clear hb2; have tok1 : True := trivial)
          | (clear tok1; go_at_call 114; refine (KB.out _ HX2.out.bel).mono ?_; rintro e w3 ⟨rfl, hb3⟩; have HX3 := Lib.hid (HX2.out.below hb3); obtain ⟨q0, q1, q2, q3⟩ := HX3.out.cells; clear hb3; have tok2 : True := trivial)
          | (clear tok2; go_at_call 115; refine (KD.out _ HX3.out.bel).mono ?_; rintro e w4 ⟨rfl, hb4⟩; have HX4 := Lib.hid (HX3.out.below hb4); clear hb4; have tok3 : True := trivial))
          go_roundw
          case rel => exact ⟨k + 1, by omega, by go_num, Lib.hid ⟨HX4.out.bel, HX4.out.box⟩, HZZ⟩
          case measure => simp [intOf]; omega
        · rw [if_pos hu0] at hz2
          have eu : (u != 0) = true := by simp [hu0]
          have HZZ := Lib.hid hz2
          clear kn hz2 he hnm hin hu0 hv hpl
          go_wp2_with (first
          | (clear tok0; go_at_call 113; refine (KN.out _).mono ?_; rintro e w2 ⟨rfl, hb2⟩; have HX2 := Lib.hid (HX.out.below hb2); obtain ⟨p0, p1, p2, p3⟩ := HX2.out.cells; clear hb2; have tok1 : True := trivial)
          | (clear tok1; go_at_call 114; refine (KB.out _ HX2.out.bel).mono ?_; rintro e w3 ⟨rfl, hb3⟩; have HX3 := Lib.hid (HX2.out.below hb3); obtain ⟨q0, q1, q2, q3⟩ := HX3.out.cells; clear hb3; have tok2 : True := trivial)
          | (clear tok2; go_at_call 115; refine (KD.out _ HX3.out.bel).mono ?_; rintro e w4 ⟨rfl, hb4⟩; have HX4 := Lib.hid (HX3.out.below hb4); clear hb4; have tok3 : True := trivial))
          go_ret
          exact ⟨ret_i HZZ.out.symm, HX4.out.bel⟩
    · obtain rfl : k = m.bats.length := by omega
      have hz2 := hzz.out
      rw [restM_end] at hz2
      have HZ1 := Lib.hid hz2
      have HW1 := HW
      clear hzz hz2 HW HZ0
      obtain ⟨wo, rfl⟩ : ∃ wo : World, wo = wr := ⟨_, rfl⟩
      go_wp2
      go_loopw [56] (fun i wr => ∃ k : Nat, k ≤ m.bows.length ∧ i = .int .i64 k ∧ Hid (Below w.heap.size w wr ∧ Blk wr w.heap.size 25 #[.slice A m.bats.length c, .slice A' m.bows.length c']) ∧ Hid (z = restW m k)) (fun i _ => m.bows.length - (intOf i).toNat)
      case atStart => exact ⟨0, Nat.zero_le _, rfl, HW1, HZ1⟩
      case round =>
        clear HW1 HZ1 r0 r1
        obtain ⟨k, hk, rfl, HW, hzz⟩ := hrel
        obtain ⟨r0, r1, _, _⟩ := HW.out.2.duo
        by_cases hlt : k < m.bows.length
        · obtain ⟨b0, o, rfl, hbl, yy0, yy1, hpl⟩ := bow_at HM.out.bow hlt
          have y0 := (HW.out.1.cell (p := ⟨b0, o + k * 2, none⟩) hbl).trans yy0
          have y1 := (HW.out.1.cell (p := ⟨b0, o + k * 2 + 1, none⟩) hbl).trans yy1
          have hz2 := hzz.out
          rw [restW_at hlt] at hz2
          have hbf := bowI_before hlt
          have hw := bow_ways ((m.bows.take k).map (·.name)) m.bows[k]
          obtain ⟨⟨p, d⟩, hp⟩ : ∃ b, b = m.bows[k] := ⟨_, rfl⟩
          rw [← hp] at y0 y1 hpl hz2 hbf hw
          dsimp only at y0 y1 hpl hbf hw
          generalize (m.bows.take k).map (·.name) = pre at hz2 hbf hw
          have hx := TwoM.new HW.out.1 HW.out.2 62 (.string (S p)) (.int .i64 d)
          obtain ⟨x0, x1, x2, x3⟩ := hx.cells
          have HX := Lib.hid hx
          clear hzz hp yy0 yy1 hx
          have tok0 : True := trivial
          have kb : ∀ W, Below w.heap.size w W → Calls Tryz.prog 116 #[.agg #[.slice A m.bats.length c, .slice (some ⟨b0, o, none⟩) m.bows.length c'], .string (S p)] W fun e W' => e = .returned (.int .i64 (bowI m.bows p)) ∧ Below W.heap.size W W' := fun W hW => r_Bowler m _ _ p W (HM.out.below hW)
          obtain ⟨i, hi⟩ : ∃ i, i = bowI m.bows p := ⟨_, rfl⟩
          rw [← hi] at kb hbf
          have KB := Lib.hid kb
          clear kb hi
          rcases hw with ⟨hnm, he⟩ | ⟨hnm, hin, he⟩ | ⟨hnm, hin, hs, he⟩ | ⟨hnm, hin, hs, hs2, he⟩ | ⟨hnm, hin, hs, hs2, he⟩
          · rw [he, if_pos (by decide)] at hz2
            have kn : ∀ W, Calls Tryz.prog 113 #[.string (S p)] W fun e W' => e = .returned (.bool false) ∧ Below W.heap.size W W' := fun W => (ref_Name (S p) W (by rw [S_size]; exact hpl)).mono fun e W' h => by rw [S_data, hnm] at h; exact ⟨h.1, h.2 ▸ Below.refl _ _⟩
            have KN := Lib.hid kn
            have HZZ := Lib.hid hz2
            clear kn hz2 he hnm hbf hpl
            go_wp2_with (first
          | (clear tok0; go_at_call 113; refine (KN.out _).mono ?_; rintro e w2 ⟨rfl, hb2⟩; have HX2 := Lib.hid (HX.out.below hb2); obtain ⟨p0, p1, p2, p3⟩ := HX2.out.cells; clear hb2; have tok1 : True := trivial))
            go_ret
            exact ⟨ret_i HZZ.out.symm, HX2.out.bel⟩
          · rw [he, if_pos (by decide)] at hz2
            have kn : ∀ W, Calls Tryz.prog 113 #[.string (S p)] W fun e W' => e = .returned (.bool true) ∧ Below W.heap.size W W' := fun W => (ref_Name (S p) W (by rw [S_size]; exact hpl)).mono fun e W' h => by rw [S_data, hnm] at h; exact ⟨h.1, h.2 ▸ Below.refl _ _⟩
            have KN := Lib.hid kn
            have HZZ := Lib.hid hz2
            rw [hin] at hbf
            clear kn hz2 he hnm hin hpl
            go_wp2_with (first
          | (clear tok0; go_at_call 113; refine (KN.out _).mono ?_; rintro e w2 ⟨rfl, hb2⟩; have HX2 := Lib.hid (HX.out.below hb2); obtain ⟨p0, p1, p2, p3⟩ := HX2.out.cells; clear hb2; have tok1 : True := trivial)
          | (clear tok1; go_at_call 116; refine (KB.out _ HX2.out.bel).mono ?_; rintro e w3 ⟨rfl, hb3⟩; have HX3 := Lib.hid (HX2.out.below hb3); obtain ⟨q0, q1, q2, q3⟩ := HX3.out.cells; clear hb3; have tok2 : True := trivial))
            go_ret
            exact ⟨ret_i HZZ.out.symm, HX3.out.bel⟩
          · rw [he, if_pos (by decide)] at hz2
            have kn : ∀ W, Calls Tryz.prog 113 #[.string (S p)] W fun e W' => e = .returned (.bool true) ∧ Below W.heap.size W W' := fun W => (ref_Name (S p) W (by rw [S_size]; exact hpl)).mono fun e W' h => by rw [S_data, hnm] at h; exact ⟨h.1, h.2 ▸ Below.refl _ _⟩
            have KN := Lib.hid kn
            have HZZ := Lib.hid hz2
            rw [hin] at hbf
            clear kn hz2 he hnm hin hpl
            go_wp2_with (first
          | (clear tok0; go_at_call 113; refine (KN.out _).mono ?_; rintro e w2 ⟨rfl, hb2⟩; have HX2 := Lib.hid (HX.out.below hb2); obtain ⟨p0, p1, p2, p3⟩ := HX2.out.cells; clear hb2; have tok1 : True := trivial)
          | (clear tok1; go_at_call 116; refine (KB.out _ HX2.out.bel).mono ?_; rintro e w3 ⟨rfl, hb3⟩; have HX3 := Lib.hid (HX2.out.below hb3); obtain ⟨q0, q1, q2, q3⟩ := HX3.out.cells; clear hb3; have tok2 : True := trivial))
            go_ret
            exact ⟨ret_i HZZ.out.symm, HX3.out.bel⟩
          · rw [he, if_pos (by decide)] at hz2
            have kn : ∀ W, Calls Tryz.prog 113 #[.string (S p)] W fun e W' => e = .returned (.bool true) ∧ Below W.heap.size W W' := fun W => (ref_Name (S p) W (by rw [S_size]; exact hpl)).mono fun e W' h => by rw [S_data, hnm] at h; exact ⟨h.1, h.2 ▸ Below.refl _ _⟩
            have KN := Lib.hid kn
            have HZZ := Lib.hid hz2
            rw [hin] at hbf
            clear kn hz2 he hnm hin hpl
            go_wp2_with (first
          | (clear tok0; go_at_call 113; refine (KN.out _).mono ?_; rintro e w2 ⟨rfl, hb2⟩; have HX2 := Lib.hid (HX.out.below hb2); obtain ⟨p0, p1, p2, p3⟩ := HX2.out.cells; clear hb2; have tok1 : True := trivial)
          | (clear tok1; go_at_call 116; refine (KB.out _ HX2.out.bel).mono ?_; rintro e w3 ⟨rfl, hb3⟩; have HX3 := Lib.hid (HX2.out.below hb3); obtain ⟨q0, q1, q2, q3⟩ := HX3.out.cells; clear hb3; have tok2 : True := trivial))
            go_ret
            exact ⟨ret_i HZZ.out.symm, HX3.out.bel⟩
          · rw [he, if_neg (by decide)] at hz2
            have kn : ∀ W, Calls Tryz.prog 113 #[.string (S p)] W fun e W' => e = .returned (.bool true) ∧ Below W.heap.size W W' := fun W => (ref_Name (S p) W (by rw [S_size]; exact hpl)).mono fun e W' h => by rw [S_data, hnm] at h; exact ⟨h.1, h.2 ▸ Below.refl _ _⟩
            have KN := Lib.hid kn
            have HZZ := Lib.hid hz2
            rw [hin] at hbf
            clear kn hz2 he hnm hin hpl
            go_wp2_with (first
          | (clear tok0; go_at_call 113; refine (KN.out _).mono ?_; rintro e w2 ⟨rfl, hb2⟩; have HX2 := Lib.hid (HX.out.below hb2); obtain ⟨p0, p1, p2, p3⟩ := HX2.out.cells; clear hb2; have tok1 : True := trivial)
          | (clear tok1; go_at_call 116; refine (KB.out _ HX2.out.bel).mono ?_; rintro e w3 ⟨rfl, hb3⟩; have HX3 := Lib.hid (HX2.out.below hb3); obtain ⟨q0, q1, q2, q3⟩ := HX3.out.cells; clear hb3; have tok2 : True := trivial))
            go_roundw
            case rel => exact ⟨k + 1, by omega, by go_num, Lib.hid ⟨HX3.out.bel, HX3.out.box⟩, HZZ⟩
            case measure => simp [intOf]; omega
        · obtain rfl : k = m.bows.length := by omega
          have hz2 := hzz.out
          rw [restW_end] at hz2
          have HZ2 := Lib.hid hz2
          clear hzz hz2
          go_wp2
          go_ret
          exact ⟨ret_i HZ2.out.symm, HW.out.1⟩
end Go.Proofs.YtdlmmbfnmnglaaaGreatDoor

namespace Go.Proofs.YtdlmmbfnmnglaaaGreatDoor

structure Chs where
  mdl : Mdl
  bows : List Int
  over : Int
  done : Int
  need : Int
  ord : List Int
structure Cst where
  ball : Int
  need : Int
  str : Int
  par : Int
  nxt : Int
def plansF (n : Int) : List Int → Int
  | [] => 0
  | b :: l => if b < 0 ∨ n ≤ b then 1 else plansF n l
def ordF (n : Int) : List Int → List Int → Int
  | _, [] => 0
  | pre, b :: l => if b < 0 ∨ n ≤ b then 1 else if b ∈ pre then 7 else ordF n (pre ++ [b]) l
def rangeC (c : Chs) : Bool := decide (c.over < 4) || decide (8 < c.over) || decide (c.done < 0) || decide (c.over ≤ c.done) || decide (c.need < 1) || decide (84 < c.need)
def checkC (c : Chs) : Int :=
  if checkM c.mdl ≠ 0 then checkM c.mdl
  else if c.bows.length = 0 then 6
  else if 12 < c.bows.length then 9
  else if plansF c.mdl.bows.length c.bows ≠ 0 then plansF c.mdl.bows.length c.bows
  else if rangeC c = true then 2
  else if c.ord.length < 2 ∨ 11 < c.ord.length then 9
  else ordF c.mdl.bats.length [] c.ord
def outC (c : Chs) (s : Cst) : Bool := !(inC s.ball 0 c.bows.length) || !(inC s.need 0 c.need) || !(inC s.nxt 2 c.ord.length) || !(inC s.str (-1) (s.nxt - 1)) || !(inC s.par 0 (s.nxt - 1))
where inC (n lo hi : Int) : Bool := decide (lo ≤ n) && decide (n ≤ hi)
/-- The outcomes of the next ball of a running state. -/
def mvC (c : Chs) (s : Cst) : List Otc := match c.ord[s.str.toNat]?, c.bows[s.ball.toNat]? with
  | some i, some j => match c.mdl.bats[i.toNat]?, c.mdl.bows[j.toNat]? with
    | some b, some w => (shiftS b.dist w.shift).1
    | _, _ => []
  | _, _ => []
def swapC (c : Chs) (ball : Int) (o : Otc) : Bool := decide (o.runs % 2 = 1) != decide ((c.done + ball) % c.over = 0)
def stepC (c : Chs) (s : Cst) (o : Otc) : Cst :=
  if o.wick = true then
    if s.nxt = c.ord.length then ⟨s.ball + 1, max (s.need - o.runs) 0, -1, s.par, s.nxt⟩
    else if swapC c (s.ball + 1) o = true then ⟨s.ball + 1, max (s.need - o.runs) 0, s.par, s.nxt, s.nxt + 1⟩ else ⟨s.ball + 1, max (s.need - o.runs) 0, s.nxt, s.par, s.nxt + 1⟩
  else if swapC c (s.ball + 1) o = true then ⟨s.ball + 1, max (s.need - o.runs) 0, s.par, s.str, s.nxt⟩ else ⟨s.ball + 1, max (s.need - o.runs) 0, s.str, s.par, s.nxt⟩
def pow16 : Nat → Int
  | 0 => 1
  | n + 1 => 16 * pow16 n
/-- The value of a state with n balls to come. -/
def chF (c : Chs) : Nat → Cst → Int
  | 0, s => if s.need = 0 then 1 else 0
  | n + 1, s => if s.need = 0 then pow16 (n + 1) else if s.str < 0 then 0 else sumI ((mvC c s).map fun o => o.wt * chF c n (stepC c s o))
def leftC (c : Chs) (s : Cst) : Nat := (c.bows.length - s.ball).toNat
def valS (c : Chs) (s : Cst) : Int := chF c (leftC c s) s
theorem plansF_ok {n : Int} : ∀ {l : List Int}, plansF n l = 0 → ∀ b ∈ l, 0 ≤ b ∧ b < n
  | [], _, b, hb => by cases hb
  | a :: l, h, b, hb => by
    rw [plansF] at h
    by_cases h1 : a < 0 ∨ n ≤ a
    · rw [if_pos h1] at h; cases h
    · rw [if_neg h1] at h
      rcases List.mem_cons.1 hb with rfl | hb
      · exact ⟨by omega, by omega⟩
      · exact plansF_ok h b hb
theorem ordF_ok {n : Int} : ∀ {l pre : List Int}, ordF n pre l = 0 → ∀ b ∈ l, 0 ≤ b ∧ b < n
  | [], _, _, b, hb => by cases hb
  | a :: l, pre, h, b, hb => by
    rw [ordF] at h
    by_cases h1 : a < 0 ∨ n ≤ a
    · rw [if_pos h1] at h; cases h
    · rw [if_neg h1] at h
      by_cases h2 : a ∈ pre
      · rw [if_pos h2] at h; cases h
      · rw [if_neg h2] at h
        rcases List.mem_cons.1 hb with rfl | hb
        · exact ⟨by omega, by omega⟩
        · exact ordF_ok h b hb
structure OkC (c : Chs) : Prop where
  mdl : OkM c.mdl
  chk : checkM c.mdl = 0
  nb : 1 ≤ c.bows.length ∧ c.bows.length ≤ 12
  bow : ∀ b ∈ c.bows, 0 ≤ b ∧ b < c.mdl.bows.length
  over : 4 ≤ c.over ∧ c.over ≤ 8
  done : 0 ≤ c.done ∧ c.done < c.over
  need : 1 ≤ c.need ∧ c.need ≤ 84
  no : 2 ≤ c.ord.length ∧ c.ord.length ≤ 11
  ord : ∀ b ∈ c.ord, 0 ≤ b ∧ b < c.mdl.bats.length
theorem checkC_ok {c : Chs} (h : checkC c = 0) : OkC c := by
  unfold checkC at h
  by_cases h1 : checkM c.mdl ≠ 0
  · rw [if_pos h1] at h; exact absurd h h1
  rw [if_neg h1] at h
  by_cases h2 : c.bows.length = 0
  · rw [if_pos h2] at h; cases h
  rw [if_neg h2] at h
  by_cases h3 : 12 < c.bows.length
  · rw [if_pos h3] at h; cases h
  rw [if_neg h3] at h
  by_cases h4 : plansF c.mdl.bows.length c.bows ≠ 0
  · rw [if_pos h4] at h; exact absurd h h4
  rw [if_neg h4] at h
  by_cases h5 : rangeC c = true
  · rw [if_pos h5] at h; cases h
  rw [if_neg h5] at h
  by_cases h6 : c.ord.length < 2 ∨ 11 < c.ord.length
  · rw [if_pos h6] at h; cases h
  rw [if_neg h6] at h
  unfold rangeC at h5
  simp only [Bool.or_eq_true, decide_eq_true_eq, not_or] at h5
  have h1' : checkM c.mdl = 0 := by omega
  exact ⟨checkM_ok h1', h1', by omega, plansF_ok (by omega), by omega, by omega, by omega, by omega, ordF_ok h⟩
structure OkS (c : Chs) (s : Cst) : Prop where
  ball : 0 ≤ s.ball ∧ s.ball ≤ c.bows.length
  need : 0 ≤ s.need ∧ s.need ≤ c.need
  nxt : 2 ≤ s.nxt ∧ s.nxt ≤ c.ord.length
  str : -1 ≤ s.str ∧ s.str < s.nxt
  par : 0 ≤ s.par ∧ s.par < s.nxt
  ne : s.str ≠ s.par
  last : s.str = -1 → s.nxt = c.ord.length
theorem sumI_le {α : Type} {f g : α → Int} : ∀ {l : List α}, (∀ x ∈ l, f x ≤ g x) → sumI (l.map f) ≤ sumI (l.map g)
  | [], _ => Int.le_refl _
  | x :: l, h => by
    have h1 := h x (by simp)
    have h2 := sumI_le (l := l) fun y hy => h y (by simp [hy])
    rw [List.map_cons, List.map_cons, sumI_cons, sumI_cons]; omega
theorem sumI_mul {α : Type} (f : α → Int) (k : Int) : ∀ l : List α, sumI (l.map fun x => f x * k) = sumI (l.map f) * k
  | [] => by rw [List.map_nil, List.map_nil, sumI_nil, Int.zero_mul]
  | x :: l => by rw [List.map_cons, List.map_cons, sumI_cons, sumI_cons, sumI_mul f k l, Int.add_mul]
theorem pow16_pos : ∀ n, 1 ≤ pow16 n
  | 0 => Int.le_refl _
  | n + 1 => by have := pow16_pos n; rw [pow16]; omega
theorem pow16_unit : ∀ n, pow16 n = unitV n
  | 0 => rfl
  | n + 1 => by rw [pow16, pow16_unit n, unitV_add, unitV_one, Int.mul_comm]
end Go.Proofs.YtdlmmbfnmnglaaaGreatDoor

namespace Go.Proofs.YtdlmmbfnmnglaaaGreatDoor

/-- What is left of a check: behind the model and the number of balls; behind the bowlers; the order from k on. -/
def tailC (c : Chs) : Int := if rangeC c = true then 2 else if c.ord.length < 2 ∨ 11 < c.ord.length then 9 else ordF c.mdl.bats.length [] c.ord
def restP (c : Chs) (k : Nat) : Int := if plansF c.mdl.bows.length (c.bows.drop k) ≠ 0 then plansF c.mdl.bows.length (c.bows.drop k) else tailC c
def restO (c : Chs) (k : Nat) : Int := ordF c.mdl.bats.length (c.ord.take k) (c.ord.drop k)
theorem checkC_rest {c : Chs} (h1 : checkM c.mdl = 0) (h2 : c.bows.length ≠ 0) (h3 : ¬ 12 < c.bows.length) : checkC c = restP c 0 := by
  unfold checkC restP tailC
  rw [if_neg (by omega), if_neg h2, if_neg h3]; rfl
theorem restP_at {c : Chs} {k : Nat} (hk : k < c.bows.length) : restP c k = if c.bows[k] < 0 ∨ (c.mdl.bows.length : Int) ≤ c.bows[k] then 1 else restP c (k + 1) := by
  unfold restP
  rw [List.drop_eq_getElem_cons hk, plansF]
  by_cases h : c.bows[k] < 0 ∨ (c.mdl.bows.length : Int) ≤ c.bows[k]
  · rw [if_pos h, if_pos h]; rfl
  · rw [if_neg h, if_neg h]
theorem restP_end {c : Chs} : restP c c.bows.length = tailC c := by
  unfold restP
  rw [List.drop_of_length_le (Nat.le_refl _), plansF, if_neg (by simp)]
theorem tailC_rest {c : Chs} (h1 : rangeC c = false) (h2 : ¬ (c.ord.length < 2 ∨ 11 < c.ord.length)) : tailC c = restO c 0 := by
  unfold tailC restO
  rw [if_neg (by simp [h1]), if_neg h2]; simp
theorem restO_at {c : Chs} {k : Nat} (hk : k < c.ord.length) : restO c k = if c.ord[k] < 0 ∨ (c.mdl.bats.length : Int) ≤ c.ord[k] then 1 else if c.ord[k] ∈ c.ord.take k then 7 else restO c (k + 1) := by
  unfold restO
  rw [List.drop_eq_getElem_cons hk, ordF, show c.ord.take (k + 1) = c.ord.take k ++ [c.ord[k]] by rw [List.take_add_one, List.getElem?_eq_getElem hk]; rfl]
theorem restO_end {c : Chs} : restO c c.ord.length = 0 := by
  unfold restO
  rw [List.drop_of_length_le (Nat.le_refl _), ordF]
/-- The ways through the ranges of a chase. -/
theorem rangeC_ways (c : Chs) : (rangeC c = true ∧ (c.over < 4 ∨ (¬ c.over < 4 ∧ 8 < c.over) ∨ (¬ c.over < 4 ∧ ¬ 8 < c.over ∧ c.done < 0) ∨ (¬ c.over < 4 ∧ ¬ 8 < c.over ∧ ¬ c.done < 0 ∧ c.over ≤ c.done) ∨ (¬ c.over < 4 ∧ ¬ 8 < c.over ∧ ¬ c.done < 0 ∧ ¬ c.over ≤ c.done ∧ c.need < 1) ∨ (¬ c.over < 4 ∧ ¬ 8 < c.over ∧ ¬ c.done < 0 ∧ ¬ c.over ≤ c.done ∧ ¬ c.need < 1 ∧ 84 < c.need))) ∨
    (rangeC c = false ∧ ¬ c.over < 4 ∧ ¬ 8 < c.over ∧ ¬ c.done < 0 ∧ ¬ c.over ≤ c.done ∧ ¬ c.need < 1 ∧ ¬ 84 < c.need) := by
  unfold rangeC
  by_cases h1 : c.over < 4
  · exact .inl ⟨by simp [h1], .inl h1⟩
  by_cases h2 : 8 < c.over
  · exact .inl ⟨by simp [h2], .inr (.inl ⟨h1, h2⟩)⟩
  by_cases h3 : c.done < 0
  · exact .inl ⟨by simp [h3], .inr (.inr (.inl ⟨h1, h2, h3⟩))⟩
  by_cases h4 : c.over ≤ c.done
  · exact .inl ⟨by simp [h4], .inr (.inr (.inr (.inl ⟨h1, h2, h3, h4⟩)))⟩
  by_cases h5 : c.need < 1
  · exact .inl ⟨by simp [h5], .inr (.inr (.inr (.inr (.inl ⟨h1, h2, h3, h4, h5⟩))))⟩
  by_cases h6 : 84 < c.need
  · exact .inl ⟨by simp [h6], .inr (.inr (.inr (.inr (.inr ⟨h1, h2, h3, h4, h5, h6⟩))))⟩
  exact .inr ⟨by simp [h1, h2, h3, h4, h5, h6], h1, h2, h3, h4, h5, h6⟩
theorem pow16_le {n : Nat} (h : n ≤ 12) : 1 ≤ pow16 n ∧ pow16 n ≤ 281474976710656 := by rw [pow16_unit]; exact unitV_le h
/-- Sums of the first k products. -/
theorem sum_take {α : Type} (f : α → Int) {l : List α} {k : Nat} (hk : k < l.length) : sumI ((l.take (k + 1)).map f) = sumI ((l.take k).map f) + f l[k] := by
  rw [List.take_add_one, List.getElem?_eq_getElem hk, List.map_append, sumI_app]
  show _ = _
  simp [sumI_cons, sumI_nil]
end Go.Proofs.YtdlmmbfnmnglaaaGreatDoor

namespace Go.Proofs.YtdlmmbfnmnglaaaGreatDoor
open Go.RowKit

/-- A chase that lies: its four slices. -/
structure ChAt (w : World) (F : Nat → Prop) (bv wv pv ov : Value) (c : Chs) : Prop where
  mdl : MdlAt w F bv wv c.mdl
  bow : Sl 1 elInt w F pv c.bows
  ord : Sl 1 elInt w F ov c.ord
def chC (c : Chs) (bv wv pv ov : Value) : Array Value := #[bv, wv, pv, .int .i64 c.over, .int .i64 c.done, .int .i64 c.need, ov]
def chV (c : Chs) (bv wv pv ov : Value) : Value := .agg #[bv, wv, pv, .int .i64 c.over, .int .i64 c.done, .int .i64 c.need, ov]
def stV (s : Cst) : Value := .agg #[.int .i64 s.ball, .int .i64 s.need, .int .i64 s.str, .int .i64 s.par, .int .i64 s.nxt]
theorem ChAt.keep {w w' : World} {F G : Nat → Prop} {bv wv pv ov : Value} {c : Chs} (h : ChAt w F bv wv pv ov c) (hs : Same F w w') (hG : ∀ b, F b → G b) : ChAt w' G bv wv pv ov c := ⟨h.mdl.keep hs hG, h.bow.keep elInt_good hs hG, h.ord.keep elInt_good hs hG⟩
theorem ChAt.below {w w' : World} {bv wv pv ov : Value} {c : Chs} (h : ChAt w (· < w.heap.size) bv wv pv ov c) (hb : Below w.heap.size w w') : ChAt w' (· < w'.heap.size) bv wv pv ov c :=
  h.keep (Same.of_below hb) fun b h => Nat.lt_of_lt_of_le h hb.size
/-- A chase boxed in block g. -/
structure ChB (w W : World) (g : Nat) (c : Chs) (bv wv pv ov : Value) : Prop where
  bel : Below w.heap.size w W
  box : Blk W g 28 #[bv, wv, pv, .int .i64 c.over, .int .i64 c.done, .int .i64 c.need, ov]
theorem ChB.below {w W W' : World} {g : Nat} {c : Chs} {bv wv pv ov : Value} (h : ChB w W g c bv wv pv ov) (hb : Below W.heap.size W W') : ChB w W' g c bv wv pv ov := ⟨h.bel.trans (hb.mono h.bel.size), h.box.below hb h.box.lt⟩
theorem ChB.drew {w W : World} {g : Nat} {c : Chs} {bv wv pv ov : Value} (h : ChB w W g c bv wv pv ov) : ChB w W.drew g c bv wv pv ov := ⟨Below.drew h.bel, h.box.drew⟩
theorem ChB.alloc {w W : World} {g : Nat} {c : Chs} {bv wv pv ov : Value} (h : ChB w W g c bv wv pv ov) (o : Obj) : ChB w (W.alloc o) g c bv wv pv ov := ⟨h.bel.alloc h.bel.size _, h.box.alloc _⟩
theorem ChB.cells {w W : World} {g : Nat} {c : Chs} {bv wv pv ov : Value} (h : ChB w W g c bv wv pv ov) : W.cell? ⟨g, 0, none⟩ = some bv ∧ W.cell? ⟨g, 1, none⟩ = some wv ∧ W.cell? ⟨g, 2, none⟩ = some pv ∧ W.cell? ⟨g, 3, none⟩ = some (.int .i64 c.over) ∧ W.cell? ⟨g, 4, none⟩ = some (.int .i64 c.done) ∧ W.cell? ⟨g, 5, none⟩ = some (.int .i64 c.need) ∧ W.cell? ⟨g, 6, none⟩ = some ov :=
  ⟨h.box.cell 0, h.box.cell 1, h.box.cell 2, h.box.cell 3, h.box.cell 4, h.box.cell 5, h.box.cell 6⟩
theorem ChB.new (w : World) (c : Chs) (bv wv pv ov : Value) : ChB w (w.alloc (.cells #[bv, wv, pv, .int .i64 c.over, .int .i64 c.done, .int .i64 c.need, ov] 28)) w.heap.size c bv wv pv ov := ⟨Below.alloc (Below.refl _ _) (Nat.le_refl _) _, Blk.new _ _ _⟩
/-- The place of a number in a list, -1 where it is not. -/
def idxI (x : Int) : List Int → Nat → Int
  | [], _ => -1
  | a :: l, k => if a = x then (k : Int) else idxI x l (k + 1)
theorem idxI_mem (x : Int) : ∀ (l : List Int) (k : Nat), -1 ≤ idxI x l k ∧ (decide (0 ≤ idxI x l k) = decide (x ∈ l))
  | [], k => ⟨by simp [idxI], by simp [idxI]⟩
  | a :: l, k => by
    rw [idxI]
    by_cases h : a = x
    · rw [if_pos h]; exact ⟨by omega, by simp [h]⟩
    · rw [if_neg h]
      have := idxI_mem x l (k + 1)
      refine ⟨this.1, ?_⟩
      rw [this.2]
      have hx : (x ∈ a :: l) = (x ∈ l) := by rw [List.mem_cons]; exact propext ⟨fun k => k.elim (fun e => absurd e.symm h) id, .inr⟩
      simp only [hx]
set_option maxRecDepth 100000 in
set_option maxHeartbeats 2000000 in
theorem int_Index (l : List Int) (v : Value) (x : Int) (F : Nat → Prop) (w : World) (h : Sl 1 elInt w F v l) (hF : ∀ b, F b → b < w.heap.size) :
    Calls Tryz.prog 143 #[v, .int .i64 x] w fun e w' => e = .returned (.int .i64 (idxI x l 0)) ∧ Below w.heap.size w w' := by
  obtain ⟨z, hz⟩ : ∃ z, z = idxI x l 0 := ⟨_, rfl⟩
  rw [← hz]
  obtain ⟨A, c, rfl, hc, hc2⟩ := h.shape
  have HZ : Hid (z = idxI x (l.drop 0) 0) := hz
  have HL := Lib.hid h
  have HB := Lib.hid (Below.refl w.heap.size w)
  have HF := Lib.hid hF
  clear hz h hF
  go_enter Tryz.func143, Tryz.ntmps143
  go_wp2
  go_loopw [8] (fun i wr => ∃ k : Nat, k ≤ l.length ∧ i = .int .i64 k ∧ Below w.heap.size w wr ∧ Hid (z = idxI x (l.drop k) k)) (fun i _ => l.length - (intOf i).toNat)
  case atStart => exact ⟨0, Nat.zero_le _, rfl, HB.out, HZ⟩
  case round =>
    obtain ⟨k, hk, rfl, hb, hzz⟩ := hrel
    have HBB := Lib.hid hb
    by_cases hlt : k < l.length
    · obtain ⟨b0, o, rfl, hbl, yy0⟩ := int_at HL.out hlt
      have y0 := (hb.cell (p := ⟨b0, o + k, none⟩) (HF.out _ hbl)).trans yy0
      have hz2 := hzz.out
      rw [drop_get hlt, idxI] at hz2
      obtain ⟨p, hp⟩ : ∃ p, p = l[k] := ⟨_, rfl⟩
      rw [← hp] at hz2 y0
      clear hb hzz hp yy0
      by_cases hin : p = x
      · rw [if_pos hin] at hz2
        have e1 : (x == p) = true := beq_iff_eq.2 hin.symm
        have e2 : (p == x) = true := beq_iff_eq.2 hin
        have HZZ := Lib.hid hz2
        clear hz2 hin
        go_wp2
        go_ret
        exact ⟨ret_i HZZ.out.symm, HBB.out⟩
      · rw [if_neg hin] at hz2
        have e1 : (x == p) = false := beq_eq_false_iff_ne.2 (fun e => hin e.symm)
        have e2 : (p == x) = false := beq_eq_false_iff_ne.2 hin
        have HZZ := Lib.hid hz2
        clear hz2 hin
        go_wp2
        go_roundw
        case rel => exact ⟨k + 1, by omega, by go_num, HBB.out, HZZ⟩
        case measure => simp [intOf]; omega
    · obtain rfl : k = l.length := by omega
      have hz2 := hzz.out
      rw [List.drop_of_length_le (Nat.le_refl _), idxI] at hz2
      have HZZ := Lib.hid hz2
      clear hb hzz hz2
      go_wp2
      go_ret
      exact ⟨ret_i HZZ.out.symm, HBB.out⟩
set_option maxRecDepth 100000 in
theorem int_Contains (l : List Int) (v : Value) (x : Int) (F : Nat → Prop) (w : World) (h : Sl 1 elInt w F v l) (hF : ∀ b, F b → b < w.heap.size) :
    Calls Tryz.prog 109 #[v, .int .i64 x] w fun e w' => e = .returned (.bool (decide (x ∈ l))) ∧ Below w.heap.size w w' := by
  have hk := int_Index l v x F w h hF
  have hm := idxI_mem x l 0
  obtain ⟨i, hi⟩ : ∃ i, i = idxI x l 0 := ⟨_, rfl⟩
  rw [← hi] at hk hm
  have HM := Lib.hid hm.2
  have HK := Lib.hid hk
  obtain ⟨A, c, rfl, hc, hc2⟩ := h.shape
  clear hk hm hi h hF
  go_enter Tryz.func109, Tryz.ntmps109
  go_wp2_with (go_at_call 143; refine HK.out.mono ?_; rintro e w2 ⟨rfl, hb2⟩)
  go_ret
  exact ⟨ret_b HM.out, hb2⟩
end Go.Proofs.YtdlmmbfnmnglaaaGreatDoor

namespace Go.Proofs.YtdlmmbfnmnglaaaGreatDoor
open Go.ChangeShapes Go.WideShapes Go.ChangeAt Go.RowKit

theorem cellsIs : Tryz.prog.cellsOf 26 = 1 := by kernel_rfl
section
variable {H : Type} {enc : TypeId × Value → H} {W : World}
set_option maxRecDepth 100000 in
theorem int_one8 {F : Nat → Prop} {fuel : Nat} {held : Bool} {cs : List Value} {x : DataW H × List MemPlace} (h : DataW.trod enc Tryz.prog W 0 (fun _ => true) held fuel 3 cs = some x) :
    ∃ f : Int, elInt W F cs f := by
  obtain ⟨a, e, _, _⟩ := DataW.trod_int Tryz.underlying3 h
  exact ⟨a, e⟩
set_option maxRecDepth 100000 in
theorem mdl_raw {fuel : Nat} {held : Bool} {cs : List Value} {x : DataW H × List MemPlace} (h : DataW.trod enc Tryz.prog W 0 (fun _ => true) held fuel 25 cs = some x) :
    ∃ (m : Mdl) (bv wv : Value), cs = [bv, wv] ∧ MdlAt W (· < W.heap.size) bv wv m := by
  obtain ⟨ys, n, _, rfl, hc, hl, hf⟩ := DataW.trod_struct Tryz.underlying25 h
  rw [cellsMdl] at hc
  match cs, hc with
  | [c0, c1], _ =>
    match ys, hl with
    | [z0, z1], _ =>
      have k0 := hf 0 _ rfl
      have k1 := hf 1 _ rfl
      obtain ⟨vb, lb, e0, hb⟩ := sl_raw (size := 2) (el := elBat) Tryz.underlying22 cellsBat (by decide) (fun h => bat_one h) k0
      obtain ⟨vw, lw, e1, hw⟩ := sl_raw (size := 2) (el := elBow) Tryz.underlying23 cellsBow (by decide) (fun h => bow_one h) k1
      have g0 : c0 = vb := by simpa [Value.cells, cellsBats, cellsBows] using e0
      have g1 : c1 = vw := by simpa [Value.cells, cellsBats, cellsBows] using e1
      subst g0 g1
      exact ⟨⟨lb, lw⟩, _, _, rfl, hb, hw⟩
end
end Go.Proofs.YtdlmmbfnmnglaaaGreatDoor

namespace Go.Proofs.YtdlmmbfnmnglaaaGreatDoor
open Go.RowKit

set_option maxRecDepth 100000 in
set_option maxHeartbeats 4000000 in
theorem ch44_Check (c : Chs) (bv wv pv ov : Value) (w : World) (h : ChAt w (· < w.heap.size) bv wv pv ov c) :
    Calls Tryz.prog 60 #[chV c bv wv pv ov] w fun e w' => e = .returned (.int .i64 (checkC c)) ∧ Below w.heap.size w w' := by
  unfold chV
  obtain ⟨z, hz⟩ : ∃ z, z = checkC c := ⟨_, rfl⟩
  rw [← hz]
  obtain ⟨A, ca, rfl, hc, hc2⟩ := h.mdl.bat.shape
  obtain ⟨A1, ca1, rfl, hc1, hc12⟩ := h.mdl.bow.shape
  obtain ⟨A2, ca2, rfl, hc3, hc32⟩ := h.bow.shape
  obtain ⟨A3, ca3, rfl, hc4, hc42⟩ := h.ord.shape
  have hx := ChB.new w c (.slice A c.mdl.bats.length ca) (.slice A1 c.mdl.bows.length ca1) (.slice A2 c.bows.length ca2) (.slice A3 c.ord.length ca3)
  have km := m_Check c.mdl _ _ _ (h.mdl.below hx.bel)
  have HM := Lib.hid h
  have HX := Lib.hid hx
  have hres := fun h1 h2 h3 => hz.trans (checkC_rest (c := c) h1 h2 h3)
  have hbad : checkM c.mdl ≠ 0 → z = checkM c.mdl := fun h => by rw [hz]; unfold checkC; rw [if_pos h]
  have hno : checkM c.mdl = 0 → c.bows.length = 0 → z = 6 := fun h h2 => by rw [hz]; unfold checkC; rw [if_neg (by omega), if_pos h2]
  have hmany : checkM c.mdl = 0 → c.bows.length ≠ 0 → 12 < c.bows.length → z = 9 := fun h h2 h3 => by rw [hz]; unfold checkC; rw [if_neg (by omega), if_neg h2, if_pos h3]
  obtain ⟨u, hu⟩ : ∃ u, u = checkM c.mdl := ⟨_, rfl⟩
  rw [← hu] at km hres hbad hno hmany
  clear hz h hx hu
  by_cases h0 : u = 0
  case neg =>
    have HZ := Lib.hid (hbad h0)
    have eu : (u != 0) = true := by simp [h0]
    have KM := Lib.hid km
    clear km hres hbad hno hmany h0
    go_enter Tryz.func60, Tryz.ntmps60
    go_wp2_with (go_at_call 80; refine KM.out.mono ?_; rintro e w2 ⟨rfl, hb2⟩; have HX2 := Lib.hid (HX.out.below hb2); obtain ⟨x0, x1, x2, x3, x4, x5, x6⟩ := HX2.out.cells; clear hb2)
    go_ret
    exact ⟨ret_i HZ.out.symm, HX2.out.bel⟩
  subst h0
  have KM := Lib.hid km
  clear km hbad
  by_cases h1 : c.bows.length = 0
  · have HZ := Lib.hid (hno rfl h1)
    have e1 : ((c.bows.length : Int) == 0) = true := beq_iff_eq.2 (by omega)
    have h1' := Lib.hid h1
    clear hres hno hmany h1
    go_enter Tryz.func60, Tryz.ntmps60
    go_wp2_with (go_at_call 80; refine KM.out.mono ?_; rintro e w2 ⟨rfl, hb2⟩; have HX2 := Lib.hid (HX.out.below hb2); obtain ⟨x0, x1, x2, x3, x4, x5, x6⟩ := HX2.out.cells; clear hb2)
    go_ret
    exact ⟨ret_i HZ.out.symm, HX2.out.bel⟩
  have e1 : ((c.bows.length : Int) == 0) = false := beq_eq_false_iff_ne.2 (by omega)
  by_cases h2 : 12 < c.bows.length
  · have HZ := Lib.hid (hmany rfl h1 h2)
    have e2 : (12 : Int) < (c.bows.length : Int) := by omega
    clear hres hno hmany h1 h2
    go_enter Tryz.func60, Tryz.ntmps60
    go_wp2_with (go_at_call 80; refine KM.out.mono ?_; rintro e w2 ⟨rfl, hb2⟩; have HX2 := Lib.hid (HX.out.below hb2); obtain ⟨x0, x1, x2, x3, x4, x5, x6⟩ := HX2.out.cells; clear hb2)
    go_ret
    exact ⟨ret_i HZ.out.symm, HX2.out.bel⟩
  have HZ0 := Lib.hid (hres rfl h1 h2)
  have e2 : ¬ (12 : Int) < (c.bows.length : Int) := by omega
  clear hres hno hmany h1 h2
  go_enter Tryz.func60, Tryz.ntmps60
  go_wp2_with (go_at_call 80; refine KM.out.mono ?_; rintro e w2 ⟨rfl, hb2⟩; have HX2 := Lib.hid (HX.out.below hb2); obtain ⟨x0, x1, x2, x3, x4, x5, x6⟩ := HX2.out.cells; clear hb2)
  go_loopw [27] (fun i wr => ∃ k : Nat, k ≤ c.bows.length ∧ i = .int .i64 k ∧ Hid (ChB w wr w.heap.size c (.slice A c.mdl.bats.length ca) (.slice A1 c.mdl.bows.length ca1) (.slice A2 c.bows.length ca2) (.slice A3 c.ord.length ca3)) ∧ Hid (z = restP c k)) (fun i _ => c.bows.length - (intOf i).toNat)
  case atStart => exact ⟨0, Nat.zero_le _, rfl, HX2, HZ0⟩
  case round =>
    clear HX2 HZ0 x0 x1 x2 x3 x4 x5 x6
    obtain ⟨k, hk, rfl, HW, hzz⟩ := hrel
    obtain ⟨x0, x1, x2, x3, x4, x5, x6⟩ := HW.out.cells
    by_cases hlt : k < c.bows.length
    · obtain ⟨b0, o, rfl, hbl, yy0⟩ := int_at HM.out.bow hlt
      have y0 := (HW.out.bel.cell (p := ⟨b0, o + k, none⟩) hbl).trans yy0
      have hz2 := hzz.out
      rw [restP_at hlt] at hz2
      obtain ⟨p, hp⟩ : ∃ p, p = c.bows[k] := ⟨_, rfl⟩
      rw [← hp] at hz2 y0
      clear hzz hp yy0
      by_cases g1 : p < 0
      · rw [if_pos (.inl g1)] at hz2
        have HZZ := Lib.hid hz2
        clear hz2
        go_wp2
        go_ret
        exact ⟨ret_i HZZ.out.symm, HW.out.bel⟩
      · by_cases g2 : (c.mdl.bows.length : Int) ≤ p
        · rw [if_pos (.inr g2)] at hz2
          have HZZ := Lib.hid hz2
          clear hz2
          go_wp2
          go_ret
          exact ⟨ret_i HZZ.out.symm, HW.out.bel⟩
        · rw [if_neg (by omega)] at hz2
          have HZZ := Lib.hid hz2
          clear hz2
          go_wp2
          go_roundw
          case rel => exact ⟨k + 1, by omega, by go_num, HW, HZZ⟩
          case measure => simp [intOf]; omega
    · obtain rfl : k = c.bows.length := by omega
      have hz2 := hzz.out
      rw [restP_end] at hz2
      have ht2 : rangeC c = true → z = 2 := fun h => by rw [hz2]; unfold tailC; rw [if_pos h]
      have ht9 : rangeC c = false → (c.ord.length < 2 ∨ 11 < c.ord.length) → z = 9 := fun h h2 => by rw [hz2]; unfold tailC; rw [if_neg (by simp [h]), if_pos h2]
      have htr : rangeC c = false → ¬ (c.ord.length < 2 ∨ 11 < c.ord.length) → z = restO c 0 := fun h h2 => hz2.trans (tailC_rest h h2)
      have hw := rangeC_ways c
      obtain ⟨over, hov⟩ : ∃ x, x = c.over := ⟨_, rfl⟩
      obtain ⟨done, hdo⟩ : ∃ x, x = c.done := ⟨_, rfl⟩
      obtain ⟨need, hne⟩ : ∃ x, x = c.need := ⟨_, rfl⟩
      rw [← hov, ← hdo, ← hne] at hw
      rw [← hov] at x3
      rw [← hdo] at x4
      rw [← hne] at x5
      clear hzz hz2 hov hdo hne
      rcases hw with ⟨hr, hw⟩ | ⟨hr, g1, g2, g3, g4, g5, g6⟩
      · have HZZ := Lib.hid (ht2 hr)
        clear ht2 ht9 htr hr
        rcases hw with g1 | ⟨g1, g2⟩ | ⟨g1, g2, g3⟩ | ⟨g1, g2, g3, g4⟩ | ⟨g1, g2, g3, g4, g5⟩ | ⟨g1, g2, g3, g4, g5, g6⟩
        all_goals go_wp2
        all_goals go_ret
        all_goals exact ⟨ret_i HZZ.out.symm, HW.out.bel⟩
      by_cases g7 : c.ord.length < 2
      · have HZZ := Lib.hid (ht9 hr (.inl g7))
        have g7' : (c.ord.length : Int) < 2 := by omega
        clear ht2 ht9 htr hr g7
        go_wp2
        go_ret
        exact ⟨ret_i HZZ.out.symm, HW.out.bel⟩
      by_cases g8 : 11 < c.ord.length
      · have HZZ := Lib.hid (ht9 hr (.inr g8))
        have g7' : ¬ (c.ord.length : Int) < 2 := by omega
        have g8' : (11 : Int) < (c.ord.length : Int) := by omega
        clear ht2 ht9 htr hr g7 g8
        go_wp2
        go_ret
        exact ⟨ret_i HZZ.out.symm, HW.out.bel⟩
      have HZ1 := Lib.hid (htr hr (by omega))
      have g7' : ¬ (c.ord.length : Int) < 2 := by omega
      have g8' : ¬ (11 : Int) < (c.ord.length : Int) := by omega
      have HW1 := HW
      clear ht2 ht9 htr hr g7 g8
      obtain ⟨wo, rfl⟩ : ∃ wo : World, wo = wr := ⟨_, rfl⟩
      go_wp2
      go_loopw [87] (fun i wr => ∃ k : Nat, k ≤ c.ord.length ∧ i = .int .i64 k ∧ Hid (ChB w wr w.heap.size c (.slice A c.mdl.bats.length ca) (.slice A1 c.mdl.bows.length ca1) (.slice A2 c.bows.length ca2) (.slice A3 c.ord.length ca3)) ∧ Hid (z = restO c k)) (fun i _ => c.ord.length - (intOf i).toNat)
      case atStart => exact ⟨0, Nat.zero_le _, rfl, HW1, HZ1⟩
      case round =>
        clear HW1 HZ1 HW x0 x1 x2 x3 x4 x5 x6
        obtain ⟨k, hk, rfl, HW, hzz⟩ := hrel
        obtain ⟨x0, x1, x2, x3, x4, x5, x6⟩ := HW.out.cells
        by_cases hlt : k < c.ord.length
        · obtain ⟨b0, o, rfl, hbl, yy0⟩ := int_at HM.out.ord hlt
          have y0 := (HW.out.bel.cell (p := ⟨b0, o + k, none⟩) hbl).trans yy0
          have hz2 := hzz.out
          rw [restO_at hlt] at hz2
          obtain ⟨p, hp⟩ : ∃ p, p = c.ord[k] := ⟨_, rfl⟩
          rw [← hp] at hz2 y0
          clear hzz hp yy0
          by_cases q1 : p < 0
          · rw [if_pos (.inl q1)] at hz2
            have HZZ := Lib.hid hz2
            clear hz2
            go_wp2
            go_ret
            exact ⟨ret_i HZZ.out.symm, HW.out.bel⟩
          by_cases q2 : (c.mdl.bats.length : Int) ≤ p
          · rw [if_pos (.inr q2)] at hz2
            have HZZ := Lib.hid hz2
            clear hz2
            go_wp2
            go_ret
            exact ⟨ret_i HZZ.out.symm, HW.out.bel⟩
          rw [if_neg (by omega)] at hz2
          have kc : ∀ W, Below w.heap.size w W → Calls Tryz.prog 109 #[.slice (some ⟨b0, o, none⟩) k ca3, .int .i64 p] W fun e W' => e = .returned (.bool (decide (p ∈ c.ord.take k))) ∧ Below W.heap.size W W' := fun W hW => by
            have ht := ((HM.out.below hW).ord.take (k := k) (by omega))
            have hl : (c.ord.take k).length = k := by rw [List.length_take]; omega
            exact int_Contains _ _ p _ W ht fun b h => h
          by_cases q3 : p ∈ c.ord.take k
          · rw [if_pos q3] at hz2
            rw [decide_eq_true q3] at kc
            have KC := Lib.hid kc
            have HZZ := Lib.hid hz2
            clear hz2 kc q3
            go_wp2_with (go_at_call 109; refine (KC.out _ HW.out.bel).mono ?_; rintro e w3 ⟨rfl, hb3⟩; have HX3 := Lib.hid (HW.out.below hb3); clear hb3)
            go_ret
            exact ⟨ret_i HZZ.out.symm, HX3.out.bel⟩
          · rw [if_neg q3] at hz2
            rw [decide_eq_false q3] at kc
            have KC := Lib.hid kc
            have HZZ := Lib.hid hz2
            clear hz2 kc q3
            go_wp2_with (go_at_call 109; refine (KC.out _ HW.out.bel).mono ?_; rintro e w3 ⟨rfl, hb3⟩; have HX3 := Lib.hid (HW.out.below hb3); clear hb3)
            go_roundw
            case rel => exact ⟨k + 1, by omega, by go_num, HX3, HZZ⟩
            case measure => simp [intOf]; omega
        · obtain rfl : k = c.ord.length := by omega
          have hz2 := hzz.out
          rw [restO_end] at hz2
          have HZ2 := Lib.hid hz2
          clear hzz hz2
          go_wp2
          go_ret
          exact ⟨ret_i HZ2.out.symm, HW.out.bel⟩
end Go.Proofs.YtdlmmbfnmnglaaaGreatDoor

namespace Go.Proofs.YtdlmmbfnmnglaaaGreatDoor
open Go.RowKit

set_option maxRecDepth 100000 in
set_option maxHeartbeats 4000000 in
theorem r44_Check (c : Chs) (bv wv pv ov : Value) (w : World) (h : ChAt w (· < w.heap.size) bv wv pv ov c) :
    Calls Tryz.prog 62 #[chV c bv wv pv ov] w fun e w' => e = .returned (.int .i64 (checkC c)) ∧ Below w.heap.size w w' := by
  unfold chV
  obtain ⟨z, hz⟩ : ∃ z, z = checkC c := ⟨_, rfl⟩
  rw [← hz]
  obtain ⟨A, ca, rfl, hc, hc2⟩ := h.mdl.bat.shape
  obtain ⟨A1, ca1, rfl, hc1, hc12⟩ := h.mdl.bow.shape
  obtain ⟨A2, ca2, rfl, hc3, hc32⟩ := h.bow.shape
  obtain ⟨A3, ca3, rfl, hc4, hc42⟩ := h.ord.shape
  have hx := ChB.new w c (.slice A c.mdl.bats.length ca) (.slice A1 c.mdl.bows.length ca1) (.slice A2 c.bows.length ca2) (.slice A3 c.ord.length ca3)
  have km := r_Check c.mdl _ _ _ (h.mdl.below hx.bel)
  have HM := Lib.hid h
  have HX := Lib.hid hx
  have hres := fun h1 h2 h3 => hz.trans (checkC_rest (c := c) h1 h2 h3)
  have hbad : checkM c.mdl ≠ 0 → z = checkM c.mdl := fun h => by rw [hz]; unfold checkC; rw [if_pos h]
  have hno : checkM c.mdl = 0 → c.bows.length = 0 → z = 6 := fun h h2 => by rw [hz]; unfold checkC; rw [if_neg (by omega), if_pos h2]
  have hmany : checkM c.mdl = 0 → c.bows.length ≠ 0 → 12 < c.bows.length → z = 9 := fun h h2 h3 => by rw [hz]; unfold checkC; rw [if_neg (by omega), if_neg h2, if_pos h3]
  obtain ⟨u, hu⟩ : ∃ u, u = checkM c.mdl := ⟨_, rfl⟩
  rw [← hu] at km hres hbad hno hmany
  clear hz h hx hu
  by_cases h0 : u = 0
  case neg =>
    have HZ := Lib.hid (hbad h0)
    have eu : (u != 0) = true := by simp [h0]
    have KM := Lib.hid km
    clear km hres hbad hno hmany h0
    go_enter Tryz.func62, Tryz.ntmps62
    go_wp2_with (go_at_call 77; refine KM.out.mono ?_; rintro e w2 ⟨rfl, hb2⟩; have HX2 := Lib.hid (HX.out.below hb2); obtain ⟨x0, x1, x2, x3, x4, x5, x6⟩ := HX2.out.cells; clear hb2)
    go_ret
    exact ⟨ret_i HZ.out.symm, HX2.out.bel⟩
  subst h0
  have KM := Lib.hid km
  clear km hbad
  by_cases h1 : c.bows.length = 0
  · have HZ := Lib.hid (hno rfl h1)
    have e1 : ((c.bows.length : Int) == 0) = true := beq_iff_eq.2 (by omega)
    have h1' := Lib.hid h1
    clear hres hno hmany h1
    go_enter Tryz.func62, Tryz.ntmps62
    go_wp2_with (go_at_call 77; refine KM.out.mono ?_; rintro e w2 ⟨rfl, hb2⟩; have HX2 := Lib.hid (HX.out.below hb2); obtain ⟨x0, x1, x2, x3, x4, x5, x6⟩ := HX2.out.cells; clear hb2)
    go_ret
    exact ⟨ret_i HZ.out.symm, HX2.out.bel⟩
  have e1 : ((c.bows.length : Int) == 0) = false := beq_eq_false_iff_ne.2 (by omega)
  by_cases h2 : 12 < c.bows.length
  · have HZ := Lib.hid (hmany rfl h1 h2)
    have e2 : (12 : Int) < (c.bows.length : Int) := by omega
    clear hres hno hmany h1 h2
    go_enter Tryz.func62, Tryz.ntmps62
    go_wp2_with (go_at_call 77; refine KM.out.mono ?_; rintro e w2 ⟨rfl, hb2⟩; have HX2 := Lib.hid (HX.out.below hb2); obtain ⟨x0, x1, x2, x3, x4, x5, x6⟩ := HX2.out.cells; clear hb2)
    go_ret
    exact ⟨ret_i HZ.out.symm, HX2.out.bel⟩
  have HZ0 := Lib.hid (hres rfl h1 h2)
  have e2 : ¬ (12 : Int) < (c.bows.length : Int) := by omega
  clear hres hno hmany h1 h2
  go_enter Tryz.func62, Tryz.ntmps62
  go_wp2_with (go_at_call 77; refine KM.out.mono ?_; rintro e w2 ⟨rfl, hb2⟩; have HX2 := Lib.hid (HX.out.below hb2); obtain ⟨x0, x1, x2, x3, x4, x5, x6⟩ := HX2.out.cells; clear hb2)
  go_loopw [27] (fun i wr => ∃ k : Nat, k ≤ c.bows.length ∧ i = .int .i64 k ∧ Hid (ChB w wr w.heap.size c (.slice A c.mdl.bats.length ca) (.slice A1 c.mdl.bows.length ca1) (.slice A2 c.bows.length ca2) (.slice A3 c.ord.length ca3)) ∧ Hid (z = restP c k)) (fun i _ => c.bows.length - (intOf i).toNat)
  case atStart => exact ⟨0, Nat.zero_le _, rfl, HX2, HZ0⟩
  case round =>
    clear HX2 HZ0 x0 x1 x2 x3 x4 x5 x6
    obtain ⟨k, hk, rfl, HW, hzz⟩ := hrel
    obtain ⟨x0, x1, x2, x3, x4, x5, x6⟩ := HW.out.cells
    by_cases hlt : k < c.bows.length
    · obtain ⟨b0, o, rfl, hbl, yy0⟩ := int_at HM.out.bow hlt
      have y0 := (HW.out.bel.cell (p := ⟨b0, o + k, none⟩) hbl).trans yy0
      have hz2 := hzz.out
      rw [restP_at hlt] at hz2
      obtain ⟨p, hp⟩ : ∃ p, p = c.bows[k] := ⟨_, rfl⟩
      rw [← hp] at hz2 y0
      clear hzz hp yy0
      by_cases g1 : p < 0
      · rw [if_pos (.inl g1)] at hz2
        have HZZ := Lib.hid hz2
        clear hz2
        go_wp2
        go_ret
        exact ⟨ret_i HZZ.out.symm, HW.out.bel⟩
      · by_cases g2 : (c.mdl.bows.length : Int) ≤ p
        · rw [if_pos (.inr g2)] at hz2
          have HZZ := Lib.hid hz2
          clear hz2
          go_wp2
          go_ret
          exact ⟨ret_i HZZ.out.symm, HW.out.bel⟩
        · rw [if_neg (by omega)] at hz2
          have HZZ := Lib.hid hz2
          clear hz2
          go_wp2
          go_roundw
          case rel => exact ⟨k + 1, by omega, by go_num, HW, HZZ⟩
          case measure => simp [intOf]; omega
    · obtain rfl : k = c.bows.length := by omega
      have hz2 := hzz.out
      rw [restP_end] at hz2
      have ht2 : rangeC c = true → z = 2 := fun h => by rw [hz2]; unfold tailC; rw [if_pos h]
      have ht9 : rangeC c = false → (c.ord.length < 2 ∨ 11 < c.ord.length) → z = 9 := fun h h2 => by rw [hz2]; unfold tailC; rw [if_neg (by simp [h]), if_pos h2]
      have htr : rangeC c = false → ¬ (c.ord.length < 2 ∨ 11 < c.ord.length) → z = restO c 0 := fun h h2 => hz2.trans (tailC_rest h h2)
      have hw := rangeC_ways c
      obtain ⟨over, hov⟩ : ∃ x, x = c.over := ⟨_, rfl⟩
      obtain ⟨done, hdo⟩ : ∃ x, x = c.done := ⟨_, rfl⟩
      obtain ⟨need, hne⟩ : ∃ x, x = c.need := ⟨_, rfl⟩
      rw [← hov, ← hdo, ← hne] at hw
      rw [← hov] at x3
      rw [← hdo] at x4
      rw [← hne] at x5
      clear hzz hz2 hov hdo hne
      rcases hw with ⟨hr, hw⟩ | ⟨hr, g1, g2, g3, g4, g5, g6⟩
      · have HZZ := Lib.hid (ht2 hr)
        clear ht2 ht9 htr hr
        rcases hw with g1 | ⟨g1, g2⟩ | ⟨g1, g2, g3⟩ | ⟨g1, g2, g3, g4⟩ | ⟨g1, g2, g3, g4, g5⟩ | ⟨g1, g2, g3, g4, g5, g6⟩
        all_goals go_wp2
        all_goals go_ret
        all_goals exact ⟨ret_i HZZ.out.symm, HW.out.bel⟩
      by_cases g7 : c.ord.length < 2
      · have HZZ := Lib.hid (ht9 hr (.inl g7))
        have g7' : (c.ord.length : Int) < 2 := by omega
        clear ht2 ht9 htr hr g7
        go_wp2
        go_ret
        exact ⟨ret_i HZZ.out.symm, HW.out.bel⟩
      by_cases g8 : 11 < c.ord.length
      · have HZZ := Lib.hid (ht9 hr (.inr g8))
        have g7' : ¬ (c.ord.length : Int) < 2 := by omega
        have g8' : (11 : Int) < (c.ord.length : Int) := by omega
        clear ht2 ht9 htr hr g7 g8
        go_wp2
        go_ret
        exact ⟨ret_i HZZ.out.symm, HW.out.bel⟩
      have HZ1 := Lib.hid (htr hr (by omega))
      have g7' : ¬ (c.ord.length : Int) < 2 := by omega
      have g8' : ¬ (11 : Int) < (c.ord.length : Int) := by omega
      have HW1 := HW
      clear ht2 ht9 htr hr g7 g8
      obtain ⟨wo, rfl⟩ : ∃ wo : World, wo = wr := ⟨_, rfl⟩
      go_wp2
      go_loopw [85] (fun i wr => ∃ k : Nat, k ≤ c.ord.length ∧ i = .int .i64 k ∧ Hid (ChB w wr w.heap.size c (.slice A c.mdl.bats.length ca) (.slice A1 c.mdl.bows.length ca1) (.slice A2 c.bows.length ca2) (.slice A3 c.ord.length ca3)) ∧ Hid (z = restO c k)) (fun i _ => c.ord.length - (intOf i).toNat)
      case atStart => exact ⟨0, Nat.zero_le _, rfl, HW1, HZ1⟩
      case round =>
        clear HW1 HZ1 HW x0 x1 x2 x3 x4 x5 x6
        obtain ⟨k, hk, rfl, HW, hzz⟩ := hrel
        obtain ⟨x0, x1, x2, x3, x4, x5, x6⟩ := HW.out.cells
        by_cases hlt : k < c.ord.length
        · obtain ⟨b0, o, rfl, hbl, yy0⟩ := int_at HM.out.ord hlt
          have y0 := (HW.out.bel.cell (p := ⟨b0, o + k, none⟩) hbl).trans yy0
          have hz2 := hzz.out
          rw [restO_at hlt] at hz2
          obtain ⟨p, hp⟩ : ∃ p, p = c.ord[k] := ⟨_, rfl⟩
          rw [← hp] at hz2 y0
          clear hzz hp yy0
          by_cases q1 : p < 0
          · rw [if_pos (.inl q1)] at hz2
            have HZZ := Lib.hid hz2
            clear hz2
            go_wp2
            go_ret
            exact ⟨ret_i HZZ.out.symm, HW.out.bel⟩
          by_cases q2 : (c.mdl.bats.length : Int) ≤ p
          · rw [if_pos (.inr q2)] at hz2
            have HZZ := Lib.hid hz2
            clear hz2
            go_wp2
            go_ret
            exact ⟨ret_i HZZ.out.symm, HW.out.bel⟩
          rw [if_neg (by omega)] at hz2
          have hl : (c.ord.take k).length = k := by rw [List.length_take]; omega
          obtain ⟨tl, htl⟩ : ∃ t, t = c.ord.take k := ⟨_, rfl⟩
          rw [← htl] at hz2 hl
          have HZ3 : Hid (z = if p ∈ tl.drop 0 then 7 else restO c (k + 1)) := by unfold Hid; rw [List.drop_zero]; exact hz2
          have HL := Lib.hid hl
          have HTL := Lib.hid htl
          have HW3 := HW
          clear hz2 htl hl
          obtain ⟨wo2, rfl⟩ : ∃ wo : World, wo = wr := ⟨_, rfl⟩
          go_wp2
          go_loopw [105] (fun i wr => ∃ j : Nat, j ≤ k ∧ i = .int .i64 j ∧ Hid (ChB w wr w.heap.size c (.slice A c.mdl.bats.length ca) (.slice A1 c.mdl.bows.length ca1) (.slice A2 c.bows.length ca2) (.slice (some ⟨b0, o, none⟩) c.ord.length ca3)) ∧ Hid (z = if p ∈ tl.drop j then 7 else restO c (k + 1))) (fun i _ => k - (intOf i).toNat)
          case atStart => exact ⟨0, Nat.zero_le _, rfl, HW3, HZ3⟩
          case round =>
            obtain ⟨j, hj, rfl, HWJ, hzj⟩ := hrel
            by_cases hjt : j < k
            · have hjl : j < tl.length := by rw [HL.out]; exact hjt
              have htj := (HM.out.below HWJ.out.bel).ord.take (k := k) (by omega)
              rw [← HTL.out] at htj
              obtain ⟨b1, o1, he1, _, yj⟩ := int_at htj (k := j) hjl
              obtain ⟨rfl, rfl⟩ : b1 = b0 ∧ o1 = o := by injection he1 with h; injection h with h1 h2; exact ⟨h1.symm, h2.symm⟩
              have hzj2 := hzj.out
              rw [drop_get hjl] at hzj2
              obtain ⟨q, hq⟩ : ∃ q, q = tl[j] := ⟨_, rfl⟩
              rw [← hq] at yj hzj2
              clear hzj hq htj he1
              by_cases hqp : q = p
              · rw [if_pos (by rw [hqp]; simp)] at hzj2
                have e1 : (q == p) = true := beq_iff_eq.2 hqp
                have e2 : (p == q) = true := beq_iff_eq.2 hqp.symm
                have HZZ := Lib.hid hzj2
                clear hzj2 hqp
                go_wp2
                go_ret
                exact ⟨ret_i HZZ.out.symm, HWJ.out.bel⟩
              · have hmm : (p ∈ q :: tl.drop (j + 1)) = (p ∈ tl.drop (j + 1)) := by rw [List.mem_cons]; exact propext ⟨fun k => k.elim (fun e => absurd e.symm hqp) id, .inr⟩
                simp only [hmm] at hzj2
                have e1 : (q == p) = false := beq_eq_false_iff_ne.2 hqp
                have e2 : (p == q) = false := beq_eq_false_iff_ne.2 (fun e => hqp e.symm)
                have HZZ := Lib.hid hzj2
                clear hzj2 hqp hmm
                go_wp2
                go_roundw
                case rel => exact ⟨j + 1, by omega, by go_num, HWJ, HZZ⟩
                case measure => simp [intOf]; omega
            · obtain rfl : j = k := by omega
              have hzj2 := hzj.out
              rw [List.drop_of_length_le (by rw [HL.out]; exact Nat.le_refl _), if_neg (by simp)] at hzj2
              have HZZ := Lib.hid hzj2
              clear hzj hzj2
              go_wp2
              go_roundw
              case rel => exact ⟨j + 1, by omega, by go_num, HWJ, HZZ⟩
              case measure => simp [intOf]; omega
        · obtain rfl : k = c.ord.length := by omega
          have hz2 := hzz.out
          rw [restO_end] at hz2
          have HZ2 := Lib.hid hz2
          clear hzz hz2
          go_wp2
          go_ret
          exact ⟨ret_i HZ2.out.symm, HW.out.bel⟩
end Go.Proofs.YtdlmmbfnmnglaaaGreatDoor

namespace Go.Proofs.YtdlmmbfnmnglaaaGreatDoor
open Go.RowKit

/-- A chase and a state boxed one behind the other. -/
structure CSB (w W : World) (g : Nat) (c : Chs) (bv wv pv ov : Value) (s : Cst) : Prop where
  bel : Below w.heap.size w W
  box : Blk W g 28 #[bv, wv, pv, .int .i64 c.over, .int .i64 c.done, .int .i64 c.need, ov]
  st : Blk W (g + 1) 30 #[.int .i64 s.ball, .int .i64 s.need, .int .i64 s.str, .int .i64 s.par, .int .i64 s.nxt]
section
variable {w W W' : World} {g : Nat} {c : Chs} {bv wv pv ov : Value} {s : Cst}
theorem CSB.below (h : CSB w W g c bv wv pv ov s) (hb : Below W.heap.size W W') : CSB w W' g c bv wv pv ov s := ⟨h.bel.trans (hb.mono h.bel.size), h.box.below hb h.box.lt, h.st.below hb h.st.lt⟩
theorem CSB.drew (h : CSB w W g c bv wv pv ov s) : CSB w W.drew g c bv wv pv ov s := ⟨Below.drew h.bel, h.box.drew, h.st.drew⟩
theorem CSB.cells (h : CSB w W g c bv wv pv ov s) : W.cell? ⟨g, 0, none⟩ = some bv ∧ W.cell? ⟨g, 1, none⟩ = some wv ∧ W.cell? ⟨g, 2, none⟩ = some pv ∧ W.cell? ⟨g, 3, none⟩ = some (.int .i64 c.over) ∧ W.cell? ⟨g, 4, none⟩ = some (.int .i64 c.done) ∧ W.cell? ⟨g, 5, none⟩ = some (.int .i64 c.need) ∧ W.cell? ⟨g, 6, none⟩ = some ov ∧
    W.cell? ⟨g + 1, 0, none⟩ = some (.int .i64 s.ball) ∧ W.cell? ⟨g + 1, 1, none⟩ = some (.int .i64 s.need) ∧ W.cell? ⟨g + 1, 2, none⟩ = some (.int .i64 s.str) ∧ W.cell? ⟨g + 1, 3, none⟩ = some (.int .i64 s.par) ∧ W.cell? ⟨g + 1, 4, none⟩ = some (.int .i64 s.nxt) :=
  ⟨h.box.cell 0, h.box.cell 1, h.box.cell 2, h.box.cell 3, h.box.cell 4, h.box.cell 5, h.box.cell 6, h.st.cell 0, h.st.cell 1, h.st.cell 2, h.st.cell 3, h.st.cell 4⟩
theorem CSB.new (w : World) (c : Chs) (bv wv pv ov : Value) (s : Cst) : CSB w ((w.alloc (.cells #[bv, wv, pv, .int .i64 c.over, .int .i64 c.done, .int .i64 c.need, ov] 28)).alloc (.cells #[.int .i64 s.ball, .int .i64 s.need, .int .i64 s.str, .int .i64 s.par, .int .i64 s.nxt] 30)) w.heap.size c bv wv pv ov s := by
  have h1 := ChB.new w c bv wv pv ov
  have h2 := Blk.new (w.alloc (.cells #[bv, wv, pv, .int .i64 c.over, .int .i64 c.done, .int .i64 c.need, ov] 28)) 30 #[.int .i64 s.ball, .int .i64 s.need, .int .i64 s.str, .int .i64 s.par, .int .i64 s.nxt]
  rw [World.size_alloc] at h2
  exact ⟨h1.bel.alloc h1.bel.size _, h1.box.alloc _, h2⟩
end
end Go.Proofs.YtdlmmbfnmnglaaaGreatDoor

namespace Go.Proofs.YtdlmmbfnmnglaaaGreatDoor

def setC (c : Chs) (o : List Int) : Chs := { c with ord := o }
def checkO (c : Chs) : Int :=
  if checkM c.mdl ≠ 0 then checkM c.mdl
  else if 8 < c.bows.length then 9
  else if checkC (setC c []) ≠ 9 then checkC (setC c [])
  else if 6 < c.ord.length then 9
  else checkC c
def checkOr (c : Chs) : Int :=
  if checkM c.mdl ≠ 0 then checkM c.mdl
  else if 8 < c.bows.length then 9
  else if checkC (setC c [0, 0]) ≠ 7 then checkC (setC c [0, 0])
  else if 6 < c.ord.length then 9
  else checkC c
theorem plansF_01 (n : Int) : ∀ l, plansF n l = 0 ∨ plansF n l = 1
  | [] => .inl rfl
  | a :: l => by
    rw [plansF]
    split
    · exact .inr rfl
    · exact plansF_01 n l
theorem checkO_ref (c : Chs) : checkOr c = checkO c := by
  unfold checkOr checkO
  by_cases h1 : checkM c.mdl ≠ 0
  · rw [if_pos h1, if_pos h1]
  rw [if_neg h1, if_neg h1]
  by_cases h2 : 8 < c.bows.length
  · rw [if_pos h2, if_pos h2]
  rw [if_neg h2, if_neg h2]
  have hM := checkM_ok (m := c.mdl) (by omega)
  have key : (checkC (setC c []) = 9 ∧ checkC (setC c [0, 0]) = 7) ∨ (checkC (setC c []) = checkC (setC c [0, 0]) ∧ checkC (setC c []) ≠ 9 ∧ checkC (setC c [0, 0]) ≠ 7) := by
    unfold checkC
    have e1 : ∀ o, (setC c o).mdl = c.mdl := fun _ => rfl
    have e2 : ∀ o, (setC c o).bows = c.bows := fun _ => rfl
    have e3 : ∀ o, rangeC (setC c o) = rangeC c := fun _ => rfl
    have e4 : ∀ o, (setC c o).ord = o := fun _ => rfl
    simp only [e1, e2, e3, e4]
    rw [if_neg h1, if_neg h1]
    by_cases h3 : c.bows.length = 0
    · rw [if_pos h3, if_pos h3]; exact .inr ⟨rfl, by decide, by decide⟩
    have g12 : ¬ 12 < c.bows.length := by omega
    rw [if_neg h3, if_neg h3, if_neg g12, if_neg g12]
    by_cases h4 : plansF c.mdl.bows.length c.bows ≠ 0
    · rw [if_pos h4, if_pos h4]
      have := plansF_01 c.mdl.bows.length c.bows
      exact .inr ⟨rfl, by omega, by omega⟩
    rw [if_neg h4, if_neg h4]
    by_cases h5 : rangeC c = true
    · rw [if_pos h5, if_pos h5]; exact .inr ⟨rfl, by decide, by decide⟩
    rw [if_neg h5, if_neg h5, if_pos (.inl (by decide)), if_neg (by decide)]
    refine .inl ⟨rfl, ?_⟩
    have hb : 1 ≤ c.mdl.bats.length := hM.nb.1
    rw [ordF, if_neg (by omega), if_neg (by simp), ordF, if_neg (by omega), if_pos (by simp)]
  rcases key with ⟨k1, k2⟩ | ⟨k1, k2, k3⟩
  · rw [if_neg (by omega : ¬ checkC (setC c [0, 0]) ≠ 7), if_neg (by omega : ¬ checkC (setC c []) ≠ 9)]
  · rw [if_pos k2, if_pos k3, k1]
theorem checkO_ok {c : Chs} (h : checkO c = 0) : checkC c = 0 ∧ OkC c ∧ c.bows.length ≤ 8 ∧ c.ord.length ≤ 6 := by
  unfold checkO at h
  by_cases h1 : checkM c.mdl ≠ 0
  · rw [if_pos h1] at h; exact absurd h h1
  rw [if_neg h1] at h
  by_cases h2 : 8 < c.bows.length
  · rw [if_pos h2] at h; cases h
  rw [if_neg h2] at h
  by_cases h3 : checkC (setC c []) ≠ 9
  · rw [if_pos h3] at h
    exfalso
    unfold checkC at h
    have e4 : (setC c []).ord = [] := rfl
    simp only [e4] at h
    split at h
    · rename_i g; exact g h
    split at h; cases h
    split at h; cases h
    split at h
    · rename_i g; exact g h
    split at h; cases h
    split at h; cases h
    rename_i g; exact g (.inl (by decide))
  rw [if_neg h3] at h
  by_cases h4 : 6 < c.ord.length
  · rw [if_pos h4] at h; cases h
  rw [if_neg h4] at h
  exact ⟨h, checkC_ok h, by omega, by omega⟩
/-- States: the waiting are a set of bits. -/
structure Ost where
  ball : Int
  need : Int
  str : Int
  par : Int
  wait : Int
/-- Bits, as the machine spells them. -/
def shrW (w k : Int) : Int := w / 2 ^ k.toNat
def bitW (w i : Int) : Bool := bits .and .u16 (w / 2 ^ i.toNat) 1 == 1
def clrW (w i : Int) : Int := bits .andNot .u16 w (IntKind.u16.wrap (2 ^ i.toNat))
theorem shrW_nat (n i : Nat) (hi : i ≤ 16) : shrW (n : Int) (i : Int) = ((n / 2 ^ i : Nat) : Int) := by
  unfold shrW
  rw [Int.toNat_natCast]
  push_cast; rfl
theorem bitW_nat (n i : Nat) (hn : n < 65536) (hi : i ≤ 16) : bitW (n : Int) (i : Int) = n.testBit i := by
  have hd : n / 2 ^ i < 65536 := Nat.lt_of_le_of_lt (Nat.div_le_self _ _) hn
  have hs := shrW_nat n i hi
  unfold shrW at hs
  unfold bitW
  rw [hs, show (1 : Int) = ((1 : Nat) : Int) from rfl, u16_and_nat _ _ hd (by decide), nat_mask1, Nat.testBit_eq_decide_div_mod_eq]
  have : ((((n / 2 ^ i % 2 : Nat) : Int) == ((1 : Nat) : Int)) = true) ↔ (decide (n / 2 ^ i % 2 = 1) = true) := by
    rw [beq_iff_eq, decide_eq_true_eq]; omega
  exact Bool.eq_iff_iff.2 this
theorem clrW_nat (n i : Nat) (hn : n < 65536) (hi : i < 16) : clrW (n : Int) (i : Int) = ((n &&& (65535 - 2 ^ i) : Nat) : Int) := by
  have hp : 2 ^ i < 65536 := Nat.pow_lt_pow_right (by decide) hi (n := 16)
  unfold clrW
  have hw : IntKind.u16.wrap (2 ^ (i : Int).toNat) = ((2 ^ i : Nat) : Int) := by
    rw [Int.toNat_natCast, IntKind.wrap_u16]
    have : ((2 : Int) ^ i) = ((2 ^ i : Nat) : Int) := by push_cast; rfl
    rw [this]
    generalize 2 ^ i = q at hp
    omega
  rw [hw, u16_andNot_nat _ _ hn hp]
theorem clr_test (n i j : Nat) (hi : i < 16) : (n &&& (65535 - 2 ^ i)).testBit j = (n.testBit j && decide (j < 16) && decide (j ≠ i)) := by
  have hp : 2 ^ i < 2 ^ 16 := Nat.pow_lt_pow_right (by decide) hi
  rw [Nat.testBit_and, show 65535 - 2 ^ i = 2 ^ 16 - (2 ^ i + 1) by omega, Nat.testBit_two_pow_sub_succ hp, Nat.testBit_two_pow, Bool.and_assoc]
  congr 1; congr 1
  by_cases h : i = j
  · simp [h]
  · have : j ≠ i := fun e => h e.symm
    simp [h, this]
/-- What holds of a set of waiting batters. -/
theorem bits_of (w : Int) (h : 0 ≤ w ∧ w < 65536) : ∃ n : Nat, w = (n : Int) ∧ n < 65536 := ⟨w.toNat, by omega, by omega⟩
theorem clrW_lt {w i : Int} (h : 0 ≤ w ∧ w < 65536) (hi : 0 ≤ i ∧ i < 16) : 0 ≤ clrW w i ∧ clrW w i < 65536 := by
  obtain ⟨n, rfl, hn⟩ := bits_of w h
  obtain ⟨k, rfl⟩ := Int.eq_ofNat_of_zero_le hi.1
  rw [clrW_nat n k hn (by omega)]
  have := Nat.and_le_left (n := n) (m := 65535 - 2 ^ k)
  omega
theorem clrW_bit {w i j : Int} (h : 0 ≤ w ∧ w < 65536) (hi : 0 ≤ i ∧ i < 16) (hj : 0 ≤ j ∧ j < 16) : bitW (clrW w i) j = (bitW w j && decide (j ≠ i)) := by
  obtain ⟨n, rfl, hn⟩ := bits_of w h
  obtain ⟨k, rfl⟩ := Int.eq_ofNat_of_zero_le hi.1
  obtain ⟨m, rfl⟩ := Int.eq_ofNat_of_zero_le hj.1
  have hk : k < 16 := by omega
  have hm : m < 16 := by omega
  rw [clrW_nat n k hn hk, bitW_nat _ m (by have := Nat.and_le_left (n := n) (m := 65535 - 2 ^ k); omega) (by omega), bitW_nat n m hn (by omega), clr_test n k m hk]
  have e : decide ((m : Int) ≠ (k : Int)) = decide (m ≠ k) := decide_eq_decide.2 (by omega)
  rw [e]; simp [hm]
theorem clrW_shr {w i k : Int} (h : 0 ≤ w ∧ w < 65536) (hi : 0 ≤ i ∧ i < 16) (hk : 0 ≤ k ∧ k < 16) (h0 : shrW w k = 0) : shrW (clrW w i) k = 0 := by
  obtain ⟨n, rfl, hn⟩ := bits_of w h
  obtain ⟨a, rfl⟩ := Int.eq_ofNat_of_zero_le hi.1
  obtain ⟨b, rfl⟩ := Int.eq_ofNat_of_zero_le hk.1
  rw [shrW_nat n b (by omega)] at h0
  rw [clrW_nat n a hn (by omega), shrW_nat _ b (by omega)]
  have hp : 0 < 2 ^ b := Nat.two_pow_pos b
  have h1 : n < 2 ^ b := by
    have : n / 2 ^ b = 0 := by omega
    rcases Nat.lt_or_ge n (2 ^ b) with h | h
    · exact h
    · have := Nat.div_pos h hp; omega
  have := Nat.and_le_left (n := n) (m := 65535 - 2 ^ a)
  rw [Nat.div_eq_of_lt (by omega)]; rfl
def vacO (s : Ost) : Bool := decide (s.str < 0) || decide (s.par < 0)
def sendO (s : Ost) (i : Int) : Ost := if s.str < 0 then ⟨s.ball, s.need, i, s.par, clrW s.wait i⟩ else ⟨s.ball, s.need, s.str, i, clrW s.wait i⟩
def stepO (c : Chs) (s : Ost) (o : Otc) : Ost :=
  if swapC c (s.ball + 1) o = true then ⟨s.ball + 1, max (s.need - o.runs) 0, s.par, if o.wick = true then -1 else s.str, s.wait⟩
  else ⟨s.ball + 1, max (s.need - o.runs) 0, if o.wick = true then -1 else s.str, s.par, s.wait⟩
def cstO (s : Ost) : Cst := ⟨s.ball, s.need, s.str, s.par, 0⟩
def mvO (c : Chs) (s : Ost) : List Otc := mvC c (cstO s)
/-- The best of f over the waiting below k. -/
def bestF (f : Int → Int) (w : Int) : Nat → Int
  | 0 => 0
  | k + 1 => if bitW w k = true then max (bestF f w k) (f k) else bestF f w k
def valO (c : Chs) : Nat → Ost → Int
  | 0, s => if s.need = 0 then 1 else 0
  | n + 1, s => if s.need = 0 then pow16 (n + 1) else if vacO s = true then bestF (fun i => sumI ((mvO c (sendO s i)).map fun o => o.wt * valO c n (stepO c (sendO s i) o))) s.wait c.ord.length
    else sumI ((mvO c s).map fun o => o.wt * valO c n (stepO c s o))
def leftO (c : Chs) (s : Ost) : Nat := (c.bows.length - s.ball).toNat
def vO (c : Chs) (s : Ost) : Int := valO c (leftO c s) s
def endO (c : Chs) (s : Ost) : Bool := decide (s.need = 0) || decide (s.ball = c.bows.length)
def outO (c : Chs) (s : Ost) : Bool := !(outC.inC s.ball 0 c.bows.length) || !(outC.inC s.need 0 c.need) || !(outC.inC s.str (-1) (c.ord.length - 1)) || !(outC.inC s.par (-1) (c.ord.length - 1)) || !(shrW s.wait c.ord.length == 0)
def bothO (s : Ost) : Bool := (decide (0 ≤ s.str) && bitW s.wait s.str) || (decide (0 ≤ s.par) && bitW s.wait s.par)
def stateO (c : Chs) (s : Ost) : Int := if outO c s = true then 2 else if s.str = s.par then 1 else if bothO s = true then 7 else 0
structure OkOs (c : Chs) (s : Ost) : Prop where
  ball : 0 ≤ s.ball ∧ s.ball ≤ c.bows.length
  need : 0 ≤ s.need ∧ s.need ≤ c.need
  str : -1 ≤ s.str ∧ s.str < c.ord.length
  par : -1 ≤ s.par ∧ s.par < c.ord.length
  w16 : 0 ≤ s.wait ∧ s.wait < 65536
  hi : shrW s.wait c.ord.length = 0
  ne : s.str ≠ s.par
  ws : 0 ≤ s.str → bitW s.wait s.str = false
  wp : 0 ≤ s.par → bitW s.wait s.par = false
theorem stateO_ok {c : Chs} {s : Ost} (hw : 0 ≤ s.wait ∧ s.wait < 65536) : stateO c s = 0 ↔ OkOs c s := by
  have ho : outO c s = false ↔ (0 ≤ s.ball ∧ s.ball ≤ c.bows.length) ∧ (0 ≤ s.need ∧ s.need ≤ c.need) ∧ (-1 ≤ s.str ∧ s.str < c.ord.length) ∧ (-1 ≤ s.par ∧ s.par < c.ord.length) ∧ shrW s.wait c.ord.length = 0 := by
    unfold outO outC.inC
    simp only [Bool.or_eq_false_iff, Bool.not_eq_false', Bool.and_eq_true, decide_eq_true_eq, beq_iff_eq]
    omega
  have hb : bothO s = false ↔ (0 ≤ s.str → bitW s.wait s.str = false) ∧ (0 ≤ s.par → bitW s.wait s.par = false) := by
    unfold bothO
    rw [Bool.or_eq_false_iff]
    by_cases h1 : 0 ≤ s.str <;> by_cases h2 : 0 ≤ s.par <;> simp [h1, h2]
  unfold stateO
  constructor
  · intro h
    by_cases h1 : outO c s = true
    · rw [if_pos h1] at h; cases h
    rw [if_neg h1] at h
    by_cases h2 : s.str = s.par
    · rw [if_pos h2] at h; cases h
    rw [if_neg h2] at h
    by_cases h3 : bothO s = true
    · rw [if_pos h3] at h; cases h
    obtain ⟨a1, a2, a3, a4, a5⟩ := ho.1 (by simpa using h1)
    obtain ⟨b1, b2⟩ := hb.1 (by simpa using h3)
    exact ⟨a1, a2, a3, a4, hw, a5, h2, b1, b2⟩
  · intro h
    rw [if_neg (by rw [ho.2 ⟨h.ball, h.need, h.str, h.par, h.hi⟩]; decide), if_neg h.ne, if_neg (by rw [hb.2 ⟨h.ws, h.wp⟩]; decide)]
structure OkT (c : Chs) : Prop where
  chk : checkC c = 0
  ok : OkC c
  nb : c.bows.length ≤ 8
  np : 2 ≤ c.ord.length ∧ c.ord.length ≤ 6
theorem okT_of {c : Chs} (h : checkO c = 0) : OkT c := by
  obtain ⟨h1, h2, h3, h4⟩ := checkO_ok h
  exact ⟨h1, h2, h3, h2.no.1, h4⟩
theorem sendO_ok {c : Chs} {s : Ost} {i : Int} (ht : OkT c) (h : OkOs c s) (hv : vacO s = true) (hi : 0 ≤ i ∧ i < c.ord.length) (hb : bitW s.wait i = true) :
    OkOs c (sendO s i) ∧ vacO (sendO s i) = false ∧ (sendO s i).ball = s.ball ∧ (sendO s i).need = s.need := by
  have hp := ht.np
  have h1 := clrW_lt h.w16 (i := i) (by omega)
  have h2 := clrW_shr h.w16 (i := i) (k := c.ord.length) (by omega) (by omega) h.hi
  have hbit : ∀ j : Int, 0 ≤ j → j < c.ord.length → (bitW s.wait j = false ∨ j = i) → bitW (clrW s.wait i) j = false := fun j h3 h4 h5 => by
    rw [clrW_bit h.w16 (by omega) (by omega)]
    rcases h5 with h5 | h5
    · rw [h5]; rfl
    · simp [h5]
  have k1 := h.str
  have k2 := h.par
  unfold vacO at hv ⊢
  rw [Bool.or_eq_true, decide_eq_true_eq, decide_eq_true_eq] at hv
  unfold sendO
  by_cases hs : s.str < 0
  · rw [if_pos hs]
    have hne := h.ne
    have hpi : s.par ≠ i := fun e => by
      have := h.wp (by omega)
      rw [e, hb] at this; cases this
    refine ⟨⟨h.ball, h.need, by dsimp only; omega, h.par, h1, h2, fun e => hpi e.symm, fun _ => hbit i (by omega) (by omega) (.inr rfl), fun hp0 => hbit s.par hp0 (by omega) (.inl (h.wp hp0))⟩, ?_, rfl, rfl⟩
    rw [Bool.or_eq_false_iff, decide_eq_false_iff_not, decide_eq_false_iff_not]; dsimp only; omega
  · rw [if_neg hs]
    have hsi : s.str ≠ i := fun e => by
      have := h.ws (by omega)
      rw [e, hb] at this; cases this
    refine ⟨⟨h.ball, h.need, h.str, by dsimp only; omega, h1, h2, hsi, fun hp0 => hbit s.str hp0 (by omega) (.inl (h.ws hp0)), fun _ => hbit i (by omega) (by omega) (.inr rfl)⟩, ?_, rfl, rfl⟩
    rw [Bool.or_eq_false_iff, decide_eq_false_iff_not, decide_eq_false_iff_not]; dsimp only; omega
/-- A state in which both ends are taken and a ball is bowled. -/
theorem mvO_at {c : Chs} {s : Ost} (hc : OkC c) (h : OkOs c s) (h2 : s.ball ≠ c.bows.length) (hv : vacO s = false) : ∃ (i j : Int) (b : Bat) (w : Bow), c.ord[s.str.toNat]? = some i ∧ c.bows[s.ball.toNat]? = some j ∧ 0 ≤ s.str ∧ s.ball < c.bows.length ∧ 0 ≤ i ∧ i < c.mdl.bats.length ∧ 0 ≤ j ∧ j < c.mdl.bows.length ∧ c.mdl.bats[i.toNat]? = some b ∧ c.mdl.bows[j.toNat]? = some w ∧ shiftS b.dist w.shift = (mvO c s, 0) ∧ checkD (mvO c s) = 0 := by
  unfold vacO at hv
  rw [Bool.or_eq_false_iff, decide_eq_false_iff_not, decide_eq_false_iff_not] at hv
  have k1 := h.ball; have k2 := h.str
  have e1 : s.str.toNat < c.ord.length := by omega
  have e2 : s.ball.toNat < c.bows.length := by omega
  have b1 := hc.ord _ (List.getElem_mem e1)
  have b2 := hc.bow _ (List.getElem_mem e2)
  have e3 : c.ord[s.str.toNat].toNat < c.mdl.bats.length := by omega
  have e4 : c.bows[s.ball.toNat].toNat < c.mdl.bows.length := by omega
  have q1 := (hc.mdl.bat _ (List.getElem_mem e3)).2
  have q2 := (hc.mdl.bow _ (List.getElem_mem e4)).2
  have hsh := shift_ok q1 q2.1 q2.2
  have hm : mvO c s = (shiftS c.mdl.bats[c.ord[s.str.toNat].toNat].dist c.mdl.bows[c.bows[s.ball.toNat].toNat].shift).1 := by
    unfold mvO mvC cstO
    dsimp only
    rw [List.getElem?_eq_getElem e1, List.getElem?_eq_getElem e2]
    dsimp only
    rw [List.getElem?_eq_getElem e3, List.getElem?_eq_getElem e4]
  refine ⟨_, _, _, _, List.getElem?_eq_getElem e1, List.getElem?_eq_getElem e2, by omega, by omega, b1.1, b1.2, b2.1, b2.2, List.getElem?_eq_getElem e3, List.getElem?_eq_getElem e4, ?_, ?_⟩
  · rw [hm, hsh]
  · rw [hm]; exact (shift_check (by rw [hsh])).1
theorem stepO_ok {c : Chs} {s : Ost} (h : OkOs c s) (h2 : s.ball ≠ c.bows.length) (hv : vacO s = false) {o : Otc} (ho : 0 ≤ o.runs) : OkOs c (stepO c s o) ∧ (stepO c s o).ball = s.ball + 1 ∧ (stepO c s o).need = max (s.need - o.runs) 0 := by
  unfold vacO at hv
  rw [Bool.or_eq_false_iff, decide_eq_false_iff_not, decide_eq_false_iff_not] at hv
  have a1 := h.ball; have a2 := h.need; have a4 := h.str; have a5 := h.par; have a6 := h.ne; have a7 := h.ws; have a8 := h.wp
  have o1 := ho
  have h0 : 0 ≤ max (s.need - o.runs) 0 ∧ max (s.need - o.runs) 0 ≤ c.need := by omega
  unfold stepO
  by_cases hx : swapC c (s.ball + 1) o = true
  · rw [if_pos hx]
    by_cases hw : o.wick = true
    · rw [if_pos hw]
      exact ⟨⟨by dsimp only; omega, h0, h.par, by dsimp only; omega, h.w16, h.hi, by dsimp only; omega, h.wp, fun k => by dsimp only at k; omega⟩, rfl, rfl⟩
    · rw [if_neg hw]
      exact ⟨⟨by dsimp only; omega, h0, h.par, h.str, h.w16, h.hi, fun e => a6 e.symm, h.wp, h.ws⟩, rfl, rfl⟩
  · rw [if_neg hx]
    by_cases hw : o.wick = true
    · rw [if_pos hw]
      exact ⟨⟨by dsimp only; omega, h0, by dsimp only; omega, h.par, h.w16, h.hi, by dsimp only; omega, fun k => by dsimp only at k; omega, h.wp⟩, rfl, rfl⟩
    · rw [if_neg hw]
      exact ⟨⟨by dsimp only; omega, h0, h.str, h.par, h.w16, h.hi, a6, h.ws, h.wp⟩, rfl, rfl⟩
/-- The value of a state, by its kind. -/
theorem vO_won {c : Chs} {s : Ost} (h : s.need = 0) : vO c s = pow16 (leftO c s) := by
  unfold vO
  cases leftO c s with
  | zero => rw [valO, if_pos h]; rfl
  | succ n => rw [valO, if_pos h]
theorem vO_lost {c : Chs} {s : Ost} (h : s.need ≠ 0) (h2 : s.ball = c.bows.length) : vO c s = 0 := by
  unfold vO
  have : leftO c s = 0 := by unfold leftO; omega
  rw [this, valO, if_neg h]
theorem leftO_run {c : Chs} {s : Ost} (h : OkOs c s) (h2 : s.ball ≠ c.bows.length) : ∃ n, leftO c s = n + 1 ∧ (c.bows.length : Int) - s.ball = ((n + 1 : Nat) : Int) := by
  have := h.ball
  exact ⟨(c.bows.length - s.ball).toNat - 1, by unfold leftO; omega, by omega⟩
theorem vO_run {c : Chs} {s : Ost} (hc : OkC c) (h : OkOs c s) (h1 : s.need ≠ 0) (h2 : s.ball ≠ c.bows.length) (hv : vacO s = false) : vO c s = sumI ((mvO c s).map fun o => o.wt * vO c (stepO c s o)) := by
  obtain ⟨n, hn, hn2⟩ := leftO_run h h2
  obtain ⟨_, _, _, _, _, _, _, _, _, _, _, _, _, _, _, hd⟩ := mvO_at hc h h2 hv
  have hok := checkD_ok hd
  have e : vO c s = valO c (n + 1) s := by unfold vO; rw [hn]
  rw [e, valO, if_neg h1, if_neg (by rw [hv]; decide)]
  congr 1
  refine List.map_congr_left fun o ho => ?_
  obtain ⟨_, k2, _⟩ := stepO_ok h h2 hv (hok.each o ho).r0
  unfold vO leftO
  rw [k2, show ((c.bows.length : Int) - (s.ball + 1)).toNat = n by push_cast at hn2; omega]
theorem bestF_congr {f g : Int → Int} {w : Int} : ∀ {k : Nat}, (∀ i : Nat, i < k → bitW w i = true → f i = g i) → bestF f w k = bestF g w k
  | 0, _ => rfl
  | k + 1, h => by
    have ih := bestF_congr (f := f) (g := g) (w := w) (k := k) fun i hi => h i (by omega)
    rw [bestF, bestF, ih]
    by_cases hb : bitW w k = true
    · rw [if_pos hb, if_pos hb, h k (by omega) hb]
    · rw [if_neg hb, if_neg hb]
theorem vO_vac {c : Chs} {s : Ost} (ht : OkT c) (h : OkOs c s) (h1 : s.need ≠ 0) (h2 : s.ball ≠ c.bows.length) (hv : vacO s = true) : vO c s = bestF (fun i => vO c (sendO s i)) s.wait c.ord.length := by
  obtain ⟨n, hn, hn2⟩ := leftO_run h h2
  have e : vO c s = valO c (n + 1) s := by unfold vO; rw [hn]
  rw [e, valO, if_neg h1, if_pos hv]
  refine bestF_congr fun i hi hb => ?_
  obtain ⟨k1, k2, k3, k4⟩ := sendO_ok ht h hv (i := i) ⟨by omega, by omega⟩ hb
  have hl : leftO c (sendO s i) = n + 1 := by unfold leftO; rw [k3]; unfold leftO at hn; exact hn
  have e2 : vO c (sendO s i) = valO c (n + 1) (sendO s i) := by unfold vO; rw [hl]
  rw [e2, valO, if_neg (by rw [k4]; exact h1), if_neg (by rw [k2]; decide)]
theorem bestF_bd {f : Int → Int} {w : Int} {b : Int} (hb : 0 ≤ b) : ∀ {k : Nat}, (∀ i : Nat, i < k → bitW w i = true → f i ≤ b) → 0 ≤ bestF f w k ∧ bestF f w k ≤ b
  | 0, _ => ⟨Int.le_refl _, hb⟩
  | k + 1, h => by
    have ih := bestF_bd (f := f) (w := w) hb (k := k) fun i hi => h i (by omega)
    rw [bestF]
    by_cases hx : bitW w k = true
    · have := h k (by omega) hx
      rw [if_pos hx]; omega
    · rw [if_neg hx]; exact ih
theorem vO_bd {c : Chs} (ht : OkT c) : ∀ (n : Nat) (s : Ost), OkOs c s → leftO c s = n → 0 ≤ vO c s ∧ vO c s ≤ pow16 n
  | 0, s, h, hn => by
    have hp := pow16_pos 0
    unfold vO; rw [hn, valO]
    split <;> omega
  | n + 1, s, h, hn => by
    have hp := pow16_pos (n + 1)
    by_cases h1 : s.need = 0
    · rw [vO_won h1, hn]; omega
    have h2 : s.ball ≠ c.bows.length := fun e => by unfold leftO at hn; omega
    have run : ∀ t : Ost, OkOs c t → t.need ≠ 0 → t.ball ≠ c.bows.length → leftO c t = n + 1 → vacO t = false → 0 ≤ vO c t ∧ vO c t ≤ pow16 (n + 1) := fun t hx g1 g2 g3 g4 => by
      obtain ⟨_, _, _, _, _, _, _, _, _, _, _, _, _, _, _, hd⟩ := mvO_at ht.ok hx g2 g4
      have hok := checkD_ok hd
      have hv : ∀ o ∈ mvO c t, 0 ≤ vO c (stepO c t o) ∧ vO c (stepO c t o) ≤ pow16 n := fun o ho => by
        obtain ⟨k1, k2, _⟩ := stepO_ok hx g2 g4 (hok.each o ho).r0
        exact vO_bd ht n (stepO c t o) k1 (by unfold leftO at g3 ⊢; rw [k2]; omega)
      rw [vO_run ht.ok hx g1 g2 g4]
      constructor
      · have := sumI_le (f := fun _ => 0) (g := fun o => o.wt * vO c (stepO c t o)) (l := mvO c t) fun o ho => Int.mul_nonneg (by have := (hok.each o ho).w1; omega) (hv o ho).1
        have e0 : sumI ((mvO c t).map fun _ => (0 : Int)) = 0 := by
          generalize mvO c t = l
          induction l with
          | nil => rfl
          | cons a l ih => rw [List.map_cons, sumI_cons, ih]; rfl
        omega
      · have := sumI_le (f := fun o => o.wt * vO c (stepO c t o)) (g := fun o => o.wt * pow16 n) (l := mvO c t) fun o ho => Int.mul_le_mul_of_nonneg_left (hv o ho).2 (by have := (hok.each o ho).w1; omega)
        rw [sumI_mul (fun o : Otc => o.wt) (pow16 n), hok.sum] at this
        rw [pow16]; exact this
    cases hv : vacO s
    · exact run s h h1 h2 hn hv
    · rw [vO_vac ht h h1 h2 hv]
      refine bestF_bd (by omega) fun i hi hb => ?_
      obtain ⟨k1, k2, k3, k4⟩ := sendO_ok ht h hv (i := i) ⟨by omega, by omega⟩ hb
      exact (run _ k1 (by rw [k4]; exact h1) (by rw [k3]; exact h2) (by unfold leftO at hn ⊢; rw [k3]; exact hn) k2).2
end Go.Proofs.YtdlmmbfnmnglaaaGreatDoor

namespace Go.Proofs.YtdlmmbfnmnglaaaGreatDoor
open Go.RowKit

def osV (s : Ost) : Value := .agg #[.int .i64 s.ball, .int .i64 s.need, .int .i64 s.str, .int .i64 s.par, .int .u16 s.wait]
/-- A chase boxed in block g. -/
structure OTB (w W : World) (g : Nat) (c : Chs) (bv wv pv ov : Value) : Prop where
  bel : Below w.heap.size w W
  box : Blk W g 42 #[bv, wv, pv, .int .i64 c.over, .int .i64 c.done, .int .i64 c.need, ov]
theorem OTB.below {w W W' : World} {g : Nat} {c : Chs} {bv wv pv ov : Value} (h : OTB w W g c bv wv pv ov) (hb : Below W.heap.size W W') : OTB w W' g c bv wv pv ov := ⟨h.bel.trans (hb.mono h.bel.size), h.box.below hb h.box.lt⟩
theorem OTB.drew {w W : World} {g : Nat} {c : Chs} {bv wv pv ov : Value} (h : OTB w W g c bv wv pv ov) : OTB w W.drew g c bv wv pv ov := ⟨Below.drew h.bel, h.box.drew⟩
theorem OTB.alloc {w W : World} {g : Nat} {c : Chs} {bv wv pv ov : Value} (h : OTB w W g c bv wv pv ov) (o : Obj) : OTB w (W.alloc o) g c bv wv pv ov := ⟨h.bel.alloc h.bel.size _, h.box.alloc _⟩
theorem OTB.cells {w W : World} {g : Nat} {c : Chs} {bv wv pv ov : Value} (h : OTB w W g c bv wv pv ov) : W.cell? ⟨g, 0, none⟩ = some bv ∧ W.cell? ⟨g, 1, none⟩ = some wv ∧ W.cell? ⟨g, 2, none⟩ = some pv ∧ W.cell? ⟨g, 3, none⟩ = some (.int .i64 c.over) ∧ W.cell? ⟨g, 4, none⟩ = some (.int .i64 c.done) ∧ W.cell? ⟨g, 5, none⟩ = some (.int .i64 c.need) ∧ W.cell? ⟨g, 6, none⟩ = some ov :=
  ⟨h.box.cell 0, h.box.cell 1, h.box.cell 2, h.box.cell 3, h.box.cell 4, h.box.cell 5, h.box.cell 6⟩
theorem OTB.new (w : World) (c : Chs) (bv wv pv ov : Value) : OTB w (w.alloc (.cells #[bv, wv, pv, .int .i64 c.over, .int .i64 c.done, .int .i64 c.need, ov] 42)) w.heap.size c bv wv pv ov := ⟨Below.alloc (Below.refl _ _) (Nat.le_refl _) _, Blk.new _ _ _⟩
/-- A chase and a state boxed one behind the other. -/
structure OSB (w W : World) (g : Nat) (c : Chs) (bv wv pv ov : Value) (s : Ost) : Prop where
  bel : Below w.heap.size w W
  box : Blk W g 42 #[bv, wv, pv, .int .i64 c.over, .int .i64 c.done, .int .i64 c.need, ov]
  st : Blk W (g + 1) 45 #[.int .i64 s.ball, .int .i64 s.need, .int .i64 s.str, .int .i64 s.par, .int .u16 s.wait]
section
variable {w W W' : World} {g : Nat} {c : Chs} {bv wv pv ov : Value} {s : Ost}
theorem OSB.below (h : OSB w W g c bv wv pv ov s) (hb : Below W.heap.size W W') : OSB w W' g c bv wv pv ov s := ⟨h.bel.trans (hb.mono h.bel.size), h.box.below hb h.box.lt, h.st.below hb h.st.lt⟩
theorem OSB.drew (h : OSB w W g c bv wv pv ov s) : OSB w W.drew g c bv wv pv ov s := ⟨Below.drew h.bel, h.box.drew, h.st.drew⟩
theorem OSB.cells (h : OSB w W g c bv wv pv ov s) : W.cell? ⟨g, 0, none⟩ = some bv ∧ W.cell? ⟨g, 1, none⟩ = some wv ∧ W.cell? ⟨g, 2, none⟩ = some pv ∧ W.cell? ⟨g, 3, none⟩ = some (.int .i64 c.over) ∧ W.cell? ⟨g, 4, none⟩ = some (.int .i64 c.done) ∧ W.cell? ⟨g, 5, none⟩ = some (.int .i64 c.need) ∧ W.cell? ⟨g, 6, none⟩ = some ov ∧
    W.cell? ⟨g + 1, 0, none⟩ = some (.int .i64 s.ball) ∧ W.cell? ⟨g + 1, 1, none⟩ = some (.int .i64 s.need) ∧ W.cell? ⟨g + 1, 2, none⟩ = some (.int .i64 s.str) ∧ W.cell? ⟨g + 1, 3, none⟩ = some (.int .i64 s.par) ∧ W.cell? ⟨g + 1, 4, none⟩ = some (.int .u16 s.wait) :=
  ⟨h.box.cell 0, h.box.cell 1, h.box.cell 2, h.box.cell 3, h.box.cell 4, h.box.cell 5, h.box.cell 6, h.st.cell 0, h.st.cell 1, h.st.cell 2, h.st.cell 3, h.st.cell 4⟩
theorem OSB.new (w : World) (c : Chs) (bv wv pv ov : Value) (s : Ost) : OSB w ((w.alloc (.cells #[bv, wv, pv, .int .i64 c.over, .int .i64 c.done, .int .i64 c.need, ov] 42)).alloc (.cells #[.int .i64 s.ball, .int .i64 s.need, .int .i64 s.str, .int .i64 s.par, .int .u16 s.wait] 45)) w.heap.size c bv wv pv ov s := by
  have h1 := OTB.new w c bv wv pv ov
  have h2 := Blk.new (w.alloc (.cells #[bv, wv, pv, .int .i64 c.over, .int .i64 c.done, .int .i64 c.need, ov] 42)) 45 #[.int .i64 s.ball, .int .i64 s.need, .int .i64 s.str, .int .i64 s.par, .int .u16 s.wait]
  rw [World.size_alloc] at h2
  exact ⟨h1.bel.alloc h1.bel.size _, h1.box.alloc _, h2⟩
end
theorem or_asChase_ret {R' : Ending → World → Prop} {a : Act} {w : World} {x0 x1 x2 x3 x4 x5 x6 : Value} {g : Nat} (h2 : a.tmps[4]? = some (.pointer (some ⟨g, 0, none⟩))) (hb : Blk w g 28 #[x0, x1, x2, x3, x4, x5, x6])
    (hd : a.defers = []) (hR : R' (.returned (.agg #[x0, x1, x2, x3, x4, x5, x6])) w) : bodyPost Tryz.prog Tryz.f81 R' .ret a w := by
  have r0 := hb.cell 0
  have r1 := hb.cell 1
  have r2 := hb.cell 2
  have r3 := hb.cell 3
  have r4 := hb.cell 4
  have r5 := hb.cell 5
  have r6 := hb.cell 6
  simp only [List.getElem?_toArray, List.getElem?_cons_zero, List.getElem?_cons_succ] at r0 r1 r2 r3 r4 r5 r6
  refine bodyPost_ret (v := .agg #[x0, x1, x2, x3, x4, x5, x6]) (by simp [results, Tryz.results81, go_sem, h2, r0, r1, r2, r3, r4, r5, r6]) hd hR
theorem r45_of_ret {R' : Ending → World → Prop} {a : Act} {w : World} {x0 x1 x2 x3 x4 x5 x6 : Value} {g : Nat} (h2 : a.tmps[4]? = some (.pointer (some ⟨g, 0, none⟩))) (hb : Blk w g 28 #[x0, x1, x2, x3, x4, x5, x6])
    (hd : a.defers = []) (hR : R' (.returned (.agg #[x0, x1, x2, x3, x4, x5, x6])) w) : bodyPost Tryz.prog Tryz.f78 R' .ret a w := by
  have r0 := hb.cell 0
  have r1 := hb.cell 1
  have r2 := hb.cell 2
  have r3 := hb.cell 3
  have r4 := hb.cell 4
  have r5 := hb.cell 5
  have r6 := hb.cell 6
  simp only [List.getElem?_toArray, List.getElem?_cons_zero, List.getElem?_cons_succ] at r0 r1 r2 r3 r4 r5 r6
  refine bodyPost_ret (v := .agg #[x0, x1, x2, x3, x4, x5, x6]) (by simp [results, Tryz.results78, go_sem, h2, r0, r1, r2, r3, r4, r5, r6]) hd hR
theorem blk_two (w : World) (o : Obj) (t : TypeId) (cs : Array Value) : Blk ((w.alloc o).alloc (.cells cs t)) (w.heap.size + 1) t cs := by
  have h := Blk.new (w.alloc o) t cs
  rwa [World.size_alloc] at h
theorem below_two (w : World) (o1 o2 : Obj) : Below w.heap.size w ((w.alloc o1).alloc o2) := (Below.alloc (Below.refl _ _) (Nat.le_refl _) _).alloc (by simp) _
theorem Blk.put7 {w : World} {g : Nat} {t : TypeId} {a b c d e f h : Value} (hb : Blk w g t #[a, b, c, d, e, f, h]) (x0 x1 x2 x3 x4 x5 x6 : Value) :
    Blk (((((((w.setCell ⟨g, 0, none⟩ x0).setCell ⟨g, 1, none⟩ x1).setCell ⟨g, 2, none⟩ x2).setCell ⟨g, 3, none⟩ x3).setCell ⟨g, 4, none⟩ x4).setCell ⟨g, 5, none⟩ x5).setCell ⟨g, 6, none⟩ x6) g t #[x0, x1, x2, x3, x4, x5, x6] :=
  have h0 : Blk _ g t #[x0, b, c, d, e, f, h] := hb.set_ 0 x0
  have h1 : Blk _ g t #[x0, x1, c, d, e, f, h] := h0.set_ 1 x1
  have h2 : Blk _ g t #[x0, x1, x2, d, e, f, h] := h1.set_ 2 x2
  have h3 : Blk _ g t #[x0, x1, x2, x3, e, f, h] := h2.set_ 3 x3
  have h4 : Blk _ g t #[x0, x1, x2, x3, x4, f, h] := h3.set_ 4 x4
  have h5 : Blk _ g t #[x0, x1, x2, x3, x4, x5, h] := h4.set_ 5 x5
  h5.set_ 6 x6
theorem below_set7 {B : Nat} {a w : World} (h : Below B a w) {g : Nat} (hg : B ≤ g) (x0 x1 x2 x3 x4 x5 x6 : Value) :
    Below B a (((((((w.setCell ⟨g, 0, none⟩ x0).setCell ⟨g, 1, none⟩ x1).setCell ⟨g, 2, none⟩ x2).setCell ⟨g, 3, none⟩ x3).setCell ⟨g, 4, none⟩ x4).setCell ⟨g, 5, none⟩ x5).setCell ⟨g, 6, none⟩ x6) :=
  Below.setCell (Below.setCell (Below.setCell (Below.setCell (Below.setCell (Below.setCell (Below.setCell h hg x0) hg x1) hg x2) hg x3) hg x4) hg x5) hg x6
set_option maxRecDepth 100000 in
set_option maxHeartbeats 4000000 in
theorem or_asChase (c : Chs) (A A1 A2 A3 D : Option Addr) (n n1 n2 n3 m ca ca1 ca2 ca3 k : Nat) (w : World) :
    Calls Tryz.prog 81 #[.agg #[.slice A n ca, .slice A1 n1 ca1, .slice A2 n2 ca2, .int .i64 c.over, .int .i64 c.done, .int .i64 c.need, .slice A3 n3 ca3], .slice D m k] w fun e w' => e = .returned (.agg #[.slice A n ca, .slice A1 n1 ca1, .slice A2 n2 ca2, .int .i64 c.over, .int .i64 c.done, .int .i64 c.need, .slice D m k]) ∧ Below w.heap.size w w' := by
  have hx := OTB.new w c (.slice A n ca) (.slice A1 n1 ca1) (.slice A2 n2 ca2) (.slice A3 n3 ca3)
  have hy := Blk.new (w.alloc (.cells #[.slice A n ca, .slice A1 n1 ca1, .slice A2 n2 ca2, .int .i64 c.over, .int .i64 c.done, .int .i64 c.need, .slice A3 n3 ca3] 42)) 28 #[.slice none 0 0, .slice none 0 0, .slice none 0 0, .int .i64 0, .int .i64 0, .int .i64 0, .slice none 0 0]
  rw [World.size_alloc] at hy
  have HX := Lib.hid (hx.alloc (.cells #[.slice none 0 0, .slice none 0 0, .slice none 0 0, .int .i64 0, .int .i64 0, .int .i64 0, .slice none 0 0] 28))
  have HY := Lib.hid hy
  clear hx hy
  go_enter Tryz.func81, Tryz.ntmps81
  go_wp2
  apply or_asChase_ret (g := w.heap.size + 1) (h2 := rfl) (hd := rfl)
  case hb => first | with_reducible exact blk_two _ _ _ _ | with_reducible exact HY.out.put7 _ _ _ _ _ _ _
  case hR => exact ⟨rfl, by first | with_reducible exact below_two _ _ _ | with_reducible exact below_set7 HX.out.bel (by omega) _ _ _ _ _ _ _⟩
set_option maxRecDepth 100000 in
set_option maxHeartbeats 4000000 in
theorem r45_of (c : Chs) (A A1 A2 A3 D : Option Addr) (n n1 n2 n3 m ca ca1 ca2 ca3 k : Nat) (w : World) :
    Calls Tryz.prog 78 #[.agg #[.slice A n ca, .slice A1 n1 ca1, .slice A2 n2 ca2, .int .i64 c.over, .int .i64 c.done, .int .i64 c.need, .slice A3 n3 ca3], .slice D m k] w fun e w' => e = .returned (.agg #[.slice A n ca, .slice A1 n1 ca1, .slice A2 n2 ca2, .int .i64 c.over, .int .i64 c.done, .int .i64 c.need, .slice D m k]) ∧ Below w.heap.size w w' := by
  have hx := OTB.new w c (.slice A n ca) (.slice A1 n1 ca1) (.slice A2 n2 ca2) (.slice A3 n3 ca3)
  have hy := Blk.new (w.alloc (.cells #[.slice A n ca, .slice A1 n1 ca1, .slice A2 n2 ca2, .int .i64 c.over, .int .i64 c.done, .int .i64 c.need, .slice A3 n3 ca3] 42)) 28 #[.slice none 0 0, .slice none 0 0, .slice none 0 0, .int .i64 0, .int .i64 0, .int .i64 0, .slice none 0 0]
  rw [World.size_alloc] at hy
  have HX := Lib.hid (hx.alloc (.cells #[.slice none 0 0, .slice none 0 0, .slice none 0 0, .int .i64 0, .int .i64 0, .int .i64 0, .slice none 0 0] 28))
  have HY := Lib.hid hy
  clear hx hy
  go_enter Tryz.func78, Tryz.ntmps78
  go_wp2
  apply r45_of_ret (g := w.heap.size + 1) (h2 := rfl) (hd := rfl)
  case hb => first | with_reducible exact blk_two _ _ _ _ | with_reducible exact HY.out.put7 _ _ _ _ _ _ _
  case hR => exact ⟨rfl, by first | with_reducible exact below_two _ _ _ | with_reducible exact below_set7 HX.out.bel (by omega) _ _ _ _ _ _ _⟩
theorem two_zeros (W : World) : Sl 1 elInt (W.alloc (.cells #[.int .i64 0, .int .i64 0] 3)) (· < (W.alloc (.cells #[.int .i64 0, .int .i64 0] 3)).heap.size) (.slice (some ⟨W.heap.size, 0, none⟩) 2 2) [0, 0] := by
  have hk := Blk.new W 3 #[.int .i64 0, .int .i64 0]
  refine ⟨_, 2, rfl, Nat.le_refl _, by decide, fun h0 => ⟨W.heap.size, 0, rfl, by simp, fun i x hi => ?_⟩⟩
  have hlt := (List.getElem?_eq_some_iff.1 hi).1
  have hc : i = 0 ∨ i = 1 := by simp at hlt; omega
  rcases hc with rfl | rfl
  · simp at hi; subst hi
    refine ⟨[.int .i64 0], rfl, fun j u hu => ?_, rfl⟩
    obtain rfl : j = 0 := by have := (List.getElem?_eq_some_iff.1 hu).1; simp at this; omega
    simp at hu; subst hu; exact hk.cell 0
  · simp at hi; subst hi
    refine ⟨[.int .i64 0], rfl, fun j u hu => ?_, rfl⟩
    obtain rfl : j = 0 := by have := (List.getElem?_eq_some_iff.1 hu).1; simp at this; omega
    simp at hu; subst hu; exact hk.cell 1
set_option maxRecDepth 100000 in
set_option maxHeartbeats 4000000 in
theorem or_Check (c : Chs) (bv wv pv ov : Value) (w : World) (h : ChAt w (· < w.heap.size) bv wv pv ov c) :
    Calls Tryz.prog 39 #[chV c bv wv pv ov] w fun e w' => e = .returned (.int .i64 (checkO c)) ∧ Below w.heap.size w w' := by
  unfold chV
  obtain ⟨A, ca, rfl, hc1, hc2⟩ := h.mdl.bat.shape
  obtain ⟨A1, ca1, rfl, hc3, hc4⟩ := h.mdl.bow.shape
  obtain ⟨A2, ca2, rfl, hc5, hc6⟩ := h.bow.shape
  obtain ⟨A3, ca3, rfl, hc7, hc8⟩ := h.ord.shape
  have HX0 := Lib.hid (OTB.new w c (.slice A c.mdl.bats.length ca) (.slice A1 c.mdl.bows.length ca1) (.slice A2 c.bows.length ca2) (.slice A3 c.ord.length ca3))
  have HM := Lib.hid h
  obtain ⟨z, hz⟩ : ∃ z, z = checkO c := ⟨_, rfl⟩
  rw [← hz]
  unfold checkO at hz
  have k1 := fun W (hW : Below w.heap.size w W) => m_Check c.mdl _ _ W (HM.out.below hW).mdl
  have k2 := fun W (hW : Below w.heap.size w W) => ch44_Check (setC c []) (.slice A c.mdl.bats.length ca) (.slice A1 c.mdl.bows.length ca1) (.slice A2 c.bows.length ca2) (.slice none 0 0) W ⟨(HM.out.below hW).mdl, (HM.out.below hW).bow, Sl.nil _ _⟩
  have ka1 := fun W => or_asChase c A A1 A2 A3 none c.mdl.bats.length c.mdl.bows.length c.bows.length c.ord.length 0 ca ca1 ca2 ca3 0 W
  have k3 := fun W (hW : Below w.heap.size w W) => ch44_Check c _ _ _ _ W (HM.out.below hW)
  have ka2 := fun W => or_asChase c A A1 A2 A3 A3 c.mdl.bats.length c.mdl.bows.length c.bows.length c.ord.length c.ord.length ca ca1 ca2 ca3 ca3 W
  unfold chV at k2 k3
  have e3 : (setC c []).over = c.over ∧ (setC c []).done = c.done ∧ (setC c []).need = c.need := ⟨rfl, rfl, rfl⟩
  rw [e3.1, e3.2.1, e3.2.2] at k2
  obtain ⟨u, hu⟩ : ∃ u, u = checkM c.mdl := ⟨_, rfl⟩
  obtain ⟨v, hv⟩ : ∃ u, u = checkC (setC c []) := ⟨_, rfl⟩
  obtain ⟨q, hq⟩ : ∃ u, u = checkC c := ⟨_, rfl⟩
  rw [← hu] at k1 hz
  rw [← hv] at k2 hz
  rw [← hq] at k3 hz
  have K1 := Lib.hid k1
  have K2 := Lib.hid k2
  have K3 := Lib.hid k3
  have KA1 := Lib.hid ka1
  have KA2 := Lib.hid ka2
  have tok0 : True := trivial
  clear k1 k2 k3 ka1 ka2 hu hv hq h HM e3
  by_cases h0 : u = 0
  case neg =>
    rw [if_pos h0] at hz
    have HZ := Lib.hid hz
    have eu : (u != 0) = true := by simp [h0]
    clear hz h0
    go_enter Tryz.func39, Tryz.ntmps39
    go_wp2_with (clear tok0; go_at_call 80; refine (K1.out _ HX0.out.bel).mono ?_; rintro e w1 ⟨rfl, hb⟩; have HX1 := Lib.hid (HX0.out.below hb); obtain ⟨x0, x1, x2, x3, x4, x5, x6⟩ := HX1.out.cells; clear hb; have tok1 : True := trivial)
    go_ret
    exact ⟨ret_i HZ.out.symm, HX1.out.bel⟩
  have eu : (u != 0) = false := by simp [h0]
  rw [if_neg (by omega)] at hz
  clear h0
  by_cases h1 : 8 < c.bows.length
  · rw [if_pos h1] at hz
    have HZ := Lib.hid hz
    have g1 : (8 : Int) < c.bows.length := by omega
    clear hz
    go_enter Tryz.func39, Tryz.ntmps39
    go_wp2_with (clear tok0; go_at_call 80; refine (K1.out _ HX0.out.bel).mono ?_; rintro e w1 ⟨rfl, hb⟩; have HX1 := Lib.hid (HX0.out.below hb); obtain ⟨x0, x1, x2, x3, x4, x5, x6⟩ := HX1.out.cells; clear hb; have tok1 : True := trivial)
    go_ret
    exact ⟨ret_i HZ.out.symm, HX1.out.bel⟩
  rw [if_neg h1] at hz
  have g1 : ¬ (8 : Int) < c.bows.length := by omega
  by_cases h2 : v = 9
  case neg =>
    rw [if_pos h2] at hz
    have HZ := Lib.hid hz
    have ev : (v != 9) = true := by simp [h2]
    clear hz h2
    go_enter Tryz.func39, Tryz.ntmps39
    go_wp2_with (first
      | (clear tok0; go_at_call 80; refine (K1.out _ HX0.out.bel).mono ?_; rintro e w1 ⟨rfl, hb⟩; have HX1 := Lib.hid (HX0.out.below hb); obtain ⟨x0, x1, x2, x3, x4, x5, x6⟩ := HX1.out.cells; clear hb; have tok1 : True := trivial)
      | (clear tok1; go_at_call 81; refine (KA1.out _).mono ?_; rintro e w2 ⟨rfl, hb⟩; have HX2 := Lib.hid (HX1.out.below hb); clear x0 x1 x2 x3 x4 x5 x6; obtain ⟨x0, x1, x2, x3, x4, x5, x6⟩ := HX2.out.cells; clear hb; have tok2 : True := trivial)
      | (clear tok2; go_at_call 60; refine (K2.out _ HX2.out.bel).mono ?_; rintro e w3 ⟨rfl, hb⟩; have HX3 := Lib.hid (HX2.out.below hb); clear x0 x1 x2 x3 x4 x5 x6; obtain ⟨x0, x1, x2, x3, x4, x5, x6⟩ := HX3.out.cells; clear hb; have tok3 : True := trivial))
    go_ret
    exact ⟨ret_i HZ.out.symm, HX3.out.bel⟩
  rw [if_neg (by omega)] at hz
  have ev : (v != 9) = false := by simp [h2]
  clear h2
  by_cases h3 : 6 < c.ord.length
  · rw [if_pos h3] at hz
    have HZ := Lib.hid hz
    have g2 : (6 : Int) < c.ord.length := by omega
    clear hz
    go_enter Tryz.func39, Tryz.ntmps39
    go_wp2_with (first
      | (clear tok0; go_at_call 80; refine (K1.out _ HX0.out.bel).mono ?_; rintro e w1 ⟨rfl, hb⟩; have HX1 := Lib.hid (HX0.out.below hb); obtain ⟨x0, x1, x2, x3, x4, x5, x6⟩ := HX1.out.cells; clear hb; have tok1 : True := trivial)
      | (clear tok1; go_at_call 81; refine (KA1.out _).mono ?_; rintro e w2 ⟨rfl, hb⟩; have HX2 := Lib.hid (HX1.out.below hb); clear x0 x1 x2 x3 x4 x5 x6; obtain ⟨x0, x1, x2, x3, x4, x5, x6⟩ := HX2.out.cells; clear hb; have tok2 : True := trivial)
      | (clear tok2; go_at_call 60; refine (K2.out _ HX2.out.bel).mono ?_; rintro e w3 ⟨rfl, hb⟩; have HX3 := Lib.hid (HX2.out.below hb); clear x0 x1 x2 x3 x4 x5 x6; obtain ⟨x0, x1, x2, x3, x4, x5, x6⟩ := HX3.out.cells; clear hb; have tok3 : True := trivial))
    go_ret
    exact ⟨ret_i HZ.out.symm, HX3.out.bel⟩
  rw [if_neg h3] at hz
  have g2 : ¬ (6 : Int) < c.ord.length := by omega
  have HZ := Lib.hid hz
  clear hz
  go_enter Tryz.func39, Tryz.ntmps39
  go_wp2_with (first
    | (clear tok0; go_at_call 80; refine (K1.out _ HX0.out.bel).mono ?_; rintro e w1 ⟨rfl, hb⟩; have HX1 := Lib.hid (HX0.out.below hb); obtain ⟨x0, x1, x2, x3, x4, x5, x6⟩ := HX1.out.cells; clear hb; have tok1 : True := trivial)
    | (clear tok1; go_at_call 81; refine (KA1.out _).mono ?_; rintro e w2 ⟨rfl, hb⟩; have HX2 := Lib.hid (HX1.out.below hb); clear x0 x1 x2 x3 x4 x5 x6; obtain ⟨x0, x1, x2, x3, x4, x5, x6⟩ := HX2.out.cells; clear hb; have tok2 : True := trivial)
    | (clear tok2; go_at_call 60; refine (K2.out _ HX2.out.bel).mono ?_; rintro e w3 ⟨rfl, hb⟩; have HX3 := Lib.hid (HX2.out.below hb); clear x0 x1 x2 x3 x4 x5 x6; obtain ⟨x0, x1, x2, x3, x4, x5, x6⟩ := HX3.out.cells; clear hb; have tok3 : True := trivial)
    | (clear tok3; go_at_call 81; refine (KA2.out _).mono ?_; rintro e w4 ⟨rfl, hb⟩; have HX4 := Lib.hid (HX3.out.below hb); clear x0 x1 x2 x3 x4 x5 x6; obtain ⟨x0, x1, x2, x3, x4, x5, x6⟩ := HX4.out.cells; clear hb; have tok4 : True := trivial)
    | (clear tok4; go_at_call 60; refine (K3.out _ HX4.out.bel).mono ?_; rintro e w5 ⟨rfl, hb⟩; have HX5 := Lib.hid (HX4.out.below hb); clear x0 x1 x2 x3 x4 x5 x6; obtain ⟨x0, x1, x2, x3, x4, x5, x6⟩ := HX5.out.cells; clear hb; have tok5 : True := trivial))
  go_ret
  exact ⟨ret_i HZ.out.symm, HX5.out.bel⟩
set_option maxRecDepth 100000 in
set_option maxHeartbeats 4000000 in
theorem r45_Check (c : Chs) (bv wv pv ov : Value) (w : World) (h : ChAt w (· < w.heap.size) bv wv pv ov c) :
    Calls Tryz.prog 35 #[chV c bv wv pv ov] w fun e w' => e = .returned (.int .i64 (checkOr c)) ∧ Below w.heap.size w w' := by
  unfold chV
  obtain ⟨A, ca, rfl, hc1, hc2⟩ := h.mdl.bat.shape
  obtain ⟨A1, ca1, rfl, hc3, hc4⟩ := h.mdl.bow.shape
  obtain ⟨A2, ca2, rfl, hc5, hc6⟩ := h.bow.shape
  obtain ⟨A3, ca3, rfl, hc7, hc8⟩ := h.ord.shape
  have HX0 := Lib.hid (OTB.new w c (.slice A c.mdl.bats.length ca) (.slice A1 c.mdl.bows.length ca1) (.slice A2 c.bows.length ca2) (.slice A3 c.ord.length ca3))
  have HM := Lib.hid h
  obtain ⟨z, hz⟩ : ∃ z, z = checkOr c := ⟨_, rfl⟩
  rw [← hz]
  unfold checkOr at hz
  have k1 := fun W (hW : Below w.heap.size w W) => r_Check c.mdl _ _ W (HM.out.below hW).mdl
  have k2 := fun (g : Nat) W (hW : Below w.heap.size w W) (hl : Sl 1 elInt W (· < W.heap.size) (.slice (some ⟨g, 0, none⟩) 2 2) [0, 0]) => r44_Check (setC c [0, 0]) (.slice A c.mdl.bats.length ca) (.slice A1 c.mdl.bows.length ca1) (.slice A2 c.bows.length ca2) (.slice (some ⟨g, 0, none⟩) 2 2) W ⟨(HM.out.below hW).mdl, (HM.out.below hW).bow, hl⟩
  have ka1 := fun (g : Nat) W => r45_of c A A1 A2 A3 (some ⟨g, 0, none⟩) c.mdl.bats.length c.mdl.bows.length c.bows.length c.ord.length 2 ca ca1 ca2 ca3 2 W
  have k3 := fun W (hW : Below w.heap.size w W) => r44_Check c _ _ _ _ W (HM.out.below hW)
  have ka2 := fun W => r45_of c A A1 A2 A3 A3 c.mdl.bats.length c.mdl.bows.length c.bows.length c.ord.length c.ord.length ca ca1 ca2 ca3 ca3 W
  unfold chV at k2 k3
  have e3 : (setC c [0, 0]).over = c.over ∧ (setC c [0, 0]).done = c.done ∧ (setC c [0, 0]).need = c.need := ⟨rfl, rfl, rfl⟩
  rw [e3.1, e3.2.1, e3.2.2] at k2
  obtain ⟨u, hu⟩ : ∃ u, u = checkM c.mdl := ⟨_, rfl⟩
  obtain ⟨v, hv⟩ : ∃ u, u = checkC (setC c [0, 0]) := ⟨_, rfl⟩
  obtain ⟨q, hq⟩ : ∃ u, u = checkC c := ⟨_, rfl⟩
  rw [← hu] at k1 hz
  rw [← hv] at k2 hz
  rw [← hq] at k3 hz
  have K1 := Lib.hid k1
  have K2 := Lib.hid k2
  have K3 := Lib.hid k3
  have KA1 := Lib.hid ka1
  have KA2 := Lib.hid ka2
  have tok0 : True := trivial
  clear k1 k2 k3 ka1 ka2 hu hv hq h HM e3
  by_cases h0 : u = 0
  case neg =>
    rw [if_pos h0] at hz
    have HZ := Lib.hid hz
    have eu : (u != 0) = true := by simp [h0]
    clear hz h0
    go_enter Tryz.func35, Tryz.ntmps35
    go_wp2_with (clear tok0; go_at_call 77; refine (K1.out _ HX0.out.bel).mono ?_; rintro e w1 ⟨rfl, hb⟩; have HX1 := Lib.hid (HX0.out.below hb); obtain ⟨x0, x1, x2, x3, x4, x5, x6⟩ := HX1.out.cells; clear hb; have tok1 : True := trivial)
    go_ret
    exact ⟨ret_i HZ.out.symm, HX1.out.bel⟩
  have eu : (u != 0) = false := by simp [h0]
  rw [if_neg (by omega)] at hz
  clear h0
  by_cases h1 : 8 < c.bows.length
  · rw [if_pos h1] at hz
    have HZ := Lib.hid hz
    have g1 : (8 : Int) < c.bows.length := by omega
    clear hz
    go_enter Tryz.func35, Tryz.ntmps35
    go_wp2_with (clear tok0; go_at_call 77; refine (K1.out _ HX0.out.bel).mono ?_; rintro e w1 ⟨rfl, hb⟩; have HX1 := Lib.hid (HX0.out.below hb); obtain ⟨x0, x1, x2, x3, x4, x5, x6⟩ := HX1.out.cells; clear hb; have tok1 : True := trivial)
    go_ret
    exact ⟨ret_i HZ.out.symm, HX1.out.bel⟩
  rw [if_neg h1] at hz
  have g1 : ¬ (8 : Int) < c.bows.length := by omega
  by_cases h2 : v = 7
  case neg =>
    rw [if_pos h2] at hz
    have HZ := Lib.hid hz
    have ev : (v != 7) = true := by simp [h2]
    clear hz h2
    go_enter Tryz.func35, Tryz.ntmps35
    go_wp2_with (first
      | (clear tok0; go_at_call 77; refine (K1.out _ HX0.out.bel).mono ?_; rintro e w1 ⟨rfl, hb⟩; have HX1 := Lib.hid (HX0.out.below hb); obtain ⟨x0, x1, x2, x3, x4, x5, x6⟩ := HX1.out.cells; clear hb; have tok1 : True := trivial)
      | (clear tok1; go_at_call 78; refine (KA1.out _ _).mono ?_; rintro e w2 ⟨rfl, hb⟩; have HI2 := Lib.hid ((two_zeros w1).keep (G := (· < w2.heap.size)) elInt_good (Same.of_below hb) fun b h => Nat.lt_of_lt_of_le h hb.size); have HX2 := Lib.hid ((HX1.out.alloc (.cells #[.int .i64 0, .int .i64 0] 3)).below hb); clear x0 x1 x2 x3 x4 x5 x6; obtain ⟨x0, x1, x2, x3, x4, x5, x6⟩ := HX2.out.cells; clear hb; have tok2 : True := trivial)
      | (clear tok2; go_at_call 62; refine (K2.out _ _ HX2.out.bel HI2.out).mono ?_; rintro e w3 ⟨rfl, hb⟩; have HX3 := Lib.hid (HX2.out.below hb); clear x0 x1 x2 x3 x4 x5 x6; obtain ⟨x0, x1, x2, x3, x4, x5, x6⟩ := HX3.out.cells; clear hb; have tok3 : True := trivial))
    go_ret
    exact ⟨ret_i HZ.out.symm, HX3.out.bel⟩
  rw [if_neg (by omega)] at hz
  have ev : (v != 7) = false := by simp [h2]
  clear h2
  by_cases h3 : 6 < c.ord.length
  · rw [if_pos h3] at hz
    have HZ := Lib.hid hz
    have g2 : (6 : Int) < c.ord.length := by omega
    clear hz
    go_enter Tryz.func35, Tryz.ntmps35
    go_wp2_with (first
      | (clear tok0; go_at_call 77; refine (K1.out _ HX0.out.bel).mono ?_; rintro e w1 ⟨rfl, hb⟩; have HX1 := Lib.hid (HX0.out.below hb); obtain ⟨x0, x1, x2, x3, x4, x5, x6⟩ := HX1.out.cells; clear hb; have tok1 : True := trivial)
      | (clear tok1; go_at_call 78; refine (KA1.out _ _).mono ?_; rintro e w2 ⟨rfl, hb⟩; have HI2 := Lib.hid ((two_zeros w1).keep (G := (· < w2.heap.size)) elInt_good (Same.of_below hb) fun b h => Nat.lt_of_lt_of_le h hb.size); have HX2 := Lib.hid ((HX1.out.alloc (.cells #[.int .i64 0, .int .i64 0] 3)).below hb); clear x0 x1 x2 x3 x4 x5 x6; obtain ⟨x0, x1, x2, x3, x4, x5, x6⟩ := HX2.out.cells; clear hb; have tok2 : True := trivial)
      | (clear tok2; go_at_call 62; refine (K2.out _ _ HX2.out.bel HI2.out).mono ?_; rintro e w3 ⟨rfl, hb⟩; have HX3 := Lib.hid (HX2.out.below hb); clear x0 x1 x2 x3 x4 x5 x6; obtain ⟨x0, x1, x2, x3, x4, x5, x6⟩ := HX3.out.cells; clear hb; have tok3 : True := trivial))
    go_ret
    exact ⟨ret_i HZ.out.symm, HX3.out.bel⟩
  rw [if_neg h3] at hz
  have g2 : ¬ (6 : Int) < c.ord.length := by omega
  have HZ := Lib.hid hz
  clear hz
  go_enter Tryz.func35, Tryz.ntmps35
  go_wp2_with (first
    | (clear tok0; go_at_call 77; refine (K1.out _ HX0.out.bel).mono ?_; rintro e w1 ⟨rfl, hb⟩; have HX1 := Lib.hid (HX0.out.below hb); obtain ⟨x0, x1, x2, x3, x4, x5, x6⟩ := HX1.out.cells; clear hb; have tok1 : True := trivial)
    | (clear tok1; go_at_call 78; refine (KA1.out _ _).mono ?_; rintro e w2 ⟨rfl, hb⟩; have HI2 := Lib.hid ((two_zeros w1).keep (G := (· < w2.heap.size)) elInt_good (Same.of_below hb) fun b h => Nat.lt_of_lt_of_le h hb.size); have HX2 := Lib.hid ((HX1.out.alloc (.cells #[.int .i64 0, .int .i64 0] 3)).below hb); clear x0 x1 x2 x3 x4 x5 x6; obtain ⟨x0, x1, x2, x3, x4, x5, x6⟩ := HX2.out.cells; clear hb; have tok2 : True := trivial)
    | (clear tok2; go_at_call 62; refine (K2.out _ _ HX2.out.bel HI2.out).mono ?_; rintro e w3 ⟨rfl, hb⟩; have HX3 := Lib.hid (HX2.out.below hb); clear x0 x1 x2 x3 x4 x5 x6; obtain ⟨x0, x1, x2, x3, x4, x5, x6⟩ := HX3.out.cells; clear hb; have tok3 : True := trivial)
    | (clear tok3; go_at_call 78; refine (KA2.out _).mono ?_; rintro e w4 ⟨rfl, hb⟩; have HX4 := Lib.hid (HX3.out.below hb); clear x0 x1 x2 x3 x4 x5 x6; obtain ⟨x0, x1, x2, x3, x4, x5, x6⟩ := HX4.out.cells; clear hb; have tok4 : True := trivial)
    | (clear tok4; go_at_call 62; refine (K3.out _ HX4.out.bel).mono ?_; rintro e w5 ⟨rfl, hb⟩; have HX5 := Lib.hid (HX4.out.below hb); clear x0 x1 x2 x3 x4 x5 x6; obtain ⟨x0, x1, x2, x3, x4, x5, x6⟩ := HX5.out.cells; clear hb; have tok5 : True := trivial))
  go_ret
  exact ⟨ret_i HZ.out.symm, HX5.out.bel⟩
end Go.Proofs.YtdlmmbfnmnglaaaGreatDoor

namespace Go.Proofs.YtdlmmbfnmnglaaaGreatDoor
open Go.ChangeShapes Go.WideShapes Go.ChangeAt Go.RowKit

theorem cellsTsk : Tryz.prog.cellsOf 42 = 7 := by kernel_rfl
theorem cellsOst : Tryz.prog.cellsOf 45 = 5 := by kernel_rfl
theorem cellsU16 : Tryz.prog.cellsOf 43 = 1 := by kernel_rfl
section
variable {H : Type} {enc : TypeId × Value → H} {W : World}
theorem bounds_u16 {n : Int} (h : (Lit.int .u16 n).wf = true) : 0 ≤ n ∧ n ≤ 65535 := by
  simp [Lit.wf, IntKind.min, IntKind.max, IntKind.signed, IntKind.bits] at h
  omega
set_option maxRecDepth 100000 in
/-- A task that came in. -/
theorem open_task {r : Reach} {b0 : Nat} {v : Value} {d : DataW H} {p : List MemPlace} (hv : Value.okWide Tryz.prog W r b0 42 v) (h : DataW.Trod enc Tryz.prog W 0 (fun _ => true) true 42 v d p) :
    ∃ (c : Chs) (bv wv pv ov : Value), v = chV c bv wv pv ov ∧ ChAt W (· < W.heap.size) bv wv pv ov c := by
  obtain ⟨cs, rfl, hsz⟩ := okWide_struct Tryz.underlying42 hv
  obtain ⟨fuel, hf⟩ := h
  obtain ⟨l⟩ := cs
  match l, hsz.trans cellsTsk with
  | [c0, c1, c2, c3, c4, c5, c6], _ =>
    obtain ⟨ys, n, _, _, _, hl, hf⟩ := DataW.trod_struct Tryz.underlying42 hf
    match ys, hl with
    | [z0, z1, z2, z3, z4, z5], _ =>
      have k0 := hf 0 _ rfl
      have k1 := hf 1 _ rfl
      have k2 := hf 2 _ rfl
      have k3 := hf 3 _ rfl
      have k4 := hf 4 _ rfl
      have k5 := hf 5 _ rfl
      obtain ⟨m, bv, wv, e0, hm⟩ := mdl_raw k0
      obtain ⟨pv, lp, e1, hp⟩ := sl_raw (size := 1) (el := elInt) Tryz.underlying26 cellsI' (by decide) (fun h => int_one8 h) k1
      obtain ⟨a2, e2, _, _⟩ := DataW.trod_int Tryz.underlying3 k2
      obtain ⟨a3, e3, _, _⟩ := DataW.trod_int Tryz.underlying3 k3
      obtain ⟨a4, e4, _, _⟩ := DataW.trod_int Tryz.underlying3 k4
      obtain ⟨ov, lo, e5, ho⟩ := sl_raw (size := 1) (el := elInt) Tryz.underlying26 cellsI' (by decide) (fun h => int_one8 h) k5
      have g0 : c0 = bv ∧ c1 = wv := by simpa [Value.cells, cellsMdl, cellsI', cellsIs] using e0
      have g2 : c2 = pv := by simpa [Value.cells, cellsMdl, cellsI', cellsIs] using e1
      have g3 : c3 = .int .i64 a2 := by simpa [Value.cells, cellsMdl, cellsI', cellsIs] using e2
      have g4 : c4 = .int .i64 a3 := by simpa [Value.cells, cellsMdl, cellsI', cellsIs] using e3
      have g5 : c5 = .int .i64 a4 := by simpa [Value.cells, cellsMdl, cellsI', cellsIs] using e4
      have g6 : c6 = ov := by simpa [Value.cells, cellsMdl, cellsI', cellsIs] using e5
      obtain ⟨g0, g1⟩ := g0
      subst g0 g1 g2 g3 g4 g5 g6
      exact ⟨⟨m, lp, a2, a3, a4, lo⟩, _, _, _, _, rfl, ⟨hm, hp, ho⟩⟩
end
end Go.Proofs.YtdlmmbfnmnglaaaGreatDoor

namespace Go.Proofs.YtdlmmbfnmnglaaaGreatDoor

end Go.Proofs.YtdlmmbfnmnglaaaGreatDoor

namespace Go.Proofs.YtdlmmbfnmnglaaaGreatDoor
open Go.RowKit

set_option maxRecDepth 100000 in
theorem or_within (n lo hi : Int) (b : Bool) (hb : outC.inC n lo hi = b) (w : World) : Calls Tryz.prog 82 #[.int .i64 n, .int .i64 lo, .int .i64 hi] w fun e w' => e = .returned (.bool b) ∧ w' = w := by
  have HB := Lib.hid hb.symm
  unfold outC.inC at HB
  clear hb
  by_cases h1 : lo ≤ n
  · by_cases h2 : n ≤ hi
    · go_enter Tryz.func82, Tryz.ntmps82
      go_wp2
      go_ret
      exact ⟨ret_b (by rw [HB.out]; simp [h1, h2]), rfl⟩
    · go_enter Tryz.func82, Tryz.ntmps82
      go_wp2
      go_ret
      exact ⟨ret_b (by rw [HB.out]; simp [h1, h2]), rfl⟩
  · go_enter Tryz.func82, Tryz.ntmps82
    go_wp2
    go_ret
    exact ⟨ret_b (by rw [HB.out]; simp; omega), rfl⟩
set_option maxRecDepth 100000 in
set_option maxHeartbeats 1000000 in
theorem r45_waits (s : Ost) (i : Int) (w : World) (hw : 0 ≤ s.wait ∧ s.wait < 65536) (hi : 0 ≤ i ∧ i < 16) :
    Calls Tryz.prog 92 #[osV s, .int .i64 i] w fun e w' => e = .returned (.bool (bitW s.wait i)) ∧ Below w.heap.size w w' := by
  obtain ⟨a, b, c, d, wt⟩ := s
  obtain ⟨hi1, hi2⟩ := hi
  obtain ⟨hw1, hw2⟩ := hw
  unfold osV
  dsimp only at hw1 hw2 ⊢
  go_enter Tryz.func92, Tryz.ntmps92
  go_wp2
  go_ret
  exact ⟨rfl, Below.alloc (Below.refl _ _) (Nat.le_refl _) _⟩
set_option maxRecDepth 100000 in
set_option maxHeartbeats 1000000 in
theorem or_vacant (s : Ost) (w : World) : Calls Tryz.prog 88 #[osV s] w fun e w' => e = .returned (.bool (vacO s)) ∧ Below w.heap.size w w' := by
  obtain ⟨a, b, c, d, wt⟩ := s
  obtain ⟨z, hz⟩ : ∃ z, z = vacO ⟨a, b, c, d, wt⟩ := ⟨_, rfl⟩
  rw [← hz]
  unfold vacO at hz
  unfold osV
  dsimp only at hz ⊢
  by_cases h1 : c < 0
  · have HZ := Lib.hid (show z = true by rw [hz]; simp [h1])
    clear hz
    go_enter Tryz.func88, Tryz.ntmps88
    go_wp2
    go_ret
    exact ⟨ret_b HZ.out.symm, Below.alloc (Below.refl _ _) (Nat.le_refl _) _⟩
  by_cases h2 : d < 0
  · have HZ := Lib.hid (show z = true by rw [hz]; simp [h2])
    clear hz
    go_enter Tryz.func88, Tryz.ntmps88
    go_wp2
    go_ret
    exact ⟨ret_b HZ.out.symm, Below.alloc (Below.refl _ _) (Nat.le_refl _) _⟩
  · have HZ := Lib.hid (show z = false by rw [hz]; simp; omega)
    clear hz
    go_enter Tryz.func88, Tryz.ntmps88
    go_wp2
    go_ret
    exact ⟨ret_b HZ.out.symm, Below.alloc (Below.refl _ _) (Nat.le_refl _) _⟩
set_option maxRecDepth 100000 in
set_option maxHeartbeats 1000000 in
theorem or_ended (c : Chs) (s : Ost) (bv wv pv ov : Value) (w : World) (h : ChAt w (· < w.heap.size) bv wv pv ov c) : Calls Tryz.prog 87 #[chV c bv wv pv ov, osV s] w fun e w' => e = .returned (.bool (endO c s)) ∧ Below w.heap.size w w' := by
  unfold chV osV
  obtain ⟨ball, need, str, par, wait⟩ := s
  obtain ⟨A, ca, rfl, hc1, hc2⟩ := h.mdl.bat.shape
  obtain ⟨A1, ca1, rfl, hc3, hc4⟩ := h.mdl.bow.shape
  obtain ⟨A2, ca2, rfl, hc5, hc6⟩ := h.bow.shape
  obtain ⟨A3, ca3, rfl, hc7, hc8⟩ := h.ord.shape
  have HX := Lib.hid (OSB.new w c (.slice A c.mdl.bats.length ca) (.slice A1 c.mdl.bows.length ca1) (.slice A2 c.bows.length ca2) (.slice A3 c.ord.length ca3) ⟨ball, need, str, par, wait⟩)
  obtain ⟨z, hz⟩ : ∃ z, z = endO c ⟨ball, need, str, par, wait⟩ := ⟨_, rfl⟩
  rw [← hz]
  unfold endO at hz
  dsimp only at hz ⊢
  by_cases h1 : need = 0
  · have HZ := Lib.hid (show z = true by rw [hz]; simp [h1])
    have e1 : (need == 0) = true := beq_iff_eq.2 h1
    clear hz h h1
    go_enter Tryz.func87, Tryz.ntmps87
    go_wp2
    go_ret
    exact ⟨ret_b HZ.out.symm, HX.out.bel⟩
  have e1 : (need == 0) = false := beq_eq_false_iff_ne.2 h1
  by_cases h2 : ball = c.bows.length
  · have HZ := Lib.hid (show z = true by rw [hz]; simp [h2])
    have e2 : (ball == (c.bows.length : Int)) = true := beq_iff_eq.2 h2
    clear hz h h1 h2
    go_enter Tryz.func87, Tryz.ntmps87
    go_wp2
    go_ret
    exact ⟨ret_b HZ.out.symm, HX.out.bel⟩
  · have HZ := Lib.hid (show z = false by rw [hz]; simp [h1, h2])
    have e2 : (ball == (c.bows.length : Int)) = false := beq_eq_false_iff_ne.2 h2
    clear hz h h1 h2
    go_enter Tryz.func87, Tryz.ntmps87
    go_wp2
    go_ret
    exact ⟨ret_b HZ.out.symm, HX.out.bel⟩
set_option maxRecDepth 100000 in
set_option maxHeartbeats 20000000 in
theorem or_checkState (c : Chs) (s : Ost) (bv wv pv ov : Value) (w : World) (h : ChAt w (· < w.heap.size) bv wv pv ov c) (ht : OkT c) (hw : 0 ≤ s.wait ∧ s.wait < 65536) :
    Calls Tryz.prog 40 #[chV c bv wv pv ov, osV s] w fun e w' => e = .returned (.int .i64 (stateO c s)) ∧ Below w.heap.size w w' := by
  unfold chV osV
  obtain ⟨ball, need, str, par, wait⟩ := s
  obtain ⟨A, ca, rfl, hc1, hc2⟩ := h.mdl.bat.shape
  obtain ⟨A1, ca1, rfl, hc3, hc4⟩ := h.mdl.bow.shape
  obtain ⟨A2, ca2, rfl, hc5, hc6⟩ := h.bow.shape
  obtain ⟨A3, ca3, rfl, hc7, hc8⟩ := h.ord.shape
  have HX := Lib.hid (OSB.new w c (.slice A c.mdl.bats.length ca) (.slice A1 c.mdl.bows.length ca1) (.slice A2 c.bows.length ca2) (.slice A3 c.ord.length ca3) ⟨ball, need, str, par, wait⟩)
  have HM := Lib.hid h
  obtain ⟨z, hz⟩ : ∃ z, z = stateO c ⟨ball, need, str, par, wait⟩ := ⟨_, rfl⟩
  rw [← hz]
  have hnp := ht.np
  have hnb := ht.nb
  dsimp only at hw
  have hbad : outO c ⟨ball, need, str, par, wait⟩ = true → z = 2 := fun h => by rw [hz]; unfold stateO; rw [if_pos h]
  have harg : outO c ⟨ball, need, str, par, wait⟩ = false → str = par → z = 1 := fun h h2 => by rw [hz]; unfold stateO; rw [if_neg (by simp [h]), if_pos h2]
  have hex : outO c ⟨ball, need, str, par, wait⟩ = false → str ≠ par → bothO ⟨ball, need, str, par, wait⟩ = true → z = 7 := fun h h2 h3 => by rw [hz]; unfold stateO; rw [if_neg (by simp [h]), if_neg h2, if_pos h3]
  have hok : outO c ⟨ball, need, str, par, wait⟩ = false → str ≠ par → bothO ⟨ball, need, str, par, wait⟩ = false → z = 0 := fun h h2 h3 => by rw [hz]; unfold stateO; rw [if_neg (by simp [h]), if_neg h2, if_neg (by simp [h3])]
  obtain ⟨hw1, hw2⟩ := hw
  obtain ⟨hnp1, hnp2⟩ := hnp
  clear h hz ht
  cases b0 : outC.inC ball 0 c.bows.length
  · have HZ := Lib.hid (hbad (by unfold outO; simp [b0]))
    clear hbad harg hex hok
    go_enter Tryz.func40, Tryz.ntmps40
    go_wp2_with (go_at_call 82; refine (or_within _ _ _ _ (by first | exact b0 | exact b1 | exact b2 | exact b3) _).mono ?_; rintro e w2 ⟨rfl, rfl⟩)
    go_ret
    exact ⟨ret_i HZ.out.symm, HX.out.bel⟩
  cases b1 : outC.inC need 0 c.need
  · have HZ := Lib.hid (hbad (by unfold outO; simp [b0, b1]))
    clear hbad harg hex hok
    go_enter Tryz.func40, Tryz.ntmps40
    go_wp2_with (go_at_call 82; refine (or_within _ _ _ _ (by first | exact b0 | exact b1 | exact b2 | exact b3) _).mono ?_; rintro e w2 ⟨rfl, rfl⟩)
    go_ret
    exact ⟨ret_i HZ.out.symm, HX.out.bel⟩
  cases b2 : outC.inC str (-1) (c.ord.length - 1)
  · have HZ := Lib.hid (hbad (by unfold outO; simp [b0, b1, b2]))
    clear hbad harg hex hok
    go_enter Tryz.func40, Tryz.ntmps40
    go_wp2_with (go_at_call 82; refine (or_within _ _ _ _ (by first | exact b0 | exact b1 | exact b2 | exact b3) _).mono ?_; rintro e w2 ⟨rfl, rfl⟩)
    go_ret
    exact ⟨ret_i HZ.out.symm, HX.out.bel⟩
  cases b3 : outC.inC par (-1) (c.ord.length - 1)
  · have HZ := Lib.hid (hbad (by unfold outO; simp [b0, b1, b2, b3]))
    clear hbad harg hex hok
    go_enter Tryz.func40, Tryz.ntmps40
    go_wp2_with (go_at_call 82; refine (or_within _ _ _ _ (by first | exact b0 | exact b1 | exact b2 | exact b3) _).mono ?_; rintro e w2 ⟨rfl, rfl⟩)
    go_ret
    exact ⟨ret_i HZ.out.symm, HX.out.bel⟩
  have p0 := (show 0 ≤ ball ∧ ball ≤ c.bows.length by have := b0; unfold outC.inC at this; simpa using this)
  obtain ⟨p0a, p0b⟩ := p0
  have p1 := (show 0 ≤ need ∧ need ≤ c.need by have := b1; unfold outC.inC at this; simpa using this)
  obtain ⟨p1a, p1b⟩ := p1
  have p2 := (show -1 ≤ str ∧ str ≤ c.ord.length - 1 by have := b2; unfold outC.inC at this; simpa using this)
  obtain ⟨p2a, p2b⟩ := p2
  have p3 := (show -1 ≤ par ∧ par ≤ c.ord.length - 1 by have := b3; unfold outC.inC at this; simpa using this)
  obtain ⟨p3a, p3b⟩ := p3
  cases b4 : (wait / 2 ^ c.ord.length == 0)
  · have HZ := Lib.hid (hbad (by unfold outO shrW; simp [b0, b1, b2, b3]; simpa using b4))
    have b5 : (wait / 2 ^ c.ord.length != 0) = true := by simp only [bne, b4]; rfl
    clear hbad harg hex hok
    go_enter Tryz.func40, Tryz.ntmps40
    go_wp2_with (go_at_call 82; refine (or_within _ _ _ _ (by first | exact b0 | exact b1 | exact b2 | exact b3) _).mono ?_; rintro e w2 ⟨rfl, rfl⟩)
    go_ret
    exact ⟨ret_i HZ.out.symm, HX.out.bel⟩
  have b5 : (wait / 2 ^ c.ord.length != 0) = false := by simp only [bne, b4]; rfl
  have ho : outO c ⟨ball, need, str, par, wait⟩ = false := by unfold outO shrW; simp [b0, b1, b2, b3]; simpa using b4
  by_cases h1 : str = par
  · have HZ := Lib.hid (harg ho h1)
    have e1 : (str == par) = true := beq_iff_eq.2 h1
    have h1' := Lib.hid h1
    clear hbad harg hex hok ho h1
    go_enter Tryz.func40, Tryz.ntmps40
    go_wp2_with (go_at_call 82; refine (or_within _ _ _ _ (by first | exact b0 | exact b1 | exact b2 | exact b3) _).mono ?_; rintro e w2 ⟨rfl, rfl⟩)
    go_ret
    exact ⟨ret_i HZ.out.symm, HX.out.bel⟩
  have e1 : (str == par) = false := beq_eq_false_iff_ne.2 h1
  have hbo : bothO ⟨ball, need, str, par, wait⟩ = ((decide (0 ≤ str) && bitW wait str) || (decide (0 ≤ par) && bitW wait par)) := rfl
  by_cases d1 : 0 ≤ str
  · cases c1 : bitW wait str
    · have f1 : (bits .and .u16 (wait / 2 ^ str.toNat) 1 == 1) = false := c1
      by_cases d2 : 0 ≤ par
      · cases c2 : bitW wait par
        · have f2 : (bits .and .u16 (wait / 2 ^ par.toNat) 1 == 1) = false := c2
          have HZ := Lib.hid (hok ho h1 (by rw [hbo]; simp [c1, c2]))
          clear hbad harg hex hok ho h1 hbo
          go_enter Tryz.func40, Tryz.ntmps40
          have tok0 : True := trivial
          go_wp2_with (go_at_call 82; refine (or_within _ _ _ _ (by first | exact b0 | exact b1 | exact b2 | exact b3) _).mono ?_; rintro e w2 ⟨rfl, rfl⟩)
          go_ret
          first | exact ⟨ret_i HZ.out.symm, HX3.out.bel⟩ | exact ⟨ret_i HZ.out.symm, HX2.out.bel⟩ | exact ⟨ret_i HZ.out.symm, HX.out.bel⟩
        · have f2 : (bits .and .u16 (wait / 2 ^ par.toNat) 1 == 1) = true := c2
          have HZ := Lib.hid (hex ho h1 (by rw [hbo]; simp [c1, c2, d2]))
          clear hbad harg hex hok ho h1 hbo
          go_enter Tryz.func40, Tryz.ntmps40
          have tok0 : True := trivial
          go_wp2_with (go_at_call 82; refine (or_within _ _ _ _ (by first | exact b0 | exact b1 | exact b2 | exact b3) _).mono ?_; rintro e w2 ⟨rfl, rfl⟩)
          go_ret
          first | exact ⟨ret_i HZ.out.symm, HX3.out.bel⟩ | exact ⟨ret_i HZ.out.symm, HX2.out.bel⟩ | exact ⟨ret_i HZ.out.symm, HX.out.bel⟩
      · skip
        have HZ := Lib.hid (hok ho h1 (by rw [hbo]; simp [c1, d2]))
        clear hbad harg hex hok ho h1 hbo
        go_enter Tryz.func40, Tryz.ntmps40
        have tok0 : True := trivial
        go_wp2_with (go_at_call 82; refine (or_within _ _ _ _ (by first | exact b0 | exact b1 | exact b2 | exact b3) _).mono ?_; rintro e w2 ⟨rfl, rfl⟩)
        go_ret
        first | exact ⟨ret_i HZ.out.symm, HX3.out.bel⟩ | exact ⟨ret_i HZ.out.symm, HX2.out.bel⟩ | exact ⟨ret_i HZ.out.symm, HX.out.bel⟩
    · have f1 : (bits .and .u16 (wait / 2 ^ str.toNat) 1 == 1) = true := c1
      have HZ := Lib.hid (hex ho h1 (by rw [hbo]; simp [c1, d1]))
      clear hbad harg hex hok ho h1 hbo
      go_enter Tryz.func40, Tryz.ntmps40
      have tok0 : True := trivial
      go_wp2_with (go_at_call 82; refine (or_within _ _ _ _ (by first | exact b0 | exact b1 | exact b2 | exact b3) _).mono ?_; rintro e w2 ⟨rfl, rfl⟩)
      go_ret
      first | exact ⟨ret_i HZ.out.symm, HX3.out.bel⟩ | exact ⟨ret_i HZ.out.symm, HX2.out.bel⟩ | exact ⟨ret_i HZ.out.symm, HX.out.bel⟩
  · by_cases d2 : 0 ≤ par
    · cases c2 : bitW wait par
      · have f2 : (bits .and .u16 (wait / 2 ^ par.toNat) 1 == 1) = false := c2
        have HZ := Lib.hid (hok ho h1 (by rw [hbo]; simp [c2, d1]))
        clear hbad harg hex hok ho h1 hbo
        go_enter Tryz.func40, Tryz.ntmps40
        have tok0 : True := trivial
        go_wp2_with (go_at_call 82; refine (or_within _ _ _ _ (by first | exact b0 | exact b1 | exact b2 | exact b3) _).mono ?_; rintro e w2 ⟨rfl, rfl⟩)
        go_ret
        first | exact ⟨ret_i HZ.out.symm, HX3.out.bel⟩ | exact ⟨ret_i HZ.out.symm, HX2.out.bel⟩ | exact ⟨ret_i HZ.out.symm, HX.out.bel⟩
      · have f2 : (bits .and .u16 (wait / 2 ^ par.toNat) 1 == 1) = true := c2
        have HZ := Lib.hid (hex ho h1 (by rw [hbo]; simp [c2, d1, d2]))
        clear hbad harg hex hok ho h1 hbo
        go_enter Tryz.func40, Tryz.ntmps40
        have tok0 : True := trivial
        go_wp2_with (go_at_call 82; refine (or_within _ _ _ _ (by first | exact b0 | exact b1 | exact b2 | exact b3) _).mono ?_; rintro e w2 ⟨rfl, rfl⟩)
        go_ret
        first | exact ⟨ret_i HZ.out.symm, HX3.out.bel⟩ | exact ⟨ret_i HZ.out.symm, HX2.out.bel⟩ | exact ⟨ret_i HZ.out.symm, HX.out.bel⟩
    · exfalso; omega
set_option maxRecDepth 100000 in
set_option maxHeartbeats 20000000 in
theorem r45_checkState (c : Chs) (s : Ost) (bv wv pv ov : Value) (w : World) (h : ChAt w (· < w.heap.size) bv wv pv ov c) (ht : OkT c) (hw : 0 ≤ s.wait ∧ s.wait < 65536) :
    Calls Tryz.prog 46 #[chV c bv wv pv ov, osV s] w fun e w' => e = .returned (.int .i64 (stateO c s)) ∧ Below w.heap.size w w' := by
  unfold chV osV
  obtain ⟨ball, need, str, par, wait⟩ := s
  obtain ⟨A, ca, rfl, hc1, hc2⟩ := h.mdl.bat.shape
  obtain ⟨A1, ca1, rfl, hc3, hc4⟩ := h.mdl.bow.shape
  obtain ⟨A2, ca2, rfl, hc5, hc6⟩ := h.bow.shape
  obtain ⟨A3, ca3, rfl, hc7, hc8⟩ := h.ord.shape
  have HX := Lib.hid (OSB.new w c (.slice A c.mdl.bats.length ca) (.slice A1 c.mdl.bows.length ca1) (.slice A2 c.bows.length ca2) (.slice A3 c.ord.length ca3) ⟨ball, need, str, par, wait⟩)
  have HM := Lib.hid h
  obtain ⟨z, hz⟩ : ∃ z, z = stateO c ⟨ball, need, str, par, wait⟩ := ⟨_, rfl⟩
  rw [← hz]
  have hnp := ht.np
  have hnb := ht.nb
  dsimp only at hw
  have hbad : outO c ⟨ball, need, str, par, wait⟩ = true → z = 2 := fun h => by rw [hz]; unfold stateO; rw [if_pos h]
  have harg : outO c ⟨ball, need, str, par, wait⟩ = false → str = par → z = 1 := fun h h2 => by rw [hz]; unfold stateO; rw [if_neg (by simp [h]), if_pos h2]
  have hex : outO c ⟨ball, need, str, par, wait⟩ = false → str ≠ par → bothO ⟨ball, need, str, par, wait⟩ = true → z = 7 := fun h h2 h3 => by rw [hz]; unfold stateO; rw [if_neg (by simp [h]), if_neg h2, if_pos h3]
  have hok : outO c ⟨ball, need, str, par, wait⟩ = false → str ≠ par → bothO ⟨ball, need, str, par, wait⟩ = false → z = 0 := fun h h2 h3 => by rw [hz]; unfold stateO; rw [if_neg (by simp [h]), if_neg h2, if_neg (by simp [h3])]
  obtain ⟨hw1, hw2⟩ := hw
  obtain ⟨hnp1, hnp2⟩ := hnp
  clear h hz ht
  cases b0 : outC.inC ball 0 c.bows.length
  · have HZ := Lib.hid (hbad (by unfold outO; simp [b0]))
    clear hbad harg hex hok
    have pz : ball < 0 ∨ (¬ ball < 0 ∧ (c.bows.length : Int) < ball) := by have := b0; unfold outC.inC at this; simp at this; omega
    clear b0
    rcases pz with g | ⟨g, g2⟩
    · skip
      go_enter Tryz.func46, Tryz.ntmps46
      go_wp2
      go_ret
      exact ⟨ret_i HZ.out.symm, HX.out.bel⟩
    · skip
      go_enter Tryz.func46, Tryz.ntmps46
      go_wp2
      go_ret
      exact ⟨ret_i HZ.out.symm, HX.out.bel⟩
  cases b1 : outC.inC need 0 c.need
  · have HZ := Lib.hid (hbad (by unfold outO; simp [b0, b1]))
    clear hbad harg hex hok
    have p0 := (show 0 ≤ ball ∧ ball ≤ c.bows.length by have := b0; unfold outC.inC at this; simpa using this)
    obtain ⟨p0a, p0b⟩ := p0
    have pz : need < 0 ∨ (¬ need < 0 ∧ c.need < need) := by have := b1; unfold outC.inC at this; simp at this; omega
    clear b0 b1
    rcases pz with g | ⟨g, g2⟩
    · skip
      go_enter Tryz.func46, Tryz.ntmps46
      go_wp2
      go_ret
      exact ⟨ret_i HZ.out.symm, HX.out.bel⟩
    · skip
      go_enter Tryz.func46, Tryz.ntmps46
      go_wp2
      go_ret
      exact ⟨ret_i HZ.out.symm, HX.out.bel⟩
  cases b2 : outC.inC str (-1) (c.ord.length - 1)
  · have HZ := Lib.hid (hbad (by unfold outO; simp [b0, b1, b2]))
    clear hbad harg hex hok
    have p0 := (show 0 ≤ ball ∧ ball ≤ c.bows.length by have := b0; unfold outC.inC at this; simpa using this)
    obtain ⟨p0a, p0b⟩ := p0
    have p1 := (show 0 ≤ need ∧ need ≤ c.need by have := b1; unfold outC.inC at this; simpa using this)
    obtain ⟨p1a, p1b⟩ := p1
    have pz : str < -1 ∨ (¬ str < -1 ∧ (c.ord.length : Int) ≤ str) := by have := b2; unfold outC.inC at this; simp at this; omega
    clear b0 b1 b2
    rcases pz with g | ⟨g, g2⟩
    · skip
      go_enter Tryz.func46, Tryz.ntmps46
      go_wp2
      go_ret
      exact ⟨ret_i HZ.out.symm, HX.out.bel⟩
    · skip
      go_enter Tryz.func46, Tryz.ntmps46
      go_wp2
      go_ret
      exact ⟨ret_i HZ.out.symm, HX.out.bel⟩
  cases b3 : outC.inC par (-1) (c.ord.length - 1)
  · have HZ := Lib.hid (hbad (by unfold outO; simp [b0, b1, b2, b3]))
    clear hbad harg hex hok
    have p0 := (show 0 ≤ ball ∧ ball ≤ c.bows.length by have := b0; unfold outC.inC at this; simpa using this)
    obtain ⟨p0a, p0b⟩ := p0
    have p1 := (show 0 ≤ need ∧ need ≤ c.need by have := b1; unfold outC.inC at this; simpa using this)
    obtain ⟨p1a, p1b⟩ := p1
    have p2 := (show -1 ≤ str ∧ str ≤ c.ord.length - 1 by have := b2; unfold outC.inC at this; simpa using this)
    obtain ⟨p2a, p2b⟩ := p2
    have pz : par < -1 ∨ (¬ par < -1 ∧ (c.ord.length : Int) ≤ par) := by have := b3; unfold outC.inC at this; simp at this; omega
    clear b0 b1 b2 b3
    rcases pz with g | ⟨g, g2⟩
    · skip
      go_enter Tryz.func46, Tryz.ntmps46
      go_wp2
      go_ret
      exact ⟨ret_i HZ.out.symm, HX.out.bel⟩
    · skip
      go_enter Tryz.func46, Tryz.ntmps46
      go_wp2
      go_ret
      exact ⟨ret_i HZ.out.symm, HX.out.bel⟩
  have p0 := (show 0 ≤ ball ∧ ball ≤ c.bows.length by have := b0; unfold outC.inC at this; simpa using this)
  obtain ⟨p0a, p0b⟩ := p0
  have p1 := (show 0 ≤ need ∧ need ≤ c.need by have := b1; unfold outC.inC at this; simpa using this)
  obtain ⟨p1a, p1b⟩ := p1
  have p2 := (show -1 ≤ str ∧ str ≤ c.ord.length - 1 by have := b2; unfold outC.inC at this; simpa using this)
  obtain ⟨p2a, p2b⟩ := p2
  have p3 := (show -1 ≤ par ∧ par ≤ c.ord.length - 1 by have := b3; unfold outC.inC at this; simpa using this)
  obtain ⟨p3a, p3b⟩ := p3
  cases b4 : (wait / 2 ^ c.ord.length == 0)
  · have HZ := Lib.hid (hbad (by unfold outO shrW; simp [b0, b1, b2, b3]; simpa using b4))
    have b5 : (wait / 2 ^ c.ord.length != 0) = true := by simp only [bne, b4]; rfl
    clear hbad harg hex hok
    clear b0 b1 b2 b3; go_enter Tryz.func46, Tryz.ntmps46
    go_wp2
    go_ret
    exact ⟨ret_i HZ.out.symm, HX.out.bel⟩
  have b5 : (wait / 2 ^ c.ord.length != 0) = false := by simp only [bne, b4]; rfl
  have ho : outO c ⟨ball, need, str, par, wait⟩ = false := by unfold outO shrW; simp [b0, b1, b2, b3]; simpa using b4
  by_cases h1 : str = par
  · have HZ := Lib.hid (harg ho h1)
    have e1 : (str == par) = true := beq_iff_eq.2 h1
    have h1' := Lib.hid h1
    clear hbad harg hex hok ho h1
    clear b0 b1 b2 b3; go_enter Tryz.func46, Tryz.ntmps46
    go_wp2
    go_ret
    exact ⟨ret_i HZ.out.symm, HX.out.bel⟩
  have e1 : (str == par) = false := beq_eq_false_iff_ne.2 h1
  have hbo : bothO ⟨ball, need, str, par, wait⟩ = ((decide (0 ≤ str) && bitW wait str) || (decide (0 ≤ par) && bitW wait par)) := rfl
  by_cases d1 : 0 ≤ str
  · cases c1 : bitW wait str
    · have f1 : (bits .and .u16 (wait / 2 ^ str.toNat) 1 == 1) = false := c1
      by_cases d2 : 0 ≤ par
      · cases c2 : bitW wait par
        · have f2 : (bits .and .u16 (wait / 2 ^ par.toNat) 1 == 1) = false := c2
          have HZ := Lib.hid (hok ho h1 (by rw [hbo]; simp [c1, c2]))
          clear hbad harg hex hok ho h1 hbo
          clear b0 b1 b2 b3; go_enter Tryz.func46, Tryz.ntmps46
          have tok0 : True := trivial
          go_wp2_with (first
            | (clear tok0; go_at_call 92; refine (r45_waits ⟨ball, need, str, par, wait⟩ _ _ ⟨hw1, hw2⟩ ⟨by omega, by omega⟩).mono ?_; rintro e w2 ⟨rfl, hb⟩; have HX2 := Lib.hid (HX.out.below hb); obtain ⟨x0, x1, x2, x3, x4, x5, x6, y0, y1, y2, y3, y4⟩ := HX2.out.cells; dsimp only at y0 y1 y2 y3 y4; clear hb; have tok1 : True := trivial)
            | (clear tok1; go_at_call 92; refine (r45_waits ⟨ball, need, str, par, wait⟩ _ _ ⟨hw1, hw2⟩ ⟨by omega, by omega⟩).mono ?_; rintro e w3 ⟨rfl, hb⟩; have HX3 := Lib.hid (HX2.out.below hb); clear x0 x1 x2 x3 x4 x5 x6 y0 y1 y2 y3 y4; obtain ⟨x0, x1, x2, x3, x4, x5, x6, y0, y1, y2, y3, y4⟩ := HX3.out.cells; dsimp only at y0 y1 y2 y3 y4; clear hb; have tok2 : True := trivial))
          go_ret
          first | exact ⟨ret_i HZ.out.symm, HX3.out.bel⟩ | exact ⟨ret_i HZ.out.symm, HX2.out.bel⟩ | exact ⟨ret_i HZ.out.symm, HX.out.bel⟩
        · have f2 : (bits .and .u16 (wait / 2 ^ par.toNat) 1 == 1) = true := c2
          have HZ := Lib.hid (hex ho h1 (by rw [hbo]; simp [c1, c2, d2]))
          clear hbad harg hex hok ho h1 hbo
          clear b0 b1 b2 b3; go_enter Tryz.func46, Tryz.ntmps46
          have tok0 : True := trivial
          go_wp2_with (first
            | (clear tok0; go_at_call 92; refine (r45_waits ⟨ball, need, str, par, wait⟩ _ _ ⟨hw1, hw2⟩ ⟨by omega, by omega⟩).mono ?_; rintro e w2 ⟨rfl, hb⟩; have HX2 := Lib.hid (HX.out.below hb); obtain ⟨x0, x1, x2, x3, x4, x5, x6, y0, y1, y2, y3, y4⟩ := HX2.out.cells; dsimp only at y0 y1 y2 y3 y4; clear hb; have tok1 : True := trivial)
            | (clear tok1; go_at_call 92; refine (r45_waits ⟨ball, need, str, par, wait⟩ _ _ ⟨hw1, hw2⟩ ⟨by omega, by omega⟩).mono ?_; rintro e w3 ⟨rfl, hb⟩; have HX3 := Lib.hid (HX2.out.below hb); clear x0 x1 x2 x3 x4 x5 x6 y0 y1 y2 y3 y4; obtain ⟨x0, x1, x2, x3, x4, x5, x6, y0, y1, y2, y3, y4⟩ := HX3.out.cells; dsimp only at y0 y1 y2 y3 y4; clear hb; have tok2 : True := trivial))
          go_ret
          first | exact ⟨ret_i HZ.out.symm, HX3.out.bel⟩ | exact ⟨ret_i HZ.out.symm, HX2.out.bel⟩ | exact ⟨ret_i HZ.out.symm, HX.out.bel⟩
      · skip
        have HZ := Lib.hid (hok ho h1 (by rw [hbo]; simp [c1, d2]))
        clear hbad harg hex hok ho h1 hbo
        clear b0 b1 b2 b3; go_enter Tryz.func46, Tryz.ntmps46
        have tok0 : True := trivial
        go_wp2_with (first
          | (clear tok0; go_at_call 92; refine (r45_waits ⟨ball, need, str, par, wait⟩ _ _ ⟨hw1, hw2⟩ ⟨by omega, by omega⟩).mono ?_; rintro e w2 ⟨rfl, hb⟩; have HX2 := Lib.hid (HX.out.below hb); obtain ⟨x0, x1, x2, x3, x4, x5, x6, y0, y1, y2, y3, y4⟩ := HX2.out.cells; dsimp only at y0 y1 y2 y3 y4; clear hb; have tok1 : True := trivial)
          | (clear tok1; go_at_call 92; refine (r45_waits ⟨ball, need, str, par, wait⟩ _ _ ⟨hw1, hw2⟩ ⟨by omega, by omega⟩).mono ?_; rintro e w3 ⟨rfl, hb⟩; have HX3 := Lib.hid (HX2.out.below hb); clear x0 x1 x2 x3 x4 x5 x6 y0 y1 y2 y3 y4; obtain ⟨x0, x1, x2, x3, x4, x5, x6, y0, y1, y2, y3, y4⟩ := HX3.out.cells; dsimp only at y0 y1 y2 y3 y4; clear hb; have tok2 : True := trivial))
        go_ret
        first | exact ⟨ret_i HZ.out.symm, HX3.out.bel⟩ | exact ⟨ret_i HZ.out.symm, HX2.out.bel⟩ | exact ⟨ret_i HZ.out.symm, HX.out.bel⟩
    · have f1 : (bits .and .u16 (wait / 2 ^ str.toNat) 1 == 1) = true := c1
      have HZ := Lib.hid (hex ho h1 (by rw [hbo]; simp [c1, d1]))
      clear hbad harg hex hok ho h1 hbo
      clear b0 b1 b2 b3; go_enter Tryz.func46, Tryz.ntmps46
      have tok0 : True := trivial
      go_wp2_with (first
        | (clear tok0; go_at_call 92; refine (r45_waits ⟨ball, need, str, par, wait⟩ _ _ ⟨hw1, hw2⟩ ⟨by omega, by omega⟩).mono ?_; rintro e w2 ⟨rfl, hb⟩; have HX2 := Lib.hid (HX.out.below hb); obtain ⟨x0, x1, x2, x3, x4, x5, x6, y0, y1, y2, y3, y4⟩ := HX2.out.cells; dsimp only at y0 y1 y2 y3 y4; clear hb; have tok1 : True := trivial)
        | (clear tok1; go_at_call 92; refine (r45_waits ⟨ball, need, str, par, wait⟩ _ _ ⟨hw1, hw2⟩ ⟨by omega, by omega⟩).mono ?_; rintro e w3 ⟨rfl, hb⟩; have HX3 := Lib.hid (HX2.out.below hb); clear x0 x1 x2 x3 x4 x5 x6 y0 y1 y2 y3 y4; obtain ⟨x0, x1, x2, x3, x4, x5, x6, y0, y1, y2, y3, y4⟩ := HX3.out.cells; dsimp only at y0 y1 y2 y3 y4; clear hb; have tok2 : True := trivial))
      go_ret
      first | exact ⟨ret_i HZ.out.symm, HX3.out.bel⟩ | exact ⟨ret_i HZ.out.symm, HX2.out.bel⟩ | exact ⟨ret_i HZ.out.symm, HX.out.bel⟩
  · by_cases d2 : 0 ≤ par
    · cases c2 : bitW wait par
      · have f2 : (bits .and .u16 (wait / 2 ^ par.toNat) 1 == 1) = false := c2
        have HZ := Lib.hid (hok ho h1 (by rw [hbo]; simp [c2, d1]))
        clear hbad harg hex hok ho h1 hbo
        clear b0 b1 b2 b3; go_enter Tryz.func46, Tryz.ntmps46
        have tok0 : True := trivial
        go_wp2_with (first
          | (clear tok0; go_at_call 92; refine (r45_waits ⟨ball, need, str, par, wait⟩ _ _ ⟨hw1, hw2⟩ ⟨by omega, by omega⟩).mono ?_; rintro e w2 ⟨rfl, hb⟩; have HX2 := Lib.hid (HX.out.below hb); obtain ⟨x0, x1, x2, x3, x4, x5, x6, y0, y1, y2, y3, y4⟩ := HX2.out.cells; dsimp only at y0 y1 y2 y3 y4; clear hb; have tok1 : True := trivial)
          | (clear tok1; go_at_call 92; refine (r45_waits ⟨ball, need, str, par, wait⟩ _ _ ⟨hw1, hw2⟩ ⟨by omega, by omega⟩).mono ?_; rintro e w3 ⟨rfl, hb⟩; have HX3 := Lib.hid (HX2.out.below hb); clear x0 x1 x2 x3 x4 x5 x6 y0 y1 y2 y3 y4; obtain ⟨x0, x1, x2, x3, x4, x5, x6, y0, y1, y2, y3, y4⟩ := HX3.out.cells; dsimp only at y0 y1 y2 y3 y4; clear hb; have tok2 : True := trivial))
        go_ret
        first | exact ⟨ret_i HZ.out.symm, HX3.out.bel⟩ | exact ⟨ret_i HZ.out.symm, HX2.out.bel⟩ | exact ⟨ret_i HZ.out.symm, HX.out.bel⟩
      · have f2 : (bits .and .u16 (wait / 2 ^ par.toNat) 1 == 1) = true := c2
        have HZ := Lib.hid (hex ho h1 (by rw [hbo]; simp [c2, d1, d2]))
        clear hbad harg hex hok ho h1 hbo
        clear b0 b1 b2 b3; go_enter Tryz.func46, Tryz.ntmps46
        have tok0 : True := trivial
        go_wp2_with (first
          | (clear tok0; go_at_call 92; refine (r45_waits ⟨ball, need, str, par, wait⟩ _ _ ⟨hw1, hw2⟩ ⟨by omega, by omega⟩).mono ?_; rintro e w2 ⟨rfl, hb⟩; have HX2 := Lib.hid (HX.out.below hb); obtain ⟨x0, x1, x2, x3, x4, x5, x6, y0, y1, y2, y3, y4⟩ := HX2.out.cells; dsimp only at y0 y1 y2 y3 y4; clear hb; have tok1 : True := trivial)
          | (clear tok1; go_at_call 92; refine (r45_waits ⟨ball, need, str, par, wait⟩ _ _ ⟨hw1, hw2⟩ ⟨by omega, by omega⟩).mono ?_; rintro e w3 ⟨rfl, hb⟩; have HX3 := Lib.hid (HX2.out.below hb); clear x0 x1 x2 x3 x4 x5 x6 y0 y1 y2 y3 y4; obtain ⟨x0, x1, x2, x3, x4, x5, x6, y0, y1, y2, y3, y4⟩ := HX3.out.cells; dsimp only at y0 y1 y2 y3 y4; clear hb; have tok2 : True := trivial))
        go_ret
        first | exact ⟨ret_i HZ.out.symm, HX3.out.bel⟩ | exact ⟨ret_i HZ.out.symm, HX2.out.bel⟩ | exact ⟨ret_i HZ.out.symm, HX.out.bel⟩
    · exfalso; omega
end Go.Proofs.YtdlmmbfnmnglaaaGreatDoor
