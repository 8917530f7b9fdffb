/- The contract of the reference's Pair. -/
import Derived.Test.YtfljohhocgaheaaDoorU4
import Derived.Test.YtfljohhocgaheaaDoorU6
import Derived.Test.YtfljohhocgaheaaDoorF2
set_option linter.unusedSimpArgs false
set_option linter.unusedVariables false
namespace Go.Proofs.YtfljohhocgaheaaDoor
open Go.RowKit

theorem meetB_true {a b : Sqd} {k : Nat} (h : k < a.players.length) (hm : a.players[k] ∈ b.players) : meetB a b = true := by
  unfold meetB; rw [List.any_eq_true]; exact ⟨_, List.getElem_mem h, decide_eq_true hm⟩
theorem meetB_false {a b : Sqd} (h : ∀ (k : Nat) (hk : k < a.players.length), a.players[k] ∉ b.players) : meetB a b = false := by
  unfold meetB
  rw [List.any_eq_false]
  intro p hp
  obtain ⟨k, hk, rfl⟩ := List.mem_iff_getElem.1 hp
  simpa using h k hk
set_option maxRecDepth 100000 in
set_option maxHeartbeats 4000000 in
theorem rsq_Pair (r : Rul) (pr : Value) (a : Sqd) (pa : Value) (b : Sqd) (pb : Value) (w : World) (hr : Sl 3 elPha w (· < w.heap.size) pr r.power) (ha : Lies w a pa) (hb : Lies w b pb)
    (hn : r.name.length ≤ 1000000000) (hma : Modest a) (hmb : Modest b) :
    Calls Tryd.prog 26 #[rulV r pr, sqV a pa, sqV b pb] w fun e w' => e = .returned (.int .i64 (pairS r a b)) ∧ Below w.heap.size w w' := by
  obtain ⟨zz, hzz⟩ : ∃ z, z = pairS r a b := ⟨_, rfl⟩
  rw [← hzz]
  unfold pairS restS at hzz
  obtain ⟨Ar, cr, rfl, hcr, hcr2⟩ := hr.shape
  obtain ⟨Aa, ca, rfl, hca, hca2⟩ := Sl.shape ha
  obtain ⟨Ab, cb, rfl, hcb, hcb2⟩ := Sl.shape hb
  have h0 := Pai.new hr ha hb
  have k1 : ∀ W, Pai w W w.heap.size r (.slice Ar r.power.length cr) a (.slice Aa a.players.length ca) b (.slice Ab b.players.length cb) → Calls Tryd.prog 52 #[rulV r (.slice Ar r.power.length cr)] W fun e W' => e = .returned (.int .i64 (checkR r)) ∧ Pai w W' w.heap.size r (.slice Ar r.power.length cr) a (.slice Aa a.players.length ca) b (.slice Ab b.players.length cb) := fun W h => by
    refine (ref_RCheck r _ W h.r.sl hn).mono ?_
    rintro e W' ⟨rfl, hb⟩
    exact ⟨rfl, h.below hb⟩
  have k2 : ∀ W, Pai w W w.heap.size r (.slice Ar r.power.length cr) a (.slice Aa a.players.length ca) b (.slice Ab b.players.length cb) → Calls Tryd.prog 20 #[sqV a (.slice Aa a.players.length ca)] W fun e W' => e = .returned (.int .i64 (checkS a)) ∧ Pai w W' w.heap.size r (.slice Ar r.power.length cr) a (.slice Aa a.players.length ca) b (.slice Ab b.players.length cb) := fun W h => by
    refine (rsq_Check a _ W h.a.sl hma.1 hma.2).mono ?_
    rintro e W' ⟨rfl, hb⟩
    exact ⟨rfl, h.below hb⟩
  have k3 : ∀ W, Pai w W w.heap.size r (.slice Ar r.power.length cr) a (.slice Aa a.players.length ca) b (.slice Ab b.players.length cb) → Calls Tryd.prog 20 #[sqV b (.slice Ab b.players.length cb)] W fun e W' => e = .returned (.int .i64 (checkS b)) ∧ Pai w W' w.heap.size r (.slice Ar r.power.length cr) a (.slice Aa a.players.length ca) b (.slice Ab b.players.length cb) := fun W h => by
    refine (rsq_Check b _ W h.b.sl hmb.1 hmb.2).mono ?_
    rintro e W' ⟨rfl, hb⟩
    exact ⟨rfl, h.below hb⟩
  have k4 : ∀ W (p : List UInt8) (t : Bool), decide (p ∈ b.players) = t → Pai w W w.heap.size r (.slice Ar r.power.length cr) a (.slice Aa a.players.length ca) b (.slice Ab b.players.length cb) → Calls Tryd.prog 22 #[sqV b (.slice Ab b.players.length cb), .string (S p)] W fun e W' => (∃ i : Int, e = .returned (.int .i64 i) ∧ decide (0 < i) = t) ∧ Pai w W' w.heap.size r (.slice Ar r.power.length cr) a (.slice Aa a.players.length ca) b (.slice Ab b.players.length cb) := fun W p t ht h => by
    refine (rsq_Find b _ (S p) W h.b.sl).mono ?_
    rintro e W' ⟨rfl, hb⟩
    refine ⟨⟨_, rfl, ?_⟩, h.below hb⟩
    have h1 := indexF_pos p b.players 0
    have h2 := indexS_le b.players p
    have h3 : indexS b.players p = indexF p b.players 0 := rfl
    rw [← ht, S_data, Bool.eq_iff_iff, decide_eq_true_eq, decide_eq_true_eq, ← h1, ← h3]
    omega
  obtain ⟨x, hx⟩ : ∃ x, x = checkR r := ⟨_, rfl⟩
  obtain ⟨y, hy⟩ : ∃ y, y = checkS a := ⟨_, rfl⟩
  obtain ⟨z, hz⟩ : ∃ z, z = checkS b := ⟨_, rfl⟩
  rw [← hx, ← hy, ← hz] at hzz
  rw [← hx] at k1
  rw [← hy] at k2
  rw [← hz] at k3
  unfold rulV rulCells at k1
  unfold sqV at k2 k3 k4
  unfold rulCells at h0
  have K1 := Lib.hid k1
  have K2 := Lib.hid k2
  have K3 := Lib.hid k3
  have K4 := Lib.hid k4
  have H0 := Lib.hid h0
  have HLA := Lib.hid ha
  have HZZ := Lib.hid hzz
  obtain ⟨⟨y0, y1, y2, y3, y4, y5, y6, y7, y8, y9, y10, y11, y12, y13⟩, ⟨u0, u1, u2, u3⟩, ⟨v0, v1, v2, v3⟩⟩ := h0.cells
  clear hzz hx hy hz k1 k2 k3 k4 h0 hr ha hb hn hma hmb
  unfold rulV rulCells sqV
  by_cases hx : x = 0
  rotate_left
  · have e1 : (x != 0) = true := by simp [hx]
    have hz2 : zz = x := by rw [HZZ.out, firstErr_at.1 hx, if_pos hx]
    have HX := Lib.hid hz2
    clear hx hz2
    as_aux_lemma =>
      go_enter Tryd.func26, Tryd.ntmps26
      go_wp2_with (go_at_call 52; refine (K1.out _ H0.out).mono ?_; rintro e w1 ⟨rfl, h1⟩; have H1 := Lib.hid h1; clear h1)
      go_ret
      exact ⟨ret_i HX.out.symm, H1.out.bel⟩
  have e1 : (x != 0) = false := by simp [hx]
  by_cases hy : y = 0
  rotate_left
  · have e2 : (y != 0) = true := by simp [hy]
    have hz2 : zz = y := by rw [HZZ.out, firstErr_at.2.1 hx hy, if_pos hy]
    have HX := Lib.hid hz2
    clear hx hy hz2
    as_aux_lemma =>
      go_enter Tryd.func26, Tryd.ntmps26
      go_wp2_with (first
        | (go_at_call 52; refine (K1.out _ H0.out).mono ?_; rintro e w1 ⟨rfl, h1⟩; obtain ⟨⟨y0, y1, y2, y3, y4, y5, y6, y7, y8, y9, y10, y11, y12, y13⟩, ⟨u0, u1, u2, u3⟩, ⟨v0, v1, v2, v3⟩⟩ := h1.cells; have H1 := Lib.hid h1; clear h1)
        | (go_at_call 20; refine (K2.out _ H1.out).mono ?_; rintro e w2 ⟨rfl, h2⟩; have H2 := Lib.hid h2; clear h2))
      go_ret
      exact ⟨ret_i HX.out.symm, H2.out.bel⟩
  have e2 : (y != 0) = false := by simp [hy]
  by_cases hz : z = 0
  rotate_left
  · have e3 : (z != 0) = true := by simp [hz]
    have hz2 : zz = z := by rw [HZZ.out, firstErr_at.2.2 hx hy hz, if_pos hz]
    have HX := Lib.hid hz2
    clear hx hy hz hz2
    as_aux_lemma =>
      go_enter Tryd.func26, Tryd.ntmps26
      go_wp2_with (first
        | (go_at_call 52; refine (K1.out _ H0.out).mono ?_; rintro e w1 ⟨rfl, h1⟩; obtain ⟨⟨y0, y1, y2, y3, y4, y5, y6, y7, y8, y9, y10, y11, y12, y13⟩, ⟨u0, u1, u2, u3⟩, ⟨v0, v1, v2, v3⟩⟩ := h1.cells; have H1 := Lib.hid h1; clear h1)
        | (go_at_call 20; ((with_reducible refine (K2.out _ H1.out).mono ?_); rintro e w2 ⟨rfl, h2⟩; obtain ⟨⟨y0, y1, y2, y3, y4, y5, y6, y7, y8, y9, y10, y11, y12, y13⟩, ⟨u0, u1, u2, u3⟩, ⟨v0, v1, v2, v3⟩⟩ := h2.cells; have H2 := Lib.hid h2; clear h2 H1))
        | (go_at_call 20; refine (K3.out _ H2.out).mono ?_; rintro e w3 ⟨rfl, h3⟩; have H3 := Lib.hid h3; clear h3))
      go_ret
      exact ⟨ret_i HX.out.symm, H3.out.bel⟩
  have e3 : (z != 0) = false := by simp [hz]
  have hz2 := HZZ.out
  rw [if_neg (fun h => h ((firstErr_three x y z).2 ⟨hx, hy, hz⟩))] at hz2
  clear hx hy hz HZZ
  go_enter Tryd.func26, Tryd.ntmps26
  go_wp2_with (first
    | (go_at_call 52; refine (K1.out _ H0.out).mono ?_; rintro e w1 ⟨rfl, h1⟩; obtain ⟨⟨y0, y1, y2, y3, y4, y5, y6, y7, y8, y9, y10, y11, y12, y13⟩, ⟨u0, u1, u2, u3⟩, ⟨v0, v1, v2, v3⟩⟩ := h1.cells; have H1 := Lib.hid h1; clear h1)
    | (go_at_call 20; ((with_reducible refine (K2.out _ H1.out).mono ?_); rintro e w2 ⟨rfl, h2⟩; obtain ⟨⟨y0, y1, y2, y3, y4, y5, y6, y7, y8, y9, y10, y11, y12, y13⟩, ⟨u0, u1, u2, u3⟩, ⟨v0, v1, v2, v3⟩⟩ := h2.cells; have H2 := Lib.hid h2; clear h2 H1))
    | fail)
  refine (K3.out _ H2.out).mono ?_
  rintro e w3 ⟨rfl, h3⟩
  obtain ⟨⟨y0, y1, y2, y3, y4, y5, y6, y7, y8, y9, y10, y11, y12, y13⟩, ⟨u0, u1, u2, u3⟩, ⟨v0, v1, v2, v3⟩⟩ := h3.cells
  have H3 := Lib.hid h3
  clear h3 H2
  by_cases l1 : (a.players.length : Int) = r.side
  · have f1 : ((a.players.length : Int) != r.side) = false := by rw [bne_eq_false_iff_eq]; exact l1
    by_cases l2 : (b.players.length : Int) = r.side
    · have f2 : ((b.players.length : Int) != r.side) = false := by rw [bne_eq_false_iff_eq]; exact l2
      rw [if_neg (fun h => h.elim (fun h => h l1) (fun h => h l2))] at hz2
      by_cases hn : a.name = b.name
      · have f3 : (a.name == b.name) = true := beq_iff_eq.2 hn
        rw [if_pos (.inl hn)] at hz2
        have HX := Lib.hid hz2
        clear hz2 hn l1 l2
        go_wp2
        go_ret
        exact ⟨ret_i HX.out.symm, H3.out.bel⟩
      · have f3 : (a.name == b.name) = false := beq_eq_false_iff_ne.2 hn
        have HX := Lib.hid hz2
        have HN := Lib.hid hn
        clear hz2 hn l1 l2
        go_wp2_with fail
        go_loopw [49] (fun i wr => ∃ k : Nat, k ≤ a.players.length ∧ i = .int .i64 k ∧ Pai w wr w.heap.size r (.slice Ar r.power.length cr) a (.slice Aa a.players.length ca) b (.slice Ab b.players.length cb) ∧ Hid (∀ (j : Nat) (hj : j < a.players.length), j < k → a.players[j] ∉ b.players))
          (fun i _ => a.players.length - (intOf i).toNat)
        case atStart => exact ⟨0, Nat.zero_le _, rfl, H3.out, fun j _ h => absurd h (by omega)⟩
        case round =>
          obtain ⟨k, hk, rfl, hp, hno⟩ := hrel
          obtain ⟨⟨y0, y1, y2, y3, y4, y5, y6, y7, y8, y9, y10, y11, y12, y13⟩, ⟨u0, u1, u2, u3⟩, ⟨v0, v1, v2, v3⟩⟩ := hp.cells
          have HP := Lib.hid hp
          by_cases hlt : k < a.players.length
          · obtain ⟨bb, o, hA, hbl, hcell⟩ := Sl.str_at HLA.out hlt
            subst hA
            have yy := (hp.bel.cell (p := ⟨bb, o + k, none⟩) hbl).trans hcell
            clear hp hcell
            by_cases hin : a.players[k] ∈ b.players
            · have hz3 : zz = 7 := by rw [HX.out, if_pos (.inr (meetB_true hlt hin))]
              have HX3 := Lib.hid hz3
              have ht := decide_eq_true hin
              obtain ⟨p, hpe⟩ : ∃ p, p = a.players[k] := ⟨_, rfl⟩
              rw [← hpe] at ht yy
              have HT := Lib.hid ht
              clear hz3 hin ht hpe hno
              go_wp2_with (go_at_call 22; refine (K4.out _ _ _ HT.out HP.out).mono ?_; rintro e w4 ⟨⟨i, rfl, hi⟩, h4⟩; have H4 := Lib.hid h4; clear h4)
              go_ret
              exact ⟨ret_i HX3.out.symm, H4.out.bel⟩
            · have ht := decide_eq_false hin
              have hno2 : ∀ (j : Nat) (hj : j < a.players.length), j < k + 1 → a.players[j] ∉ b.players := fun j hj hjk => by
                by_cases hje : j = k
                · subst hje; exact hin
                · exact hno.out j hj (by omega)
              have HNO := Lib.hid hno2
              obtain ⟨p, hpe⟩ : ∃ p, p = a.players[k] := ⟨_, rfl⟩
              rw [← hpe] at ht yy
              have HT := Lib.hid ht
              clear hin ht hpe hno hno2
              go_wp2_with (go_at_call 22; refine (K4.out _ _ _ HT.out HP.out).mono ?_; rintro e w4 ⟨⟨i, rfl, hi⟩, h4⟩; have H4 := Lib.hid h4; clear h4)
              go_roundw
              case rel => exact ⟨k + 1, by omega, by go_num, H4.out, HNO.out⟩
              case measure => simp [intOf]; omega
          · obtain rfl : k = a.players.length := by omega
            have hm : meetB a b = false := meetB_false fun j hj => hno.out j hj hj
            have hz3 : zz = 0 := by rw [HX.out, if_neg (fun h => h.elim HN.out (by rw [hm]; simp))]
            have HX3 := Lib.hid hz3
            clear hp hno hm hz3
            go_wp2
            go_ret
            exact ⟨ret_i HX3.out.symm, HP.out.bel⟩
    · have f2 : ((b.players.length : Int) != r.side) = true := by rw [bne_iff_ne]; exact l2
      rw [if_pos (.inr l2)] at hz2
      have HX := Lib.hid hz2
      clear hz2 l1 l2
      go_wp2
      go_ret
      exact ⟨ret_i HX.out.symm, H3.out.bel⟩
  · have f1 : ((a.players.length : Int) != r.side) = true := by rw [bne_iff_ne]; exact l1
    rw [if_pos (.inl l1)] at hz2
    have HX := Lib.hid hz2
    clear hz2 l1
    go_wp2
    go_ret
    exact ⟨ret_i HX.out.symm, H3.out.bel⟩
end Go.Proofs.YtfljohhocgaheaaDoor
