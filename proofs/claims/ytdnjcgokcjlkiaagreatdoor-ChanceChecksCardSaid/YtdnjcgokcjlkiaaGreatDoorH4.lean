/- The contracts of Mean, Risk, Sum and AtLeast, of the program and of the reference. No conditions but that the arguments can be read. -/
import Derived.Test.YtdnjcgokcjlkiaaGreatDoorH2
import Derived.Test.YtdnjcgokcjlkiaaGreatDoorH3
import Derived.Test.YtdnjcgokcjlkiaaGreatDoorP52
set_option linter.unusedSimpArgs false
set_option linter.unusedVariables false
namespace Go.Proofs.YtdnjcgokcjlkiaaGreatDoor
open Go.RowKit

theorem sumI_map_take {α : Type} {f : α → Int} {l : List α} {k : Nat} (h : k < l.length) : sumI ((l.take (k + 1)).map f) = sumI ((l.take k).map f) + f l[k] := by
  rw [List.take_succ_eq_append_getElem h, List.map_append, sumI_app]; simp [sumI_cons, sumI_nil]
theorem OkO.prod {o : Otc} (h : OkO o) : 0 ≤ o.runs * o.wt ∧ o.runs * o.wt ≤ 112 := by
  have h1 := Int.mul_nonneg h.r0 (show (0 : Int) ≤ o.wt by have := h.w1; omega)
  have h2 := Int.mul_le_mul h.r7 h.w16 (show (0 : Int) ≤ o.wt by have := h.w1; omega) (show (0 : Int) ≤ 7 by omega)
  omega
/-- The sums of an accepted spread. -/
theorem OkP.sxb {n : Nat} {ws : List Int} (h : OkP n ws) : 0 ≤ sxF 0 ws ∧ sxF 0 ws ≤ 23925373020405760 := by
  have h1 := sxF_bound ws 0 85 (by have := h.len.2; have := h.n12; omega) h.fine.pos
  rw [h.fine.sum] at h1
  have := unitV_le h.n12
  omega
theorem OkP.alb {n : Nat} {ws : List Int} (h : OkP n ws) (r : Int) : 0 ≤ atLeastL ws r ∧ atLeastL ws r ≤ 281474976710656 := by
  have h1 := alF_bound r ws 0 h.fine.pos
  rw [h.fine.sum] at h1
  have := unitV_le h.n12
  unfold atLeastL
  omega

set_option maxRecDepth 100000 in
set_option maxHeartbeats 1000000 in
theorem ch_Mean (d : List Otc) (v : Value) (w : World) (h : Sl 3 elOtc w (· < w.heap.size) v d) : Calls Tryz.prog 15 #[v] w fun e w' => e = .returned (.tuple #[.int .i64 (meanS d).1, .int .i64 (meanS d).2]) ∧ Below w.heap.size w w' := by
  obtain ⟨z, hz⟩ : ∃ z, z = meanS d := ⟨_, rfl⟩
  rw [← hz]
  unfold meanS at hz
  have kc := ch_Check d v w h
  obtain ⟨A, c, rfl, hc, hc2⟩ := h.shape
  by_cases h0 : checkD d = 0
  · rw [if_neg (fun k => k h0)] at hz
    rw [h0] at kc
    have hok := checkD_ok h0
    have hl16 := hok.len.2
    have HOK := Lib.hid hok.each
    have KC := Lib.hid kc
    have HZ := Lib.hid hz
    have H := Lib.hid h
    clear kc hz h0 hok h
    go_enter Tryz.func15, Tryz.ntmps15
    go_wp2_with (go_at_call 14; refine KC.out.mono ?_; rintro e w2 ⟨rfl, hb2⟩; have HB2 := Lib.hid hb2; clear hb2)
    go_loopw [5, 15] (fun sv i wr => ∃ (k : Nat) (s : Int), k ≤ d.length ∧ i = .int .i64 k ∧ sv = .int .i64 s ∧ 0 ≤ s ∧ s ≤ 112 * k ∧ Below w.heap.size w wr ∧ Hid (s = sumI ((d.take k).map fun o : Otc => o.runs * o.wt))) (fun _ i _ => d.length - (intOf i).toNat)
    case atStart => exact ⟨0, 0, Nat.zero_le _, rfl, rfl, by omega, by omega, HB2.out, Lib.hid rfl⟩
    case round =>
      obtain ⟨k, s, hk, rfl, rfl, hs0, hs1, hb, hss⟩ := hrel
      have HB := Lib.hid hb
      by_cases hlt : k < d.length
      · obtain ⟨b, o, rfl, hbl, y0', y1', y2'⟩ := otc_at H.out hlt
        have hoo := HOK.out _ (List.getElem_mem hlt)
        have hst := sumI_map_take (f := fun o : Otc => o.runs * o.wt) hlt
        rw [← hss.out] at hst
        obtain ⟨⟨pr, pw, pt⟩, hp⟩ : ∃ p, p = d[k] := ⟨_, rfl⟩
        rw [← hp] at y0' y1' y2' hoo hst
        obtain ⟨hp0, hp1⟩ := hoo.prod
        have hw1 := hoo.w1
        have hw16 := hoo.w16
        have y0 := (hb.cell (p := ⟨b, o + k * 3, none⟩) hbl).trans y0'
        have y1 := (hb.cell (p := ⟨b, o + k * 3 + 1, none⟩) hbl).trans y1'
        have y2 := (hb.cell (p := ⟨b, o + k * 3 + 2, none⟩) hbl).trans y2'
        dsimp only at y0 y1 y2 hp0 hp1 hst hw1 hw16
        have HST := Lib.hid hst.symm
        clear hb hss hp hoo hst y0' y1' y2' 
        go_wp2
        go_roundw
        case rel => exact ⟨k + 1, _, by omega, by go_num, rfl, by omega, by push_cast; omega, Below.alloc HB.out HB.out.size _, HST⟩
        case measure => simp [intOf]; omega
      · obtain rfl : k = d.length := by omega
        have hs2 := hss.out
        rw [List.take_of_length_le (Nat.le_refl _)] at hs2
        have HZ2 := Lib.hid (show z = (s, 0) by rw [HZ.out, hs2]; rfl)
        clear hb hss hs2
        go_wp2
        go_ret2
        exact ⟨by rw [HZ2.out] <;> rfl, HB.out⟩
  · rw [if_pos h0] at hz
    obtain ⟨z9, hz9⟩ : ∃ z9, z9 = checkD d := ⟨_, rfl⟩
    rw [← hz9] at kc hz h0
    have g1 : (z9 != 0) = true := by rw [bne_iff_ne]; exact h0
    have KC := Lib.hid kc
    have HZ := Lib.hid hz
    clear kc hz h0 h hz9
    go_enter Tryz.func15, Tryz.ntmps15
    go_wp2_with (go_at_call 14; refine KC.out.mono ?_; rintro e w2 ⟨rfl, hb2⟩; have HB2 := Lib.hid hb2; clear hb2)
    go_ret2
    exact ⟨by rw [HZ.out] <;> rfl, HB2.out⟩

set_option maxRecDepth 100000 in
set_option maxHeartbeats 1000000 in
theorem ch_Risk (d : List Otc) (v : Value) (w : World) (h : Sl 3 elOtc w (· < w.heap.size) v d) : Calls Tryz.prog 16 #[v] w fun e w' => e = .returned (.tuple #[.int .i64 (riskS d).1, .int .i64 (riskS d).2]) ∧ Below w.heap.size w w' := by
  obtain ⟨z, hz⟩ : ∃ z, z = riskS d := ⟨_, rfl⟩
  rw [← hz]
  unfold riskS at hz
  have kc := ch_Check d v w h
  obtain ⟨A, c, rfl, hc, hc2⟩ := h.shape
  by_cases h0 : checkD d = 0
  · rw [if_neg (fun k => k h0)] at hz
    rw [h0] at kc
    have hok := checkD_ok h0
    have hl16 := hok.len.2
    have HOK := Lib.hid hok.each
    have KC := Lib.hid kc
    have HZ := Lib.hid hz
    have H := Lib.hid h
    clear kc hz h0 hok h
    go_enter Tryz.func16, Tryz.ntmps16
    go_wp2_with (go_at_call 14; refine KC.out.mono ?_; rintro e w2 ⟨rfl, hb2⟩; have HB2 := Lib.hid hb2; clear hb2)
    go_loopw [5, 15] (fun sv i wr => ∃ (k : Nat) (s : Int), k ≤ d.length ∧ i = .int .i64 k ∧ sv = .int .i64 s ∧ 0 ≤ s ∧ s ≤ 112 * k ∧ Below w.heap.size w wr ∧ Hid (s = sumI ((d.take k).map fun o : Otc => if o.wick = true then o.wt else 0))) (fun _ i _ => d.length - (intOf i).toNat)
    case atStart => exact ⟨0, 0, Nat.zero_le _, rfl, rfl, by omega, by omega, HB2.out, Lib.hid rfl⟩
    case round =>
      obtain ⟨k, s, hk, rfl, rfl, hs0, hs1, hb, hss⟩ := hrel
      have HB := Lib.hid hb
      by_cases hlt : k < d.length
      · obtain ⟨b, o, rfl, hbl, y0', y1', y2'⟩ := otc_at H.out hlt
        have hoo := HOK.out _ (List.getElem_mem hlt)
        have hst := sumI_map_take (f := fun o : Otc => if o.wick = true then o.wt else 0) hlt
        rw [← hss.out] at hst
        obtain ⟨⟨pr, pw, pt⟩, hp⟩ : ∃ p, p = d[k] := ⟨_, rfl⟩
        rw [← hp] at y0' y1' y2' hoo hst
        obtain ⟨hp0, hp1⟩ := hoo.prod
        have hw1 := hoo.w1
        have hw16 := hoo.w16
        have y0 := (hb.cell (p := ⟨b, o + k * 3, none⟩) hbl).trans y0'
        have y1 := (hb.cell (p := ⟨b, o + k * 3 + 1, none⟩) hbl).trans y1'
        have y2 := (hb.cell (p := ⟨b, o + k * 3 + 2, none⟩) hbl).trans y2'
        dsimp only at y0 y1 y2 hp0 hp1 hst hw1 hw16
        cases pw
        · have HST := Lib.hid (show s = sumI ((d.take (k + 1)).map fun o : Otc => if o.wick = true then o.wt else 0) by rw [hst]; simp)
          clear hb hss hp hoo hst y0' y1' y2'
          go_wp2
          go_roundw
          case rel => exact ⟨k + 1, _, by omega, by go_num, rfl, by omega, by push_cast; omega, Below.alloc HB.out HB.out.size _, HST⟩
          case measure => simp [intOf]; omega
        · have HST := Lib.hid (show s + pt = sumI ((d.take (k + 1)).map fun o : Otc => if o.wick = true then o.wt else 0) by rw [hst]; simp)
          clear hb hss hp hoo hst y0' y1' y2'
          go_wp2
          go_roundw
          case rel => exact ⟨k + 1, _, by omega, by go_num, rfl, by omega, by push_cast; omega, Below.alloc HB.out HB.out.size _, HST⟩
          case measure => simp [intOf]; omega
      · obtain rfl : k = d.length := by omega
        have hs2 := hss.out
        rw [List.take_of_length_le (Nat.le_refl _)] at hs2
        have HZ2 := Lib.hid (show z = (s, 0) by rw [HZ.out, hs2]; rfl)
        clear hb hss hs2
        go_wp2
        go_ret2
        exact ⟨by rw [HZ2.out] <;> rfl, HB.out⟩
  · rw [if_pos h0] at hz
    obtain ⟨z9, hz9⟩ : ∃ z9, z9 = checkD d := ⟨_, rfl⟩
    rw [← hz9] at kc hz h0
    have g1 : (z9 != 0) = true := by rw [bne_iff_ne]; exact h0
    have KC := Lib.hid kc
    have HZ := Lib.hid hz
    clear kc hz h0 h hz9
    go_enter Tryz.func16, Tryz.ntmps16
    go_wp2_with (go_at_call 14; refine KC.out.mono ?_; rintro e w2 ⟨rfl, hb2⟩; have HB2 := Lib.hid hb2; clear hb2)
    go_ret2
    exact ⟨by rw [HZ.out] <;> rfl, HB2.out⟩

set_option maxRecDepth 100000 in
set_option maxHeartbeats 1000000 in
theorem ref_Mean (d : List Otc) (v : Value) (w : World) (h : Sl 3 elOtc w (· < w.heap.size) v d) : Calls Tryz.prog 34 #[v] w fun e w' => e = .returned (.tuple #[.int .i64 (meanS d).1, .int .i64 (meanS d).2]) ∧ Below w.heap.size w w' := by
  obtain ⟨z, hz⟩ : ∃ z, z = meanS d := ⟨_, rfl⟩
  rw [← hz]
  unfold meanS at hz
  have kc := ref_CCheck d v w h
  obtain ⟨A, c, rfl, hc, hc2⟩ := h.shape
  by_cases h0 : checkD d = 0
  · rw [if_neg (fun k => k h0)] at hz
    rw [h0] at kc
    have hok := checkD_ok h0
    have hl16 := hok.len.2
    have HOK := Lib.hid hok.each
    have KC := Lib.hid kc
    have HZ := Lib.hid hz
    have H := Lib.hid h
    clear kc hz h0 hok h
    go_enter Tryz.func34, Tryz.ntmps34
    go_wp2_with (go_at_call 38; refine KC.out.mono ?_; rintro e w2 ⟨rfl, hb2⟩; have HB2 := Lib.hid hb2; clear hb2)
    go_loopw [5, 15] (fun sv i wr => ∃ (k : Nat) (s : Int), k ≤ d.length ∧ i = .int .i64 k ∧ sv = .int .i64 s ∧ 0 ≤ s ∧ s ≤ 112 * k ∧ Below w.heap.size w wr ∧ Hid (s = sumI ((d.take k).map fun o : Otc => o.runs * o.wt))) (fun _ i _ => d.length - (intOf i).toNat)
    case atStart => exact ⟨0, 0, Nat.zero_le _, rfl, rfl, by omega, by omega, HB2.out, Lib.hid rfl⟩
    case round =>
      obtain ⟨k, s, hk, rfl, rfl, hs0, hs1, hb, hss⟩ := hrel
      have HB := Lib.hid hb
      by_cases hlt : k < d.length
      · obtain ⟨b, o, rfl, hbl, y0', y1', y2'⟩ := otc_at H.out hlt
        have hoo := HOK.out _ (List.getElem_mem hlt)
        have hst := sumI_map_take (f := fun o : Otc => o.runs * o.wt) hlt
        rw [← hss.out] at hst
        obtain ⟨⟨pr, pw, pt⟩, hp⟩ : ∃ p, p = d[k] := ⟨_, rfl⟩
        rw [← hp] at y0' y1' y2' hoo hst
        obtain ⟨hp0, hp1⟩ := hoo.prod
        have hw1 := hoo.w1
        have hw16 := hoo.w16
        have y0 := (hb.cell (p := ⟨b, o + k * 3, none⟩) hbl).trans y0'
        have y1 := (hb.cell (p := ⟨b, o + k * 3 + 1, none⟩) hbl).trans y1'
        have y2 := (hb.cell (p := ⟨b, o + k * 3 + 2, none⟩) hbl).trans y2'
        dsimp only at y0 y1 y2 hp0 hp1 hst hw1 hw16
        have HST := Lib.hid hst.symm
        clear hb hss hp hoo hst y0' y1' y2' 
        go_wp2
        go_roundw
        case rel => exact ⟨k + 1, _, by omega, by go_num, rfl, by omega, by push_cast; omega, Below.alloc HB.out HB.out.size _, HST⟩
        case measure => simp [intOf]; omega
      · obtain rfl : k = d.length := by omega
        have hs2 := hss.out
        rw [List.take_of_length_le (Nat.le_refl _)] at hs2
        have HZ2 := Lib.hid (show z = (s, 0) by rw [HZ.out, hs2]; rfl)
        clear hb hss hs2
        go_wp2
        go_ret2
        exact ⟨by rw [HZ2.out] <;> rfl, HB.out⟩
  · rw [if_pos h0] at hz
    obtain ⟨z9, hz9⟩ : ∃ z9, z9 = checkD d := ⟨_, rfl⟩
    rw [← hz9] at kc hz h0
    have g1 : (z9 != 0) = true := by rw [bne_iff_ne]; exact h0
    have KC := Lib.hid kc
    have HZ := Lib.hid hz
    clear kc hz h0 h hz9
    go_enter Tryz.func34, Tryz.ntmps34
    go_wp2_with (go_at_call 38; refine KC.out.mono ?_; rintro e w2 ⟨rfl, hb2⟩; have HB2 := Lib.hid hb2; clear hb2)
    go_ret2
    exact ⟨by rw [HZ.out] <;> rfl, HB2.out⟩

set_option maxRecDepth 100000 in
set_option maxHeartbeats 1000000 in
theorem ref_Risk (d : List Otc) (v : Value) (w : World) (h : Sl 3 elOtc w (· < w.heap.size) v d) : Calls Tryz.prog 35 #[v] w fun e w' => e = .returned (.tuple #[.int .i64 (riskS d).1, .int .i64 (riskS d).2]) ∧ Below w.heap.size w w' := by
  obtain ⟨z, hz⟩ : ∃ z, z = riskS d := ⟨_, rfl⟩
  rw [← hz]
  unfold riskS at hz
  have kc := ref_CCheck d v w h
  obtain ⟨A, c, rfl, hc, hc2⟩ := h.shape
  by_cases h0 : checkD d = 0
  · rw [if_neg (fun k => k h0)] at hz
    rw [h0] at kc
    have hok := checkD_ok h0
    have hl16 := hok.len.2
    have HOK := Lib.hid hok.each
    have KC := Lib.hid kc
    have HZ := Lib.hid hz
    have H := Lib.hid h
    clear kc hz h0 hok h
    go_enter Tryz.func35, Tryz.ntmps35
    go_wp2_with (go_at_call 38; refine KC.out.mono ?_; rintro e w2 ⟨rfl, hb2⟩; have HB2 := Lib.hid hb2; clear hb2)
    go_loopw [5, 15] (fun sv i wr => ∃ (k : Nat) (s : Int), k ≤ d.length ∧ i = .int .i64 k ∧ sv = .int .i64 s ∧ 0 ≤ s ∧ s ≤ 112 * k ∧ Below w.heap.size w wr ∧ Hid (s = sumI ((d.take k).map fun o : Otc => if o.wick = true then o.wt else 0))) (fun _ i _ => d.length - (intOf i).toNat)
    case atStart => exact ⟨0, 0, Nat.zero_le _, rfl, rfl, by omega, by omega, HB2.out, Lib.hid rfl⟩
    case round =>
      obtain ⟨k, s, hk, rfl, rfl, hs0, hs1, hb, hss⟩ := hrel
      have HB := Lib.hid hb
      by_cases hlt : k < d.length
      · obtain ⟨b, o, rfl, hbl, y0', y1', y2'⟩ := otc_at H.out hlt
        have hoo := HOK.out _ (List.getElem_mem hlt)
        have hst := sumI_map_take (f := fun o : Otc => if o.wick = true then o.wt else 0) hlt
        rw [← hss.out] at hst
        obtain ⟨⟨pr, pw, pt⟩, hp⟩ : ∃ p, p = d[k] := ⟨_, rfl⟩
        rw [← hp] at y0' y1' y2' hoo hst
        obtain ⟨hp0, hp1⟩ := hoo.prod
        have hw1 := hoo.w1
        have hw16 := hoo.w16
        have y0 := (hb.cell (p := ⟨b, o + k * 3, none⟩) hbl).trans y0'
        have y1 := (hb.cell (p := ⟨b, o + k * 3 + 1, none⟩) hbl).trans y1'
        have y2 := (hb.cell (p := ⟨b, o + k * 3 + 2, none⟩) hbl).trans y2'
        dsimp only at y0 y1 y2 hp0 hp1 hst hw1 hw16
        cases pw
        · have HST := Lib.hid (show s = sumI ((d.take (k + 1)).map fun o : Otc => if o.wick = true then o.wt else 0) by rw [hst]; simp)
          clear hb hss hp hoo hst y0' y1' y2'
          go_wp2
          go_roundw
          case rel => exact ⟨k + 1, _, by omega, by go_num, rfl, by omega, by push_cast; omega, Below.alloc HB.out HB.out.size _, HST⟩
          case measure => simp [intOf]; omega
        · have HST := Lib.hid (show s + pt = sumI ((d.take (k + 1)).map fun o : Otc => if o.wick = true then o.wt else 0) by rw [hst]; simp)
          clear hb hss hp hoo hst y0' y1' y2'
          go_wp2
          go_roundw
          case rel => exact ⟨k + 1, _, by omega, by go_num, rfl, by omega, by push_cast; omega, Below.alloc HB.out HB.out.size _, HST⟩
          case measure => simp [intOf]; omega
      · obtain rfl : k = d.length := by omega
        have hs2 := hss.out
        rw [List.take_of_length_le (Nat.le_refl _)] at hs2
        have HZ2 := Lib.hid (show z = (s, 0) by rw [HZ.out, hs2]; rfl)
        clear hb hss hs2
        go_wp2
        go_ret2
        exact ⟨by rw [HZ2.out] <;> rfl, HB.out⟩
  · rw [if_pos h0] at hz
    obtain ⟨z9, hz9⟩ : ∃ z9, z9 = checkD d := ⟨_, rfl⟩
    rw [← hz9] at kc hz h0
    have g1 : (z9 != 0) = true := by rw [bne_iff_ne]; exact h0
    have KC := Lib.hid kc
    have HZ := Lib.hid hz
    clear kc hz h0 h hz9
    go_enter Tryz.func35, Tryz.ntmps35
    go_wp2_with (go_at_call 38; refine KC.out.mono ?_; rintro e w2 ⟨rfl, hb2⟩; have HB2 := Lib.hid hb2; clear hb2)
    go_ret2
    exact ⟨by rw [HZ.out] <;> rfl, HB2.out⟩

set_option maxRecDepth 100000 in
set_option maxHeartbeats 1000000 in
theorem ch_atLeast (s : Spr) (v : Value) (runs : Int) (n : Nat) (hok : OkP n s.ws) (w : World) (h : Sl 1 elInt w (· < w.heap.size) v s.ws) : Calls Tryz.prog 103 #[sprV s v, .int .i64 runs] w fun e w' => e = .returned (.int .i64 (atLeastL s.ws runs)) ∧ Below w.heap.size w w' := by
  obtain ⟨z, hz⟩ : ∃ z, z = atLeastL s.ws runs := ⟨_, rfl⟩
  rw [← hz]
  obtain ⟨A, c, rfl, hc, hc2⟩ := h.shape
  have hb0 : Below w.heap.size w (w.alloc (.cells #[.int .i64 s.balls, .slice A s.ws.length c] 90)) := Below.alloc (Below.refl _ _) (Nat.le_refl _) _
  unfold sprV
  have HOK := Lib.hid hok
  have hl85 : s.ws.length ≤ 85 := by have := hok.len.2; have := hok.n12; omega
  have HZ := Lib.hid hz
  have H := Lib.hid h
  have HB0 := Lib.hid hb0
  clear hz hok h hb0
  go_enter Tryz.func103, Tryz.ntmps103
  go_wp2
  go_loop [5, 11] (fun sv i => ∃ (k : Nat) (t : Int), k ≤ s.ws.length ∧ i = .int .i64 k ∧ sv = .int .i64 t ∧ 0 ≤ t ∧ Hid (z = t + alF runs k (s.ws.drop k))) (fun _ i => s.ws.length - (intOf i).toNat)
  case atStart => exact ⟨0, 0, Nat.zero_le _, rfl, rfl, by omega, Lib.hid (by rw [HZ.out]; unfold atLeastL; simp)⟩
  case round =>
    obtain ⟨k, t, hk, rfl, rfl, hs0, HS⟩ := hrel
    by_cases hlt : k < s.ws.length
    · obtain ⟨b, o, rfl, hbl, y0'⟩ := int_at H.out hlt
      have y0 := (HB0.out.cell (p := ⟨b, o + k, none⟩) hbl).trans y0'
      have hst := HS.out
      rw [List.drop_eq_getElem_cons hlt, alF] at hst
      have hx0 := HOK.out.fine.pos _ (List.getElem_mem hlt)
      have hbd := HOK.out.alb runs
      rw [← HZ.out] at hbd
      have hrest := alF_bound runs (s.ws.drop (k + 1)) (k + 1) fun x hx => HOK.out.fine.pos x (List.mem_of_mem_drop hx)
      obtain ⟨x, hx⟩ : ∃ x, x = s.ws[k] := ⟨_, rfl⟩
      rw [← hx] at y0 hst hx0
      by_cases hr : runs ≤ (k : Int)
      · rw [if_pos hr] at hst
        have hup : t + x ≤ 281474976710656 := by omega
        have HS2 := Lib.hid (show z = (t + x) + alF runs (k + 1) (s.ws.drop (k + 1)) by omega)
        clear HS hst hx hbd hrest y0'
        go_wp2
        go_round
        case rel => exact ⟨k + 1, _, by omega, by go_num, rfl, by omega, HS2⟩
        case measure => simp [intOf]; omega
      · rw [if_neg hr] at hst
        have HS2 := Lib.hid (show z = t + alF runs (k + 1) (s.ws.drop (k + 1)) by omega)
        clear HS hst hx hbd hrest y0'
        go_wp2
        go_round
        case rel => exact ⟨k + 1, _, by omega, by go_num, rfl, by omega, HS2⟩
        case measure => simp [intOf]; omega
    · have hst := HS.out
      rw [List.drop_of_length_le (by omega), alF] at hst
      have HZ2 := Lib.hid (show z = t by omega)
      clear HS hst
      go_wp2
      go_ret
      exact ⟨ret_i HZ2.out.symm, HB0.out⟩

set_option maxRecDepth 100000 in
set_option maxHeartbeats 1000000 in
theorem ch_AtLeast (s : Spr) (v : Value) (runs : Int) (w : World) (h : Sl 1 elInt w (· < w.heap.size) v s.ws) : Calls Tryz.prog 64 #[sprV s v, .int .i64 runs] w fun e w' => e = .returned (.tuple #[.int .i64 (atLeastS s runs).1, .int .i64 (atLeastS s runs).2]) ∧ Below w.heap.size w w' := by
  obtain ⟨z, hz⟩ : ∃ z, z = atLeastS s runs := ⟨_, rfl⟩
  rw [← hz]
  unfold atLeastS at hz
  obtain ⟨A, c, rfl, hc, hc2⟩ := h.shape
  obtain ⟨W, hW⟩ : ∃ W, W = w.alloc (.cells #[.int .i64 s.balls, .slice A s.ws.length c] 90) := ⟨_, rfl⟩
  have hb0 : Below w.heap.size w W := by rw [hW]; exact Below.alloc (Below.refl _ _) (Nat.le_refl _) _
  have hk0 : Blk W w.heap.size 90 #[.int .i64 s.balls, .slice A s.ws.length c] := by rw [hW]; exact Blk.new w _ _
  have kc : Calls Tryz.prog 102 #[sprV s (.slice A s.ws.length c)] W fun e w' => e = .returned (.int .i64 (checkP s)) ∧ Below w.heap.size w w' ∧ Blk w' w.heap.size 90 #[.int .i64 s.balls, .slice A s.ws.length c] := by
    refine (ch_CheckP s _ W (h.keep elInt_good (Same.of_below hb0) fun b hb => Nat.lt_of_lt_of_le hb hb0.size)).mono ?_
    rintro e w' ⟨rfl, hb⟩
    exact ⟨rfl, hb0.trans (hb.mono hb0.size), hk0.below hb hk0.lt⟩
  rw [hW] at kc
  unfold sprV at kc ⊢
  by_cases h0 : checkP s = 0
  · rw [if_neg (fun k => k h0)] at hz
    rw [h0] at kc
    obtain ⟨n, hnn, hok⟩ := checkP_ok h0
    clear hnn
    have HOK := Lib.hid hok
    have hl85 : s.ws.length ≤ 85 := by have := hok.len.2; have := hok.n12; omega
    have KC := Lib.hid kc
    have HZ := Lib.hid hz
    have H := Lib.hid h
    clear kc hz h0 hok h hb0 hk0 hW
    have ka := fun W (hW : Below w.heap.size w W) => ch_atLeast s (.slice A s.ws.length c) runs n HOK.out W (H.out.keep elInt_good (Same.of_below hW) fun b hb => Nat.lt_of_lt_of_le hb hW.size)
    unfold sprV at ka
    have KA := Lib.hid ka
    clear ka
    go_enter Tryz.func64, Tryz.ntmps64
    go_wp2_with (first
      | (go_at_call 102; refine KC.out.mono ?_; rintro e w2 ⟨rfl, hb2, hk2⟩; have u0 : w2.cell? ⟨w.heap.size, 0, none⟩ = some (.int .i64 s.balls) := hk2.cell 0; have u1 : w2.cell? ⟨w.heap.size, 1, none⟩ = some (.slice A s.ws.length c) := hk2.cell 1; have HB2 := Lib.hid hb2; clear hb2 hk2)
      | (go_at_call 103; refine (KA.out _ HB2.out).mono ?_; rintro e w3 ⟨rfl, hb3⟩; have HB3 := Lib.hid (HB2.out.trans (hb3.mono HB2.out.size)); clear hb3))
    go_ret2
    exact ⟨by rw [HZ.out] <;> rfl, HB3.out⟩
  · rw [if_pos h0] at hz
    obtain ⟨z9, hz9⟩ : ∃ z9, z9 = checkP s := ⟨_, rfl⟩
    rw [← hz9] at kc hz h0
    have g1 : (z9 != 0) = true := by rw [bne_iff_ne]; exact h0
    have KC := Lib.hid kc
    have HZ := Lib.hid hz
    clear kc hz h0 h hz9 hb0 hk0 hW
    go_enter Tryz.func64, Tryz.ntmps64
    go_wp2_with (go_at_call 102; refine KC.out.mono ?_; rintro e w2 ⟨rfl, hb2, hk2⟩; have HB2 := Lib.hid hb2; clear hb2 hk2)
    go_ret2
    exact ⟨by rw [HZ.out] <;> rfl, HB2.out⟩

end Go.Proofs.YtdnjcgokcjlkiaaGreatDoor
