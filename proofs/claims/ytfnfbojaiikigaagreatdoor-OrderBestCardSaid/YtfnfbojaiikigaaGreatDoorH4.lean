/- The contracts of Mean, Risk, Sum and AtLeast, of the program and of the reference. No conditions but that the arguments can be read. -/
import Derived.Test.YtfnfbojaiikigaaGreatDoorH2
import Derived.Test.YtfnfbojaiikigaaGreatDoorH3
import Derived.Test.YtfnfbojaiikigaaGreatDoorP52
set_option linter.unusedSimpArgs false
set_option linter.unusedVariables false
namespace Go.Proofs.YtfnfbojaiikigaaGreatDoor
open Go.RowKit

theorem sumI_map_take {α : Type} {f : α → Int} {l : List α} {k : Nat} (h : k < l.length) : sumI ((l.take (k + 1)).map f) = sumI ((l.take k).map f) + f l[k] := by
  rw [List.take_succ_eq_append_getElem h, List.map_append, sumI_app]; simp [sumI_cons, sumI_nil]
theorem OkO.prod {o : Otc} (h : OkO o) : 0 ≤ o.runs * o.wt ∧ o.runs * o.wt ≤ 112 := by
  have h1 := Int.mul_nonneg h.r0 (show (0 : Int) ≤ o.wt by have := h.w1; omega)
  have h2 := Int.mul_le_mul h.r7 h.w16 (show (0 : Int) ≤ o.wt by have := h.w1; omega) (show (0 : Int) ≤ 7 by omega)
  omega
/-- The sums of an accepted spread. -/
theorem OkP.sxb {n : Nat} {ws : List Int} (h : OkP n ws) : 0 ≤ sxF 0 ws ∧ sxF 0 ws ≤ 23925373020405760 := by
  have h1 := sxF_bound ws 0 85 (by have := h.len.2; have := h.n12; omega) h.fine.pos
  rw [h.fine.sum] at h1
  have := unitV_le h.n12
  omega
theorem OkP.alb {n : Nat} {ws : List Int} (h : OkP n ws) (r : Int) : 0 ≤ atLeastL ws r ∧ atLeastL ws r ≤ 281474976710656 := by
  have h1 := alF_bound r ws 0 h.fine.pos
  rw [h.fine.sum] at h1
  have := unitV_le h.n12
  unfold atLeastL
  omega

set_option maxRecDepth 100000 in
set_option maxHeartbeats 1000000 in
theorem ch_Mean (d : List Otc) (v : Value) (w : World) (h : Sl 3 elOtc w (· < w.heap.size) v d) : Calls Tryz.prog 40 #[v] w fun e w' => e = .returned (.tuple #[.int .i64 (meanS d).1, .int .i64 (meanS d).2]) ∧ Below w.heap.size w w' := by
  obtain ⟨z, hz⟩ : ∃ z, z = meanS d := ⟨_, rfl⟩
  rw [← hz]
  unfold meanS at hz
  have kc := ch_Check d v w h
  obtain ⟨A, c, rfl, hc, hc2⟩ := h.shape
  by_cases h0 : checkD d = 0
  · rw [if_neg (fun k => k h0)] at hz
    rw [h0] at kc
    have hok := checkD_ok h0
    have hl16 := hok.len.2
    have HOK := Lib.hid hok.each
    have KC := Lib.hid kc
    have HZ := Lib.hid hz
    have H := Lib.hid h
    clear kc hz h0 hok h
    go_enter Tryz.func40, Tryz.ntmps40
    go_wp2_with (go_at_call 83; refine KC.out.mono ?_; rintro e w2 ⟨rfl, hb2⟩; have HB2 := Lib.hid hb2; clear hb2)
    go_loopw [5, 15] (fun sv i wr => ∃ (k : Nat) (s : Int), k ≤ d.length ∧ i = .int .i64 k ∧ sv = .int .i64 s ∧ 0 ≤ s ∧ s ≤ 112 * k ∧ Below w.heap.size w wr ∧ Hid (s = sumI ((d.take k).map fun o : Otc => o.runs * o.wt))) (fun _ i _ => d.length - (intOf i).toNat)
    case atStart => exact ⟨0, 0, Nat.zero_le _, rfl, rfl, by omega, by omega, HB2.out, Lib.hid rfl⟩
    case round =>
      obtain ⟨k, s, hk, rfl, rfl, hs0, hs1, hb, hss⟩ := hrel
      have HB := Lib.hid hb
      by_cases hlt : k < d.length
      · obtain ⟨b, o, rfl, hbl, y0', y1', y2'⟩ := otc_at H.out hlt
        have hoo := HOK.out _ (List.getElem_mem hlt)
        have hst := sumI_map_take (f := fun o : Otc => o.runs * o.wt) hlt
        rw [← hss.out] at hst
        obtain ⟨⟨pr, pw, pt⟩, hp⟩ : ∃ p, p = d[k] := ⟨_, rfl⟩
        rw [← hp] at y0' y1' y2' hoo hst
        obtain ⟨hp0, hp1⟩ := hoo.prod
        have hw1 := hoo.w1
        have hw16 := hoo.w16
        have y0 := (hb.cell (p := ⟨b, o + k * 3, none⟩) hbl).trans y0'
        have y1 := (hb.cell (p := ⟨b, o + k * 3 + 1, none⟩) hbl).trans y1'
        have y2 := (hb.cell (p := ⟨b, o + k * 3 + 2, none⟩) hbl).trans y2'
        dsimp only at y0 y1 y2 hp0 hp1 hst hw1 hw16
        have HST := Lib.hid hst.symm
        clear hb hss hp hoo hst y0' y1' y2' 
        go_wp2
        go_roundw
        case rel => exact ⟨k + 1, _, by omega, by go_num, rfl, by omega, by push_cast; omega, Below.alloc HB.out HB.out.size _, HST⟩
        case measure => simp [intOf]; omega
      · obtain rfl : k = d.length := by omega
        have hs2 := hss.out
        rw [List.take_of_length_le (Nat.le_refl _)] at hs2
        have HZ2 := Lib.hid (show z = (s, 0) by rw [HZ.out, hs2]; rfl)
        clear hb hss hs2
        go_wp2
        go_ret2
        exact ⟨by rw [HZ2.out] <;> rfl, HB.out⟩
  · rw [if_pos h0] at hz
    obtain ⟨z9, hz9⟩ : ∃ z9, z9 = checkD d := ⟨_, rfl⟩
    rw [← hz9] at kc hz h0
    have g1 : (z9 != 0) = true := by rw [bne_iff_ne]; exact h0
    have KC := Lib.hid kc
    have HZ := Lib.hid hz
    clear kc hz h0 h hz9
    go_enter Tryz.func40, Tryz.ntmps40
    go_wp2_with (go_at_call 83; refine KC.out.mono ?_; rintro e w2 ⟨rfl, hb2⟩; have HB2 := Lib.hid hb2; clear hb2)
    go_ret2
    exact ⟨by rw [HZ.out] <;> rfl, HB2.out⟩

end Go.Proofs.YtfnfbojaiikigaaGreatDoor
