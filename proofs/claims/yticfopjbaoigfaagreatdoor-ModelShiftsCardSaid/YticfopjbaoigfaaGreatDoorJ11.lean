/- The walk of ModelShifts: the program and the reference agree on every list of outcomes and every shift. -/
import Derived.Test.YticfopjbaoigfaaGreatDoorJ10
set_option linter.unusedSimpArgs false
set_option linter.unusedVariables false
namespace Go.Proofs.YticfopjbaoigfaaGreatDoor
open Go.RowKit

set_option maxRecDepth 100000 in
set_option maxHeartbeats 4000000 in
theorem law_ModelShifts (d : List Otc) (v : Value) (n : Int) (w : World) (hg : GlobN w) (h : Sl 3 elOtc w (· < w.heap.size) v d) :
    Calls Tryz.prog 3 #[v, .int .i64 n] w fun e w' => e = .returned (.bool true) ∧ Below w.heap.size w w' := by
  obtain ⟨A, c, rfl, hc, hc2⟩ := h.shape
  have KAW := Lib.hid (law43_awake w hg)
  by_cases h2 : 100 < d.length
  · have e2 : (100 : Int) < (d.length : Int) := by omega
    clear h hg h2
    go_enter Tryz.func3, Tryz.ntmps3
    go_wp2_with (go_at_call 9; refine KAW.out.mono ?_; rintro e w1 ⟨rfl, hb1⟩; have HB1 := Lib.hid hb1; clear hb1)
    go_ret
    exact ⟨rfl, HB1.out⟩
  · have e2 : (d.length : Int) ≤ 100 := by omega
    have HD := Lib.hid h
    obtain ⟨⟨l, u⟩, hn⟩ : ∃ x, x = shiftS d n := ⟨_, rfl⟩
    have k1 := fun W (hW : Below w.heap.size w W) => (m_Shift d _ n W (sl_on3 HD.out hW)).mono fun e w' h => by rw [← hn] at h; exact otc_ex3 h
    have k2 := fun W (hW : Below w.heap.size w W) => (r_Shift d _ n W (sl_on3 HD.out hW)).mono fun e w' h => by rw [← hn] at h; exact otc_ex3 h
    have k11 := fun W v1 v2 (h1 : Sl 3 elOtc W (· < W.heap.size) v1 l) (h2 : Sl 3 elOtc W (· < W.heap.size) v2 l) => law43_equal l v1 v2 _ _ W h1 h2
    have hchk : u = 0 → checkD l = 0 := fun h0 => by
      have := (shift_check (d := d) (n := n) (by rw [← hn]; exact h0)).1
      rw [← hn] at this; exact this
    have K1 := Lib.hid k1
    have K2 := Lib.hid k2
    have K11 := Lib.hid k11
    have tok0 : True := trivial
    by_cases h0 : u = 0
    · have k12 := fun W v1 (h1 : Sl 3 elOtc W (· < W.heap.size) v1 l) => ch_Check l v1 W h1
      rw [hchk h0] at k12
      have K12 := Lib.hid k12
      have eu : (u != 0) = false := by rw [h0]; rfl
      clear k1 k2 k11 k12 hn hchk h0 h hg h2
      go_enter Tryz.func3, Tryz.ntmps3
      go_wp2_with (first
        | (clear tok0; go_at_call 9; refine KAW.out.mono ?_; rintro e w1 ⟨rfl, hb1⟩; have HB1 := Lib.hid hb1; clear hb1; have tok1 : True := trivial)
        | (clear tok1; go_at_call 10; refine (K1.out _ HB1.out).mono ?_; rintro e w2 ⟨A2, n2, c2, rfl, hb, hs⟩; have HS2 := Lib.hid hs; have HB2 := Lib.hid (HB1.out.trans (hb.mono HB1.out.size)); clear hb hs; have tok2 : True := trivial)
        | (clear tok2; go_at_call 11; refine (K2.out _ HB2.out).mono ?_; rintro e w3 ⟨A3, n3, c3, rfl, hb, hs⟩; have HS3 := Lib.hid (sl_on3 HS2.out hb); have HT3 := Lib.hid hs; have HB3 := Lib.hid (HB2.out.trans (hb.mono HB2.out.size)); clear hb hs; have tok3 : True := trivial)
        | (clear tok3; go_at_call 12; refine (K11.out _ _ _ HS3.out HT3.out).mono ?_; rintro e w12 ⟨rfl, hb⟩; have HS12 := Lib.hid (sl_on3 HS3.out hb); have HB12 := Lib.hid (HB3.out.trans (hb.mono HB3.out.size)); clear hb; have tok12 : True := trivial)
        | (clear tok12; go_at_call 13; refine (K12.out _ _ HS12.out).mono ?_; rintro e w13 ⟨rfl, hb⟩; have HB13 := Lib.hid (HB12.out.trans (hb.mono HB12.out.size)); clear hb; have tok13 : True := trivial))
      go_ret
      exact ⟨rfl, HB13.out⟩
    · have eu : (u != 0) = true := by simp [h0]
      clear k1 k2 k11 hn hchk h0 h hg h2
      go_enter Tryz.func3, Tryz.ntmps3
      go_wp2_with (first
        | (clear tok0; go_at_call 9; refine KAW.out.mono ?_; rintro e w1 ⟨rfl, hb1⟩; have HB1 := Lib.hid hb1; clear hb1; have tok1 : True := trivial)
        | (clear tok1; go_at_call 10; refine (K1.out _ HB1.out).mono ?_; rintro e w2 ⟨A2, n2, c2, rfl, hb, hs⟩; have HS2 := Lib.hid hs; have HB2 := Lib.hid (HB1.out.trans (hb.mono HB1.out.size)); clear hb hs; have tok2 : True := trivial)
        | (clear tok2; go_at_call 11; refine (K2.out _ HB2.out).mono ?_; rintro e w3 ⟨A3, n3, c3, rfl, hb, hs⟩; have HS3 := Lib.hid (sl_on3 HS2.out hb); have HT3 := Lib.hid hs; have HB3 := Lib.hid (HB2.out.trans (hb.mono HB2.out.size)); clear hb hs; have tok3 : True := trivial)
        | (clear tok3; go_at_call 12; refine (K11.out _ _ _ HS3.out HT3.out).mono ?_; rintro e w12 ⟨rfl, hb⟩; have HB12 := Lib.hid (HB3.out.trans (hb.mono HB3.out.size)); clear hb; have tok12 : True := trivial))
      go_ret
      exact ⟨rfl, HB12.out⟩
end Go.Proofs.YticfopjbaoigfaaGreatDoor
