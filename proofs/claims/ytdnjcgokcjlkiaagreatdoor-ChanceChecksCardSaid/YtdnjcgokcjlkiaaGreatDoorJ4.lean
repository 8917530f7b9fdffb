/- The walk of ChanceChecks: the program and the reference agree on every list of outcomes. -/
import Derived.Test.YtdnjcgokcjlkiaaGreatDoorJ3
import Derived.Test.YtdnjcgokcjlkiaaGreatDoorH9
import Derived.Test.YtdnjcgokcjlkiaaGreatDoorH12
set_option linter.unusedSimpArgs false
set_option linter.unusedVariables false
namespace Go.Proofs.YtdnjcgokcjlkiaaGreatDoor
open Go.RowKit

theorem otc_ex {W w' : World} {l : List Otc} {u : Int} {e : Ending} (h : OtcPost W (l, u) e w') : ∃ A n c, e = .returned (.tuple #[.slice A n c, .int .i64 u]) ∧ Below W.heap.size W w' ∧ Sl 3 elOtc w' (· < w'.heap.size) (.slice A n c) l := by
  obtain ⟨v, rfl, hs, hb⟩ := h
  obtain ⟨A, c, rfl, _⟩ := hs.shape
  exact ⟨A, _, c, rfl, hb, hs.keep elOtc_good (Same.refl _ _) fun b h => h.2⟩
theorem sl_on {w W : World} {v : Value} {l : List Otc} (h : Sl 3 elOtc w (· < w.heap.size) v l) (hb : Below w.heap.size w W) : Sl 3 elOtc W (· < W.heap.size) v l := h.keep elOtc_good (Same.of_below hb) fun b hx => Nat.lt_of_lt_of_le hx hb.size
set_option maxRecDepth 100000 in
set_option maxHeartbeats 4000000 in
theorem law_ChanceChecks (d : List Otc) (v : Value) (n : Int) (w : World) (hg : GlobN w) (h : Sl 3 elOtc w (· < w.heap.size) v d) :
    Calls Tryz.prog 9 #[v, .int .i64 n] w fun e w' => e = .returned (.bool true) ∧ Below w.heap.size w w' := by
  obtain ⟨A, c, rfl, hc, hc2⟩ := h.shape
  have KAW := Lib.hid (law42_awake w hg)
  by_cases h2 : 200 < d.length
  · have e2 : (200 : Int) < (d.length : Int) := by omega
    clear h hg h2
    go_enter Tryz.func9, Tryz.ntmps9
    go_wp2_with (go_at_call 31; refine KAW.out.mono ?_; rintro e w1 ⟨rfl, hb1⟩; have HB1 := Lib.hid hb1; clear hb1)
    go_ret
    exact ⟨rfl, HB1.out⟩
  · have e2 : (d.length : Int) ≤ 200 := by omega
    have HD := Lib.hid h
    obtain ⟨⟨l, u⟩, hn⟩ : ∃ x, x = normS d := ⟨_, rfl⟩
    obtain ⟨⟨m, me⟩, hm⟩ : ∃ x, x = meanS d := ⟨_, rfl⟩
    obtain ⟨⟨k, ke⟩, hk⟩ : ∃ x, x = riskS d := ⟨_, rfl⟩
    obtain ⟨⟨y, ye⟩, hy⟩ : ∃ x, x = unitS n := ⟨_, rfl⟩
    obtain ⟨x, hx⟩ : ∃ x, x = checkD d := ⟨_, rfl⟩
    have k1 := fun W (hW : Below w.heap.size w W) => (ch_Norm d _ W (sl_on HD.out hW)).mono fun e w' h => by rw [← hn] at h; exact otc_ex h
    have k2 := fun W (hW : Below w.heap.size w W) => (ref_Norm d _ W (sl_on HD.out hW)).mono fun e w' h => by rw [← hn] at h; exact otc_ex h
    have k3 := fun W (hW : Below w.heap.size w W) => ch_Mean d _ W (sl_on HD.out hW)
    have k4 := fun W (hW : Below w.heap.size w W) => ref_Mean d _ W (sl_on HD.out hW)
    have k5 := fun W (hW : Below w.heap.size w W) => ch_Risk d _ W (sl_on HD.out hW)
    have k6 := fun W (hW : Below w.heap.size w W) => ref_Risk d _ W (sl_on HD.out hW)
    have k7 := fun W => ch_Unit n W
    have k8 := fun W => ref_Unit n W
    have k9 := fun W (hW : Below w.heap.size w W) => ch_Check d _ W (sl_on HD.out hW)
    have k10 := fun W (hW : Below w.heap.size w W) => ref_CCheck d _ W (sl_on HD.out hW)
    rw [← hm] at k3 k4
    rw [← hk] at k5 k6
    rw [← hy] at k7 k8
    rw [← hx] at k9 k10
    dsimp only at k3 k4 k5 k6 k7 k8
    have k11 := fun W v1 v2 (h1 : Sl 3 elOtc W (· < W.heap.size) v1 l) (h2 : Sl 3 elOtc W (· < W.heap.size) v2 l) => law_equal l v1 v2 _ _ W h1 h2
    have hchk : u = 0 → checkD l = 0 := fun h0 => by
      have := normS_check (d := d) (by rw [← hn]; exact h0)
      rw [← hn] at this; exact this
    have K1 := Lib.hid k1
    have K2 := Lib.hid k2
    have K3 := Lib.hid k3
    have K4 := Lib.hid k4
    have K5 := Lib.hid k5
    have K6 := Lib.hid k6
    have K7 := Lib.hid k7
    have K8 := Lib.hid k8
    have K9 := Lib.hid k9
    have K10 := Lib.hid k10
    have K11 := Lib.hid k11
    have tok0 : True := trivial
    by_cases h0 : u = 0
    · have k12 := fun W v1 (h1 : Sl 3 elOtc W (· < W.heap.size) v1 l) => ch_Check l v1 W h1
      rw [hchk h0] at k12
      have K12 := Lib.hid k12
      have eu : (u != 0) = false := by rw [h0]; rfl
      clear k1 k2 k3 k4 k5 k6 k7 k8 k9 k10 k11 k12 hn hm hk hy hx hchk h0 h hg h2
      go_enter Tryz.func9, Tryz.ntmps9
      go_wp2_with (first
        | (clear tok0; go_at_call 31; refine KAW.out.mono ?_; rintro e w1 ⟨rfl, hb1⟩; have HB1 := Lib.hid hb1; clear hb1; have tok1 : True := trivial)
        | (clear tok1; go_at_call 32; refine (K1.out _ HB1.out).mono ?_; rintro e w2 ⟨A2, n2, c2, rfl, hb, hs⟩; have HS2 := Lib.hid hs; have HB2 := Lib.hid (HB1.out.trans (hb.mono HB1.out.size)); clear hb hs; have tok2 : True := trivial)
        | (clear tok2; go_at_call 33; refine (K2.out _ HB2.out).mono ?_; rintro e w3 ⟨A3, n3, c3, rfl, hb, hs⟩; have HS3 := Lib.hid (sl_on HS2.out hb); have HT3 := Lib.hid hs; have HB3 := Lib.hid (HB2.out.trans (hb.mono HB2.out.size)); clear hb hs; have tok3 : True := trivial)
        | (clear tok3; go_at_call 15; refine (K3.out _ HB3.out).mono ?_; rintro e w4 ⟨rfl, hb⟩; have HS4 := Lib.hid (sl_on HS3.out hb); have HT4 := Lib.hid (sl_on HT3.out hb); have HB4 := Lib.hid (HB3.out.trans (hb.mono HB3.out.size)); clear hb; have tok4 : True := trivial)
        | (clear tok4; go_at_call 34; refine (K4.out _ HB4.out).mono ?_; rintro e w5 ⟨rfl, hb⟩; have HS5 := Lib.hid (sl_on HS4.out hb); have HT5 := Lib.hid (sl_on HT4.out hb); have HB5 := Lib.hid (HB4.out.trans (hb.mono HB4.out.size)); clear hb; have tok5 : True := trivial)
        | (clear tok5; go_at_call 16; refine (K5.out _ HB5.out).mono ?_; rintro e w6 ⟨rfl, hb⟩; have HS6 := Lib.hid (sl_on HS5.out hb); have HT6 := Lib.hid (sl_on HT5.out hb); have HB6 := Lib.hid (HB5.out.trans (hb.mono HB5.out.size)); clear hb; have tok6 : True := trivial)
        | (clear tok6; go_at_call 35; refine (K6.out _ HB6.out).mono ?_; rintro e w7 ⟨rfl, hb⟩; have HS7 := Lib.hid (sl_on HS6.out hb); have HT7 := Lib.hid (sl_on HT6.out hb); have HB7 := Lib.hid (HB6.out.trans (hb.mono HB6.out.size)); clear hb; have tok7 : True := trivial)
        | (clear tok7; go_at_call 36; refine (K7.out _).mono ?_; rintro e w8 ⟨rfl, rfl⟩; have tok8 : True := trivial)
        | (clear tok8; go_at_call 37; refine (K8.out _).mono ?_; rintro e w9 ⟨rfl, rfl⟩; have tok9 : True := trivial)
        | (clear tok9; go_at_call 14; refine (K9.out _ HB7.out).mono ?_; rintro e w10 ⟨rfl, hb⟩; have HS10 := Lib.hid (sl_on HS7.out hb); have HT10 := Lib.hid (sl_on HT7.out hb); have HB10 := Lib.hid (HB7.out.trans (hb.mono HB7.out.size)); clear hb; have tok10 : True := trivial)
        | (clear tok10; go_at_call 38; refine (K10.out _ HB10.out).mono ?_; rintro e w11 ⟨rfl, hb⟩; have HS11 := Lib.hid (sl_on HS10.out hb); have HT11 := Lib.hid (sl_on HT10.out hb); have HB11 := Lib.hid (HB10.out.trans (hb.mono HB10.out.size)); clear hb; have tok11 : True := trivial)
        | (clear tok11; go_at_call 39; refine (K11.out _ _ _ HS11.out HT11.out).mono ?_; rintro e w12 ⟨rfl, hb⟩; have HS12 := Lib.hid (sl_on HS11.out hb); have HB12 := Lib.hid (HB11.out.trans (hb.mono HB11.out.size)); clear hb; have tok12 : True := trivial)
        | (clear tok12; go_at_call 14; refine (K12.out _ _ HS12.out).mono ?_; rintro e w13 ⟨rfl, hb⟩; have HB13 := Lib.hid (HB12.out.trans (hb.mono HB12.out.size)); clear hb; have tok13 : True := trivial))
      go_ret
      exact ⟨rfl, HB13.out⟩
    · have eu : (u != 0) = true := by simp [h0]
      clear k1 k2 k3 k4 k5 k6 k7 k8 k9 k10 k11 hn hm hk hy hx hchk h0 h hg h2
      go_enter Tryz.func9, Tryz.ntmps9
      go_wp2_with (first
        | (clear tok0; go_at_call 31; refine KAW.out.mono ?_; rintro e w1 ⟨rfl, hb1⟩; have HB1 := Lib.hid hb1; clear hb1; have tok1 : True := trivial)
        | (clear tok1; go_at_call 32; refine (K1.out _ HB1.out).mono ?_; rintro e w2 ⟨A2, n2, c2, rfl, hb, hs⟩; have HS2 := Lib.hid hs; have HB2 := Lib.hid (HB1.out.trans (hb.mono HB1.out.size)); clear hb hs; have tok2 : True := trivial)
        | (clear tok2; go_at_call 33; refine (K2.out _ HB2.out).mono ?_; rintro e w3 ⟨A3, n3, c3, rfl, hb, hs⟩; have HS3 := Lib.hid (sl_on HS2.out hb); have HT3 := Lib.hid hs; have HB3 := Lib.hid (HB2.out.trans (hb.mono HB2.out.size)); clear hb hs; have tok3 : True := trivial)
        | (clear tok3; go_at_call 15; refine (K3.out _ HB3.out).mono ?_; rintro e w4 ⟨rfl, hb⟩; have HS4 := Lib.hid (sl_on HS3.out hb); have HT4 := Lib.hid (sl_on HT3.out hb); have HB4 := Lib.hid (HB3.out.trans (hb.mono HB3.out.size)); clear hb; have tok4 : True := trivial)
        | (clear tok4; go_at_call 34; refine (K4.out _ HB4.out).mono ?_; rintro e w5 ⟨rfl, hb⟩; have HS5 := Lib.hid (sl_on HS4.out hb); have HT5 := Lib.hid (sl_on HT4.out hb); have HB5 := Lib.hid (HB4.out.trans (hb.mono HB4.out.size)); clear hb; have tok5 : True := trivial)
        | (clear tok5; go_at_call 16; refine (K5.out _ HB5.out).mono ?_; rintro e w6 ⟨rfl, hb⟩; have HS6 := Lib.hid (sl_on HS5.out hb); have HT6 := Lib.hid (sl_on HT5.out hb); have HB6 := Lib.hid (HB5.out.trans (hb.mono HB5.out.size)); clear hb; have tok6 : True := trivial)
        | (clear tok6; go_at_call 35; refine (K6.out _ HB6.out).mono ?_; rintro e w7 ⟨rfl, hb⟩; have HS7 := Lib.hid (sl_on HS6.out hb); have HT7 := Lib.hid (sl_on HT6.out hb); have HB7 := Lib.hid (HB6.out.trans (hb.mono HB6.out.size)); clear hb; have tok7 : True := trivial)
        | (clear tok7; go_at_call 36; refine (K7.out _).mono ?_; rintro e w8 ⟨rfl, rfl⟩; have tok8 : True := trivial)
        | (clear tok8; go_at_call 37; refine (K8.out _).mono ?_; rintro e w9 ⟨rfl, rfl⟩; have tok9 : True := trivial)
        | (clear tok9; go_at_call 14; refine (K9.out _ HB7.out).mono ?_; rintro e w10 ⟨rfl, hb⟩; have HS10 := Lib.hid (sl_on HS7.out hb); have HT10 := Lib.hid (sl_on HT7.out hb); have HB10 := Lib.hid (HB7.out.trans (hb.mono HB7.out.size)); clear hb; have tok10 : True := trivial)
        | (clear tok10; go_at_call 38; refine (K10.out _ HB10.out).mono ?_; rintro e w11 ⟨rfl, hb⟩; have HS11 := Lib.hid (sl_on HS10.out hb); have HT11 := Lib.hid (sl_on HT10.out hb); have HB11 := Lib.hid (HB10.out.trans (hb.mono HB10.out.size)); clear hb; have tok11 : True := trivial)
        | (clear tok11; go_at_call 39; refine (K11.out _ _ _ HS11.out HT11.out).mono ?_; rintro e w12 ⟨rfl, hb⟩; have HB12 := Lib.hid (HB11.out.trans (hb.mono HB11.out.size)); clear hb; have tok12 : True := trivial))
      go_ret
      exact ⟨rfl, HB12.out⟩
end Go.Proofs.YtdnjcgokcjlkiaaGreatDoor
