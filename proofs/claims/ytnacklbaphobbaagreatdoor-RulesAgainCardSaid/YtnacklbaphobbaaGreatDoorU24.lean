/- The walk of RulesStandard. -/
import Derived.Test.YtnacklbaphobbaaGreatDoorU22
set_option linter.unusedSimpArgs false
set_option linter.unusedVariables false
namespace Go.Proofs.YtnacklbaphobbaaGreatDoor
open Go.RowKit

theorem cut_at (s : ByteArray) (k : Nat) : s.extract 0 (min (s.size : Int) (k : Int)).toNat = S (s.data.toList.take k) := by
  have h := S_extractR s.data.toList (min (s.size : Int) (k : Int)).toNat
  have hz : s.data.toList.length = s.size := by simp
  rw [S_of] at h
  rw [h]
  congr 1
  by_cases hk : s.size ≤ k
  · rw [show (min (s.size : Int) (k : Int)).toNat = s.size from by omega, List.take_of_length_le (by omega), List.take_of_length_le (by omega)]
  · rw [show (min (s.size : Int) (k : Int)).toNat = k from by omega]
theorem cut_str (s : ByteArray) : s.extract 0 (min (s.size : Int) 20).toNat = S (s.data.toList.take 20) := cut_at s 20
theorem std_small (n : List UInt8) : (standardS n).1.name.length ≤ 1000000000 := by
  unfold standardS
  by_cases h1 : n = kTEST
  · rw [if_pos h1]; decide +kernel
  · by_cases h2 : n = kONEDAY
    · rw [if_neg h1, if_pos h2]; decide +kernel
    · by_cases h3 : n = kTWENTY
      · rw [if_neg h1, if_neg h2, if_pos h3]; decide +kernel
      · rw [if_neg h1, if_neg h2, if_neg h3]; decide +kernel
set_option maxRecDepth 100000 in
set_option maxHeartbeats 4000000 in
theorem law_RStandard (s : ByteArray) (w : World) (hg : GlobN w) (hl : s.size ≤ maxLen) : Calls Tryz.prog 4 #[.string s] w fun e w' => e = .returned (.bool true) ∧ Below w.heap.size w w' := by
  unfold maxLen at hl
  have haw := law05_awake w hg
  have hcut := cut_str s
  obtain ⟨n, hn⟩ : ∃ n, n = s.data.toList.take 20 := ⟨_, rfl⟩
  rw [← hn] at hcut
  have k1 := fun W => (rul_Standard n W).mono fun e w' h => bx_of h
  have k2 := fun W => (ref_Standard n W).mono fun e w' h => bx_of h
  have hsm := std_small n
  have hok : (standardS n).2 = 0 → checkR (standardS n).1 = 0 ∧ (standardS n).1.name = n := fun h => standard_ok h
  obtain ⟨q, hq⟩ : ∃ q, q = (standardS n).1 := ⟨_, rfl⟩
  obtain ⟨u, hu⟩ : ∃ u, u = (standardS n).2 := ⟨_, rfl⟩
  rw [← hq, ← hu] at k1 k2 hok
  rw [← hq] at hsm
  obtain ⟨x, hx⟩ : ∃ x, x = S n := ⟨_, rfl⟩
  rw [← hx] at hcut k1 k2
  have k3 := fun W pv qv (h : Sl 3 elPha W (· < W.heap.size) pv q.power) (h' : Sl 3 elPha W (· < W.heap.size) qv q.power) => rul_Same q q.power q.power pv qv W h h'
  rw [eqPhas_self] at k3
  have k4 := fun W pv (h : Sl 3 elPha W (· < W.heap.size) pv q.power) => rul_Check q pv W h hsm
  unfold rulV rulCells at k3 k4
  have huu : (u == u) = true := by simp
  have HAW := Lib.hid haw
  have K1 := Lib.hid k1
  have K2 := Lib.hid k2
  have K3 := Lib.hid k3
  by_cases h0 : u = 0
  · obtain ⟨hc, hnm⟩ := hok h0
    rw [hc] at k4
    have K4 := Lib.hid k4
    have e0 : (u != 0) = false := by rw [h0]; rfl
    have ex : (q.name == x.toList) = true := by rw [hnm, hx, ByteArray.toList_eq, S_data]; simp
    have tok0 : True := trivial
    clear haw k1 k2 k3 k4 hsm hok hq hu hx hn hg hc hnm h0
    as_aux_lemma =>
      go_enter Tryz.func4, Tryz.ntmps4
      go_wp2_with (first
    | (clear tok0; go_at_call 10; refine HAW.out.mono ?_; rintro e w1 ⟨rfl, hb1⟩; have HB1 := Lib.hid hb1; clear hb1; have tok1 : True := trivial)
    | (clear tok1; go_at_call 18; refine (K1.out _).mono ?_; rintro e w2 ⟨A1, n1, c1, rfl, hb, hs⟩; have HS2 := Lib.hid (RulAt.new hs); have HB2 := Lib.hid (HB1.out.trans ((Below.alloc hb hb.size (.cells (rulCells q (.slice A1 n1 c1)) 24)).mono HB1.out.size)); clear hb hs; have tok2 : True := trivial)
    | (clear tok2; go_at_call 19; refine (K2.out _).mono ?_; rintro e w3 ⟨A2, n2, c2, rfl, hb, hs⟩; have ha := Below.alloc hb hb.size (.cells (rulCells q (.slice A2 n2 c2)) 24); have HS3 := Lib.hid (HS2.out.below ha); have HR3 := Lib.hid (RulAt.new hs); have HB3 := Lib.hid (HB2.out.trans (ha.mono HB2.out.size)); have hz := HS2.out.below hb; obtain ⟨y0, y1, y2, y3, y4, y5, y6, y7, y8, y9, y10, y11, y12, y13⟩ := Blk.fourteen (show Blk _ _ _ #[.string (S q.name), .int .i64 q.side, .int .i64 q.inns, .int .i64 q.overs, .int .i64 q.balls, .int .i64 q.quota, .int .i64 q.wide, .int .i64 q.noball, .bool q.free, .int .i64 q.newball, .int .i64 q.follow, .int .i64 q.reviews, .int .i64 q.outside, .slice A1 n1 c1] from hz.blk); have hz3 := hz.blk.lt; clear hz hb hs ha; have tok3 : True := trivial)
    | (clear tok3; go_at_call 20; refine (K3.out _ _ _ HS3.out.sl HR3.out.sl).mono ?_; rintro e w4 ⟨rfl, hb⟩; clear y0 y1 y2 y3 y4 y5 y6 y7 y8 y9 y10 y11 y12 y13; have hs := HS3.out.below hb; have hr := HR3.out.below hb; obtain ⟨y0, y1, y2, y3, y4, y5, y6, y7, y8, y9, y10, y11, y12, y13⟩ := Blk.fourteen (show Blk _ _ _ #[.string (S q.name), .int .i64 q.side, .int .i64 q.inns, .int .i64 q.overs, .int .i64 q.balls, .int .i64 q.quota, .int .i64 q.wide, .int .i64 q.noball, .bool q.free, .int .i64 q.newball, .int .i64 q.follow, .int .i64 q.reviews, .int .i64 q.outside, .slice A1 n1 c1] from hs.blk); obtain ⟨z0, z1, z2, z3, z4, z5, z6, z7, z8, z9, z10, z11, z12, z13⟩ := Blk.fourteen (show Blk _ _ _ #[.string (S q.name), .int .i64 q.side, .int .i64 q.inns, .int .i64 q.overs, .int .i64 q.balls, .int .i64 q.quota, .int .i64 q.wide, .int .i64 q.noball, .bool q.free, .int .i64 q.newball, .int .i64 q.follow, .int .i64 q.reviews, .int .i64 q.outside, .slice A2 n2 c2] from hr.blk); have HS4 := Lib.hid hs; have HB4 := Lib.hid (HB3.out.trans (hb.mono HB3.out.size)); clear hs hr hb; have tok4 : True := trivial)
    | (clear tok4; go_at_call 12; refine (K4.out _ _ HS4.out.sl).mono ?_; rintro e w5 ⟨rfl, hb⟩; clear y0 y1 y2 y3 y4 y5 y6 y7 y8 y9 y10 y11 y12 y13 z0 z1 z2 z3 z4 z5 z6 z7 z8 z9 z10 z11 z12 z13; have hs := HS4.out.below hb; obtain ⟨y0, y1, y2, y3, y4, y5, y6, y7, y8, y9, y10, y11, y12, y13⟩ := Blk.fourteen (show Blk _ _ _ #[.string (S q.name), .int .i64 q.side, .int .i64 q.inns, .int .i64 q.overs, .int .i64 q.balls, .int .i64 q.quota, .int .i64 q.wide, .int .i64 q.noball, .bool q.free, .int .i64 q.newball, .int .i64 q.follow, .int .i64 q.reviews, .int .i64 q.outside, .slice A1 n1 c1] from hs.blk); have HB5 := Lib.hid (HB4.out.trans (hb.mono HB4.out.size)); clear hs hb; have tok5 : True := trivial))
      go_ret
      exact ⟨rfl, HB5.out⟩
  · have e0 : (u != 0) = true := by simp [h0]
    have tok0 : True := trivial
    clear haw k1 k2 k3 k4 hsm hok hq hu hx hn hg h0
    as_aux_lemma =>
      go_enter Tryz.func4, Tryz.ntmps4
      go_wp2_with (first
    | (clear tok0; go_at_call 10; refine HAW.out.mono ?_; rintro e w1 ⟨rfl, hb1⟩; have HB1 := Lib.hid hb1; clear hb1; have tok1 : True := trivial)
    | (clear tok1; go_at_call 18; refine (K1.out _).mono ?_; rintro e w2 ⟨A1, n1, c1, rfl, hb, hs⟩; have HS2 := Lib.hid (RulAt.new hs); have HB2 := Lib.hid (HB1.out.trans ((Below.alloc hb hb.size (.cells (rulCells q (.slice A1 n1 c1)) 24)).mono HB1.out.size)); clear hb hs; have tok2 : True := trivial)
    | (clear tok2; go_at_call 19; refine (K2.out _).mono ?_; rintro e w3 ⟨A2, n2, c2, rfl, hb, hs⟩; have ha := Below.alloc hb hb.size (.cells (rulCells q (.slice A2 n2 c2)) 24); have HS3 := Lib.hid (HS2.out.below ha); have HR3 := Lib.hid (RulAt.new hs); have HB3 := Lib.hid (HB2.out.trans (ha.mono HB2.out.size)); have hz := HS2.out.below hb; obtain ⟨y0, y1, y2, y3, y4, y5, y6, y7, y8, y9, y10, y11, y12, y13⟩ := Blk.fourteen (show Blk _ _ _ #[.string (S q.name), .int .i64 q.side, .int .i64 q.inns, .int .i64 q.overs, .int .i64 q.balls, .int .i64 q.quota, .int .i64 q.wide, .int .i64 q.noball, .bool q.free, .int .i64 q.newball, .int .i64 q.follow, .int .i64 q.reviews, .int .i64 q.outside, .slice A1 n1 c1] from hz.blk); have hz3 := hz.blk.lt; clear hz hb hs ha; have tok3 : True := trivial)
    | (clear tok3; go_at_call 20; refine (K3.out _ _ _ HS3.out.sl HR3.out.sl).mono ?_; rintro e w4 ⟨rfl, hb⟩; clear y0 y1 y2 y3 y4 y5 y6 y7 y8 y9 y10 y11 y12 y13; have hs := HS3.out.below hb; have hr := HR3.out.below hb; obtain ⟨y0, y1, y2, y3, y4, y5, y6, y7, y8, y9, y10, y11, y12, y13⟩ := Blk.fourteen (show Blk _ _ _ #[.string (S q.name), .int .i64 q.side, .int .i64 q.inns, .int .i64 q.overs, .int .i64 q.balls, .int .i64 q.quota, .int .i64 q.wide, .int .i64 q.noball, .bool q.free, .int .i64 q.newball, .int .i64 q.follow, .int .i64 q.reviews, .int .i64 q.outside, .slice A1 n1 c1] from hs.blk); obtain ⟨z0, z1, z2, z3, z4, z5, z6, z7, z8, z9, z10, z11, z12, z13⟩ := Blk.fourteen (show Blk _ _ _ #[.string (S q.name), .int .i64 q.side, .int .i64 q.inns, .int .i64 q.overs, .int .i64 q.balls, .int .i64 q.quota, .int .i64 q.wide, .int .i64 q.noball, .bool q.free, .int .i64 q.newball, .int .i64 q.follow, .int .i64 q.reviews, .int .i64 q.outside, .slice A2 n2 c2] from hr.blk); have HS4 := Lib.hid hs; have HB4 := Lib.hid (HB3.out.trans (hb.mono HB3.out.size)); clear hs hr hb; have tok4 : True := trivial))
      go_ret
      exact ⟨rfl, HB4.out⟩
end Go.Proofs.YtnacklbaphobbaaGreatDoor
