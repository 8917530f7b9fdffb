/- The walk of RulesAgain. -/
import Derived.Test.YtnacklbaphobbaaGreatDoorU24
set_option linter.unusedSimpArgs false
set_option linter.unusedVariables false
namespace Go.Proofs.YtnacklbaphobbaaGreatDoor
open Go.RowKit

theorem cut_700 (s : ByteArray) : s.extract 0 (min (s.size : Int) 700).toNat = S (s.data.toList.take 700) := cut_at s 700
theorem nameS_small {t : List UInt8} (h : nameS t = true) : t.length ≤ 1000000000 := by have := name_len h; omega
theorem parseR_small {s : List UInt8} (h : (parseR s).2 = []) : (parseR s).1.name.length ≤ 1000000000 := nameS_small (checkR_ok (parseR_good h)).1
theorem take_size (s : ByteArray) (k : Nat) : (S (s.data.toList.take k)).size ≤ k := by rw [S_size, List.length_take]; omega
set_option maxRecDepth 100000 in
set_option maxHeartbeats 4000000 in
theorem law_RAgain (s : ByteArray) (w : World) (hg : GlobN w) (hl : s.size ≤ maxLen) : Calls Tryz.prog 8 #[.string s] w fun e w' => e = .returned (.bool true) ∧ Below w.heap.size w w' := by
  unfold maxLen at hl
  have haw := law05_awake w hg
  have hcut := cut_700 s
  have hts := take_size s 700
  obtain ⟨t, ht⟩ : ∃ t, t = s.data.toList.take 700 := ⟨_, rfl⟩
  rw [← ht] at hcut hts
  have k1 := fun W (hW : Below w.heap.size w W) => (rul_Parse (S t) W (hg.below hW) (by omega)).mono fun e w' h => pa_of (q := (parseR t).1) (ds := (parseR t).2) (by rw [S_data] at h; exact h)
  have hsm := fun h => parseR_small (s := t) h
  have hck := fun h => parseR_good (s := t) h
  have hbd := fun h => parseR_bad (s := t) h
  obtain ⟨q, hq⟩ : ∃ q, q = (parseR t).1 := ⟨_, rfl⟩
  obtain ⟨ds, hds⟩ : ∃ ds, ds = (parseR t).2 := ⟨_, rfl⟩
  rw [← hq, ← hds] at k1 hbd
  rw [← hq] at hck
  rw [← hq] at hsm
  rw [← hds] at hsm hck
  obtain ⟨x, hx⟩ : ∃ x, x = S t := ⟨_, rfl⟩
  rw [← hx] at hcut k1
  have HAW := Lib.hid haw
  have K1 := Lib.hid k1
  by_cases h0 : ds = []
  · subst h0
    have hn := hsm rfl
    have hc := hck rfl
    have htx : textR q = (writeS (rulLines q), 0) := textR_ok hc
    have hpa := parseR_text hc
    have hln := rulText_len hc
    obtain ⟨T, hT⟩ : ∃ T, T = writeS (rulLines q) := ⟨_, rfl⟩
    rw [← hT] at htx hpa hln
    have k2 := fun W pv (hW : Below w.heap.size w W) (h : Sl 3 elPha W (· < W.heap.size) pv q.power) => rul_Text q pv W (hg.below hW) h hn
    rw [htx] at k2
    have k3 := fun W (hW : Below w.heap.size w W) => (rul_Parse (S T) W (hg.below hW) (by rw [S_size]; omega)).mono fun e w' h => pa_of (q := q) (ds := []) (by rw [S_data, hpa] at h; exact h)
    have k4 := fun W pv (h : Sl 3 elPha W (· < W.heap.size) pv q.power) => rul_Check q pv W h hn
    rw [hc] at k4
    have k5 := fun W pv qv (h : Sl 3 elPha W (· < W.heap.size) pv q.power) (h' : Sl 3 elPha W (· < W.heap.size) qv q.power) => rul_Same q q.power q.power pv qv W h h'
    rw [eqPhas_self] at k5
    unfold rulV rulCells at k2 k4 k5
    have K2 := Lib.hid k2
    have K3 := Lib.hid k3
    have K4 := Lib.hid k4
    have K5 := Lib.hid k5
    have tok0 : True := trivial
    clear haw k1 k2 k3 k4 k5 hsm hck hbd hn hc htx hpa hln hT hq hds hx ht hts hg hl
    as_aux_lemma =>
      go_enter Tryz.func8, Tryz.ntmps8
      go_wp2_with (first
    | (clear tok0; go_at_call 10; refine HAW.out.mono ?_; rintro e w1 ⟨rfl, hb1⟩; have HB1 := Lib.hid hb1; clear hb1; have tok1 : True := trivial)
    | (clear tok1; go_at_call 23; refine (K1.out _ HB1.out).mono ?_; rintro e w2 ⟨A1, n1, c1, D1, d1, rfl, hb, hs, hd⟩; have hr := RulAt.new hs; obtain ⟨y0, y1, y2, y3, y4, y5, y6, y7, y8, y9, y10, y11, y12, y13⟩ := Blk.fourteen (show Blk _ _ _ #[.string (S q.name), .int .i64 q.side, .int .i64 q.inns, .int .i64 q.overs, .int .i64 q.balls, .int .i64 q.quota, .int .i64 q.wide, .int .i64 q.noball, .bool q.free, .int .i64 q.newball, .int .i64 q.follow, .int .i64 q.reviews, .int .i64 q.outside, .slice A1 n1 c1] from hr.blk); have HS2 := Lib.hid hr; have HB2 := Lib.hid (HB1.out.trans ((Below.alloc hb hb.size (.cells (rulCells q (.slice A1 n1 c1)) 24)).mono HB1.out.size)); clear hb hs hd hr; have tok2 : True := trivial)
    | (clear tok2; go_at_call 21; refine (K2.out _ _ HB2.out HS2.out.sl).mono ?_; rintro e w3 ⟨rfl, hb⟩; have HS3 := Lib.hid (HS2.out.below hb); have HB3 := Lib.hid (HB2.out.trans (hb.mono HB2.out.size)); clear hb y0 y1 y2 y3 y4 y5 y6 y7 y8 y9 y10 y11 y12 y13; have tok3 : True := trivial)
    | (clear tok3; go_at_call 23; refine (K3.out _ HB3.out).mono ?_; rintro e w4 ⟨A4, n4, c4, D4, d4, rfl, hb, hs, hd⟩; have ha := Below.alloc hb hb.size (.cells (rulCells q (.slice A4 n4 c4)) 24); have HS4 := Lib.hid (HS3.out.below ha); have HR4 := Lib.hid (RulAt.new hs); have HB4 := Lib.hid (HB3.out.trans (ha.mono HB3.out.size)); have hz := HS3.out.below hb; obtain ⟨y0, y1, y2, y3, y4, y5, y6, y7, y8, y9, y10, y11, y12, y13⟩ := Blk.fourteen (show Blk _ _ _ #[.string (S q.name), .int .i64 q.side, .int .i64 q.inns, .int .i64 q.overs, .int .i64 q.balls, .int .i64 q.quota, .int .i64 q.wide, .int .i64 q.noball, .bool q.free, .int .i64 q.newball, .int .i64 q.follow, .int .i64 q.reviews, .int .i64 q.outside, .slice A1 n1 c1] from hz.blk); have hz3 := hz.blk.lt; clear hz hb hs hd ha; have tok4 : True := trivial)
    | (clear tok4; go_at_call 12; refine (K4.out _ _ HS4.out.sl).mono ?_; rintro e w5 ⟨rfl, hb⟩; clear y0 y1 y2 y3 y4 y5 y6 y7 y8 y9 y10 y11 y12 y13; have hs := HS4.out.below hb; have hr := HR4.out.below hb; obtain ⟨y0, y1, y2, y3, y4, y5, y6, y7, y8, y9, y10, y11, y12, y13⟩ := Blk.fourteen (show Blk _ _ _ #[.string (S q.name), .int .i64 q.side, .int .i64 q.inns, .int .i64 q.overs, .int .i64 q.balls, .int .i64 q.quota, .int .i64 q.wide, .int .i64 q.noball, .bool q.free, .int .i64 q.newball, .int .i64 q.follow, .int .i64 q.reviews, .int .i64 q.outside, .slice A1 n1 c1] from hs.blk); obtain ⟨z0, z1, z2, z3, z4, z5, z6, z7, z8, z9, z10, z11, z12, z13⟩ := Blk.fourteen (show Blk _ _ _ #[.string (S q.name), .int .i64 q.side, .int .i64 q.inns, .int .i64 q.overs, .int .i64 q.balls, .int .i64 q.quota, .int .i64 q.wide, .int .i64 q.noball, .bool q.free, .int .i64 q.newball, .int .i64 q.follow, .int .i64 q.reviews, .int .i64 q.outside, .slice A4 n4 c4] from hr.blk); have HS5 := Lib.hid hs; have HR5 := Lib.hid hr; have HB5 := Lib.hid (HB4.out.trans (hb.mono HB4.out.size)); clear hs hr hb; have tok5 : True := trivial)
    | (clear tok5; go_at_call 20; refine (K5.out _ _ _ HS5.out.sl HR5.out.sl).mono ?_; rintro e w6 ⟨rfl, hb⟩; clear y0 y1 y2 y3 y4 y5 y6 y7 y8 y9 y10 y11 y12 y13 z0 z1 z2 z3 z4 z5 z6 z7 z8 z9 z10 z11 z12 z13; have HB6 := Lib.hid (HB5.out.trans (hb.mono HB5.out.size)); clear hb; have tok6 : True := trivial))
      go_ret
      exact ⟨rfl, HB6.out⟩
  · have hqq := (hbd h0).1
    have hd0 : 0 < ds.length := List.length_pos_iff.2 h0
    obtain ⟨m, hm⟩ : ∃ m, ds.length = m + 1 := ⟨ds.length - 1, by omega⟩
    subst hqq
    have k5 := fun W pv (h : Sl 3 elPha W (· < W.heap.size) pv noRul.power) => rul_Same noRul [] [] pv (.slice none 0 0) W h (Sl.nil _ _)
    rw [eqPhas_self] at k5
    unfold rulV rulCells at k5
    have K5 := Lib.hid k5
    have e0 : (((m : Int) + 1) == 0) = false := beq_eq_false_iff_ne.2 (by omega)
    have e1 : decide ((0 : Int) < (m : Int) + 1) = true := decide_eq_true (by omega)
    have tok0 : True := trivial
    clear haw k1 k5 hsm hck hbd hq hds hx ht hts hg hl h0
    as_aux_lemma =>
      go_enter Tryz.func8, Tryz.ntmps8
      go_wp2_with (first
    | (clear tok0; go_at_call 10; refine HAW.out.mono ?_; rintro e w1 ⟨rfl, hb1⟩; have HB1 := Lib.hid hb1; clear hb1; have tok1 : True := trivial)
    | (clear tok1; go_at_call 23; refine (K1.out _ HB1.out).mono ?_; rintro e w2 ⟨A1, n1, c1, D1, d1, rfl, hb, hs, hd⟩; have hr := RulAt.new hs; obtain ⟨y0, y1, y2, y3, y4, y5, y6, y7, y8, y9, y10, y11, y12, y13⟩ := Blk.fourteen (show Blk _ _ _ #[.string (S noRul.name), .int .i64 noRul.side, .int .i64 noRul.inns, .int .i64 noRul.overs, .int .i64 noRul.balls, .int .i64 noRul.quota, .int .i64 noRul.wide, .int .i64 noRul.noball, .bool noRul.free, .int .i64 noRul.newball, .int .i64 noRul.follow, .int .i64 noRul.reviews, .int .i64 noRul.outside, .slice A1 n1 c1] from hr.blk); have HS2 := Lib.hid hr; have HB2 := Lib.hid (HB1.out.trans ((Below.alloc hb hb.size (.cells (rulCells noRul (.slice A1 n1 c1)) 24)).mono HB1.out.size)); clear hb hs hd hr; have tok2 : True := trivial)
    | (clear tok2; go_at_call 20; refine (K5.out _ _ HS2.out.sl).mono ?_; rintro e w3 ⟨rfl, hb⟩; have HB3 := Lib.hid (HB2.out.trans (hb.mono HB2.out.size)); clear hb y0 y1 y2 y3 y4 y5 y6 y7 y8 y9 y10 y11 y12 y13; have tok3 : True := trivial))
      go_ret
      exact ⟨rfl, HB3.out⟩
end Go.Proofs.YtnacklbaphobbaaGreatDoor
