/- The examples of the chapter hold (awake); the rules cut to a size (few). -/
import Derived.Test.YtnacklbaphobbaaGreatDoorU14
import Derived.Test.YtnacklbaphobbaaGreatDoorU16
import Derived.Test.YtnacklbaphobbaaGreatDoorU8
import Derived.Test.YtnacklbaphobbaaGreatDoorU20
set_option linter.unusedSimpArgs false
set_option linter.unusedVariables false
namespace Go.Proofs.YtnacklbaphobbaaGreatDoor
open Go.RowKit

theorem dec_one {v : Nat} (h : v < 10) : Lib.decDigits v = [UInt8.ofNat (48 + v)] := by unfold Lib.decDigits; rw [dif_pos h]
theorem dec_two {v : Nat} (h : ¬ v < 10) (h2 : v / 10 < 10) : Lib.decDigits v = [UInt8.ofNat (48 + v / 10), UInt8.ofNat (48 + v % 10)] := by
  unfold Lib.decDigits; rw [dif_neg h, dec_one h2]; rfl
theorem decW_11 : decW 11 = [49, 49] := by rw [(decW_facts (by decide : (0 : Int) ≤ 11)).1]; exact dec_two (by decide) (by decide)
theorem decW_1 : decW 1 = [49] := by rw [(decW_facts (by decide : (0 : Int) ≤ 1)).1]; exact dec_one (by decide)
theorem decW_20 : decW 20 = [50, 48] := by rw [(decW_facts (by decide : (0 : Int) ≤ 20)).1]; exact dec_two (by decide) (by decide)
theorem write_two {a b : List UInt8} (ha : wordS a = true) (hb : wordS b = true) (ls : List Lin) : writeS (lineR [a, b] :: ls) = a ++ 32 :: (b ++ 10 :: writeS ls) := by
  rw [writeS]
  have e : (lineR [a, b]).fields = [wordF a, wordF b] := rfl
  rw [e]
  unfold endW
  simp [lineW, fieldW_word ha, fieldW_word hb]
def awT : List UInt8 := [82, 85, 76, 69, 83, 32, 84, 87, 69, 78, 84, 89, 10, 83, 73, 68, 69, 32, 49, 49, 10, 73, 78, 78, 73, 78, 71, 83, 32, 49, 10, 79, 86, 69, 82, 83, 32, 50, 48, 10]
theorem aw_prefix : Lib.hasPrefix (writeS (rulLines stdTwenty)) awT = true := by
  have e : rulLines stdTwenty = lineR [kRULES, kTWENTY] :: lineR [kSIDE, decW 11] :: lineR [kINNINGS, decW 1] :: lineR [kOVERS, decW 20] :: (rulLines stdTwenty).drop 4 := rfl
  rw [e, decW_11, decW_1, decW_20, write_two (by decide) (by decide), write_two (by decide) (by decide), write_two (by decide) (by decide), write_two (by decide) (by decide)]
  generalize writeS _ = T
  unfold Lib.hasPrefix awT kRULES kTWENTY kSIDE kINNINGS kOVERS
  simp
/-- What Standard, Parse and Text hand on. -/
def BxPost (w : World) (q : Rul) (u : Int) (e : Ending) (w' : World) : Prop := ∃ A n c, e = .returned (.tuple #[.agg #[.string (S q.name), .int .i64 q.side, .int .i64 q.inns, .int .i64 q.overs, .int .i64 q.balls, .int .i64 q.quota, .int .i64 q.wide, .int .i64 q.noball, .bool q.free, .int .i64 q.newball, .int .i64 q.follow, .int .i64 q.reviews, .int .i64 q.outside, .slice A n c], .int .i64 u]) ∧ Below w.heap.size w w' ∧ Sl 3 elPha w' (· < w'.heap.size) (.slice A n c) q.power
theorem bx_of {W w' : World} {q : Rul} {u : Int} {e : Ending} (h : RulPost W q (.int .i64 u) e w') : BxPost W q u e w' := by
  obtain ⟨pv, rfl, hs, hb⟩ := h
  obtain ⟨A, c, rfl, _⟩ := hs.shape
  exact ⟨A, _, c, rfl, hb, hs.keep elPha_good (Same.refl _ _) fun b h => h.2⟩
def PaPost (w : World) (q : Rul) (ds : List Dia) (e : Ending) (w' : World) : Prop := ∃ A n c D d, e = .returned (.tuple #[.agg #[.string (S q.name), .int .i64 q.side, .int .i64 q.inns, .int .i64 q.overs, .int .i64 q.balls, .int .i64 q.quota, .int .i64 q.wide, .int .i64 q.noball, .bool q.free, .int .i64 q.newball, .int .i64 q.follow, .int .i64 q.reviews, .int .i64 q.outside, .slice A n c], .slice D ds.length d]) ∧ Below w.heap.size w w' ∧ Sl 3 elPha w' (· < w'.heap.size) (.slice A n c) q.power ∧ Sl 3 elDia w' (· < w'.heap.size) (.slice D ds.length d) ds
theorem pa_of {W w' : World} {q : Rul} {ds : List Dia} {e : Ending} (h : RParsePost W (q, ds) e w') : PaPost W q ds e w' := by
  obtain ⟨pv, dv, rfl, hs, hd, hb⟩ := h
  obtain ⟨A, c, rfl, _⟩ := hs.shape
  obtain ⟨D, d, rfl, _⟩ := hd.shape
  exact ⟨A, _, c, D, d, rfl, hb, hs.keep elPha_good (Same.refl _ _) fun b h => h.2, hd.keep elDia_good (Same.refl _ _) fun b h => h.2⟩
set_option maxRecDepth 100000 in
set_option maxHeartbeats 4000000 in
theorem law05_awake (w : World) (hg : GlobN w) : Calls Tryz.prog 10 #[] w fun e w' => e = .returned (.bool true) ∧ Below w.heap.size w w' := by
  have hck : checkR stdTwenty = 0 := by decide +kernel
  have htx : textR stdTwenty = (writeS (rulLines stdTwenty), 0) := textR_ok hck
  have hpa := parseR_text hck
  have hpx := aw_prefix
  have hln := rulText_len hck
  have hm : mostS stdTwenty = 120 := by decide +kernel
  have ha5 : allowedS stdTwenty 5 = 2 := by decide +kernel
  have ha6 : allowedS stdTwenty 6 = 5 := by decide +kernel
  have hnl : stdTwenty.name.length ≤ 1000000000 := by decide +kernel
  have k1 := fun W => (rul_Standard kTWENTY W).mono fun e w' h => bx_of h
  have k3 := fun W => (rul_Standard [72, 85, 78, 68, 82, 69, 68] W).mono fun e w' h => bx_of h
  have e1 : standardS kTWENTY = (stdTwenty, 0) := by unfold standardS; rw [if_neg (by decide), if_neg (by decide), if_pos rfl]
  have e3 : standardS [72, 85, 78, 68, 82, 69, 68] = (noRul, 6) := by unfold standardS; rw [if_neg (by decide), if_neg (by decide), if_neg (by decide)]
  rw [e1] at k1
  rw [e3] at k3
  dsimp only at k1 k3
  obtain ⟨r0, hr0⟩ : ∃ r, r = stdTwenty := ⟨_, rfl⟩
  rw [← hr0] at hck htx hpa hpx hln hm ha5 ha6 hnl k1
  obtain ⟨T, hT⟩ : ∃ T, T = writeS (rulLines r0) := ⟨_, rfl⟩
  rw [← hT] at htx hpa hpx hln
  have k2 := fun W pv (hW : Below w.heap.size w W) (h : Sl 3 elPha W (· < W.heap.size) pv r0.power) => rul_Text r0 pv W (hg.below hW) h hnl
  rw [htx] at k2
  have k4 := fun W (hW : Below w.heap.size w W) => (rul_Parse (S T) W (hg.below hW) (by rw [S_size]; omega)).mono fun e w' h => pa_of (q := r0) (ds := []) (by rw [S_data, hpa] at h; exact h)
  have k5 := fun W pv (h : Sl 3 elPha W (· < W.heap.size) pv r0.power) => rul_Most r0 pv W h hnl
  have k6 := fun W pv (h : Sl 3 elPha W (· < W.heap.size) pv r0.power) => rul_Allowed r0 pv 5 W h (by decide) (by decide)
  have k7 := fun W pv (h : Sl 3 elPha W (· < W.heap.size) pv r0.power) => rul_Allowed r0 pv 6 W h (by decide) (by decide)
  have k8 := fun W => Tryz.strings_HasPrefix (S T) ⟨awT.toArray⟩ W
  have k9 := fun W pv qv (h : Sl 3 elPha W (· < W.heap.size) pv r0.power) (h' : Sl 3 elPha W (· < W.heap.size) qv r0.power) => rul_Same r0 r0.power r0.power pv qv W h h'
  rw [eqPhas_self] at k9
  rw [hm] at k5
  rw [ha5] at k6
  rw [ha6] at k7
  rw [S_data, hpx] at k8
  unfold rulV rulCells at k2 k5 k6 k7 k9
  have HN := Lib.hid (show rulCells noRul = rulCells noRul from rfl)
  obtain ⟨r3, hr3⟩ : ∃ r, r = noRul := ⟨_, rfl⟩
  rw [← hr3] at k3
  have K1 := Lib.hid k1
  have K2 := Lib.hid k2
  have K3 := Lib.hid k3
  have K4 := Lib.hid k4
  have K5 := Lib.hid k5
  have K6 := Lib.hid k6
  have K7 := Lib.hid k7
  have K8 := Lib.hid k8
  have K9 := Lib.hid k9
  have tok0 : True := trivial
  clear k1 k2 k3 k4 k5 k6 k7 k8 k9 hck htx hpa hpx hln hm ha5 ha6 hnl e1 e3 hg hT hr0 hr3 HN
  go_enter Tryz.func10, Tryz.ntmps10
  go_wp2_with (first
    | (clear tok0; go_at_call 18; refine (K1.out _).mono ?_; rintro e w1 ⟨A1, n1, c1, rfl, hb1, hs1⟩; have HS1 := Lib.hid (RulAt.new hs1); have HB1 := Lib.hid (Below.alloc hb1 hb1.size (.cells (rulCells r0 (.slice A1 n1 c1)) 24)); clear hb1 hs1; have tok1 : True := trivial)
    | (clear tok1; go_at_call 21; refine (K2.out _ _ HB1.out HS1.out.sl).mono ?_; rintro e w2 ⟨rfl, hb2⟩; have HS2 := Lib.hid (HS1.out.below hb2); have HB2 := Lib.hid (HB1.out.trans (hb2.mono HB1.out.size)); clear hb2; have tok2 : True := trivial)
    | (clear tok2; go_at_call 18; refine (K3.out w2).mono ?_; rintro e w3 ⟨A3, n3, c3, rfl, hb3, hs3⟩; have ha3 := Below.alloc hb3 hb3.size (.cells (rulCells r3 (.slice A3 n3 c3)) 24); have HS3 := Lib.hid (HS2.out.below ha3); have HB3 := Lib.hid (HB2.out.trans (ha3.mono HB2.out.size)); clear hb3 hs3 ha3; have tok3 : True := trivial)
    | (clear tok3; go_at_call 23; refine (K4.out _ HB3.out).mono ?_; rintro e w4 ⟨A4, n4, c4, D4, d4, rfl, hb4, hs4, hd4⟩; have ha4 := Below.alloc hb4 hb4.size (.cells (rulCells r0 (.slice A4 n4 c4)) 24); have HS4 := Lib.hid (HS3.out.below ha4); have HR4 := Lib.hid (RulAt.new hs4); have HB4 := Lib.hid (HB3.out.trans (ha4.mono HB3.out.size)); have hs4b := HS3.out.below hb4; obtain ⟨y0, y1, y2, y3, y4, y5, y6, y7, y8, y9, y10, y11, y12, y13⟩ := Blk.fourteen (show Blk _ _ _ #[.string (S r0.name), .int .i64 r0.side, .int .i64 r0.inns, .int .i64 r0.overs, .int .i64 r0.balls, .int .i64 r0.quota, .int .i64 r0.wide, .int .i64 r0.noball, .bool r0.free, .int .i64 r0.newball, .int .i64 r0.follow, .int .i64 r0.reviews, .int .i64 r0.outside, .slice A1 n1 c1] from hs4b.blk); have hz4 := hs4b.blk.lt; clear hs4b hb4 hs4 hd4 ha4; have tok4 : True := trivial)
    | (clear tok4; go_at_call 16; refine (K5.out _ _ HS4.out.sl).mono ?_; rintro e w6 ⟨rfl, hb⟩; clear y0 y1 y2 y3 y4 y5 y6 y7 y8 y9 y10 y11 y12 y13; have hs := HS4.out.below hb; have hr := HR4.out.below hb; obtain ⟨y0, y1, y2, y3, y4, y5, y6, y7, y8, y9, y10, y11, y12, y13⟩ := Blk.fourteen (show Blk _ _ _ #[.string (S r0.name), .int .i64 r0.side, .int .i64 r0.inns, .int .i64 r0.overs, .int .i64 r0.balls, .int .i64 r0.quota, .int .i64 r0.wide, .int .i64 r0.noball, .bool r0.free, .int .i64 r0.newball, .int .i64 r0.follow, .int .i64 r0.reviews, .int .i64 r0.outside, .slice A1 n1 c1] from hs.blk); obtain ⟨z0, z1, z2, z3, z4, z5, z6, z7, z8, z9, z10, z11, z12, z13⟩ := Blk.fourteen (show Blk _ _ _ #[.string (S r0.name), .int .i64 r0.side, .int .i64 r0.inns, .int .i64 r0.overs, .int .i64 r0.balls, .int .i64 r0.quota, .int .i64 r0.wide, .int .i64 r0.noball, .bool r0.free, .int .i64 r0.newball, .int .i64 r0.follow, .int .i64 r0.reviews, .int .i64 r0.outside, .slice A4 n4 c4] from hr.blk); have HS6 := Lib.hid hs; have HR6 := Lib.hid hr; have HB6 := Lib.hid (HB4.out.trans (hb.mono HB4.out.size)); clear hs hr hb; have tok5 : True := trivial)
    | (clear tok5; go_at_call 14; refine (K6.out _ _ HS6.out.sl).mono ?_; rintro e w7 ⟨rfl, hb⟩; clear y0 y1 y2 y3 y4 y5 y6 y7 y8 y9 y10 y11 y12 y13 z0 z1 z2 z3 z4 z5 z6 z7 z8 z9 z10 z11 z12 z13; have hs := HS6.out.below hb; have hr := HR6.out.below hb; obtain ⟨y0, y1, y2, y3, y4, y5, y6, y7, y8, y9, y10, y11, y12, y13⟩ := Blk.fourteen (show Blk _ _ _ #[.string (S r0.name), .int .i64 r0.side, .int .i64 r0.inns, .int .i64 r0.overs, .int .i64 r0.balls, .int .i64 r0.quota, .int .i64 r0.wide, .int .i64 r0.noball, .bool r0.free, .int .i64 r0.newball, .int .i64 r0.follow, .int .i64 r0.reviews, .int .i64 r0.outside, .slice A1 n1 c1] from hs.blk); obtain ⟨z0, z1, z2, z3, z4, z5, z6, z7, z8, z9, z10, z11, z12, z13⟩ := Blk.fourteen (show Blk _ _ _ #[.string (S r0.name), .int .i64 r0.side, .int .i64 r0.inns, .int .i64 r0.overs, .int .i64 r0.balls, .int .i64 r0.quota, .int .i64 r0.wide, .int .i64 r0.noball, .bool r0.free, .int .i64 r0.newball, .int .i64 r0.follow, .int .i64 r0.reviews, .int .i64 r0.outside, .slice A4 n4 c4] from hr.blk); have HS7 := Lib.hid hs; have HR7 := Lib.hid hr; have HB7 := Lib.hid (HB6.out.trans (hb.mono HB6.out.size)); clear hs hr hb; have tok6 : True := trivial)
    | (clear tok6; go_at_call 14; refine (K7.out _ _ HS7.out.sl).mono ?_; rintro e w8 ⟨rfl, hb⟩; clear y0 y1 y2 y3 y4 y5 y6 y7 y8 y9 y10 y11 y12 y13 z0 z1 z2 z3 z4 z5 z6 z7 z8 z9 z10 z11 z12 z13; have hs := HS7.out.below hb; have hr := HR7.out.below hb; obtain ⟨y0, y1, y2, y3, y4, y5, y6, y7, y8, y9, y10, y11, y12, y13⟩ := Blk.fourteen (show Blk _ _ _ #[.string (S r0.name), .int .i64 r0.side, .int .i64 r0.inns, .int .i64 r0.overs, .int .i64 r0.balls, .int .i64 r0.quota, .int .i64 r0.wide, .int .i64 r0.noball, .bool r0.free, .int .i64 r0.newball, .int .i64 r0.follow, .int .i64 r0.reviews, .int .i64 r0.outside, .slice A1 n1 c1] from hs.blk); obtain ⟨z0, z1, z2, z3, z4, z5, z6, z7, z8, z9, z10, z11, z12, z13⟩ := Blk.fourteen (show Blk _ _ _ #[.string (S r0.name), .int .i64 r0.side, .int .i64 r0.inns, .int .i64 r0.overs, .int .i64 r0.balls, .int .i64 r0.quota, .int .i64 r0.wide, .int .i64 r0.noball, .bool r0.free, .int .i64 r0.newball, .int .i64 r0.follow, .int .i64 r0.reviews, .int .i64 r0.outside, .slice A4 n4 c4] from hr.blk); have HS8 := Lib.hid hs; have HR8 := Lib.hid hr; have HB8 := Lib.hid (HB7.out.trans (hb.mono HB7.out.size)); clear hs hr hb; have tok7 : True := trivial)
    | (clear tok7; go_at_call 30; refine (K8.out _).mono ?_; rintro e w9 ⟨rfl, rfl⟩; have tok8 : True := trivial)
    | (clear tok8; go_at_call 20; refine (K9.out _ _ _ HR8.out.sl HS8.out.sl).mono ?_; rintro e w10 ⟨rfl, hb⟩; clear y0 y1 y2 y3 y4 y5 y6 y7 y8 y9 y10 y11 y12 y13 z0 z1 z2 z3 z4 z5 z6 z7 z8 z9 z10 z11 z12 z13; have hs := HS8.out.below hb; have hr := HR8.out.below hb; obtain ⟨y0, y1, y2, y3, y4, y5, y6, y7, y8, y9, y10, y11, y12, y13⟩ := Blk.fourteen (show Blk _ _ _ #[.string (S r0.name), .int .i64 r0.side, .int .i64 r0.inns, .int .i64 r0.overs, .int .i64 r0.balls, .int .i64 r0.quota, .int .i64 r0.wide, .int .i64 r0.noball, .bool r0.free, .int .i64 r0.newball, .int .i64 r0.follow, .int .i64 r0.reviews, .int .i64 r0.outside, .slice A1 n1 c1] from hs.blk); obtain ⟨z0, z1, z2, z3, z4, z5, z6, z7, z8, z9, z10, z11, z12, z13⟩ := Blk.fourteen (show Blk _ _ _ #[.string (S r0.name), .int .i64 r0.side, .int .i64 r0.inns, .int .i64 r0.overs, .int .i64 r0.balls, .int .i64 r0.quota, .int .i64 r0.wide, .int .i64 r0.noball, .bool r0.free, .int .i64 r0.newball, .int .i64 r0.follow, .int .i64 r0.reviews, .int .i64 r0.outside, .slice A4 n4 c4] from hr.blk); have HS10 := Lib.hid hs; have HR10 := Lib.hid hr; have HB10 := Lib.hid (HB8.out.trans (hb.mono HB8.out.size)); clear hs hr hb; have tok10 : True := trivial))
  go_ret
  exact ⟨rfl, HB10.out⟩
end Go.Proofs.YtnacklbaphobbaaGreatDoor
