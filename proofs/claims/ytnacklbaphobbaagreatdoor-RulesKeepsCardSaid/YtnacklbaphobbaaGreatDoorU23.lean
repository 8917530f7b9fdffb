/- The walks of RulesTexts and RulesStandard. -/
import Derived.Test.YtnacklbaphobbaaGreatDoorU22
import Derived.Test.YtnacklbaphobbaaGreatDoorU15
set_option linter.unusedSimpArgs false
set_option linter.unusedVariables false
namespace Go.Proofs.YtnacklbaphobbaaGreatDoor
open Go.RowKit

theorem rul_chain {w : World} {g : Nat} {r : Rul} {pv : Value} (h : Blk w g 24 (rulCells r pv)) (x0 x1 x2 x3 x4 x5 x6 x7 x8 x9 x10 x11 x12 x13 : Value) : ((((((((((((((w.setCell ⟨g, 0, none⟩ x0).setCell ⟨g, 1, none⟩ x1).setCell ⟨g, 2, none⟩ x2).setCell ⟨g, 3, none⟩ x3).setCell ⟨g, 4, none⟩ x4).setCell ⟨g, 5, none⟩ x5).setCell ⟨g, 6, none⟩ x6).setCell ⟨g, 7, none⟩ x7).setCell ⟨g, 8, none⟩ x8).setCell ⟨g, 9, none⟩ x9).setCell ⟨g, 10, none⟩ x10).setCell ⟨g, 11, none⟩ x11).setCell ⟨g, 12, none⟩ x12).setCell ⟨g, 13, none⟩ x13) = w.setRow g #[x0, x1, x2, x3, x4, x5, x6, x7, x8, x9, x10, x11, x12, x13] := by
  rw [row_chain h]
  exact congrArg (w.setRow g) (by kernel_rfl)
theorem few_at {w w2 : World} {f : Rul} {old : Array Value} {pv : Value} (hk : Blk w2 w.heap.size 24 old) (hs : Sl 3 elPha w2 (· < w.heap.size) pv f.power) (hb : Below w.heap.size w w2) :
    RulAt (w2.setRow w.heap.size (rulCells f pv)) w.heap.size f pv ∧ Below w.heap.size w (w2.setRow w.heap.size (rulCells f pv)) := by
  have ho := Only.row w.heap.size w2 (rulCells f pv)
  have hl := hk.lt
  exact ⟨⟨hk.row _, hs.keep elPha_good (ho.same fun b h => ⟨by omega, by omega⟩) fun b h => by simp; omega⟩, hb.trans (ho.below (Nat.le_refl _) (Nat.le_of_lt hl))⟩
theorem rulTx_len (r : Rul) (h : r.name.length ≤ 20) : r.name.length ≤ 1000000000 := by omega
set_option maxRecDepth 100000 in
set_option maxHeartbeats 4000000 in
theorem law_RTexts (r : Rul) (pv : Value) (w : World) (hg : GlobN w) (h : Sl 3 elPha w (· < w.heap.size) pv r.power) :
    Calls Tryz.prog 5 #[rulV r pv] w fun e w' => e = .returned (.bool true) ∧ Below w.heap.size w w' := by
  obtain ⟨A, c, rfl, hc, hc2⟩ := h.shape
  obtain ⟨w0, hw0⟩ : ∃ x, x = w.alloc (.cells (rulCells r (.slice A r.power.length c)) 24) := ⟨_, rfl⟩
  have hb0 : Below w.heap.size w w0 := by rw [hw0]; exact Below.alloc (Below.refl _ _) (Nat.le_refl _) _
  have hk0 : Blk w0 w.heap.size 24 (rulCells r (.slice A r.power.length c)) := by rw [hw0]; exact Blk.new w _ _
  have haw : Calls Tryz.prog 10 #[] w0 fun e w1 => e = .returned (.bool true) ∧ Below w.heap.size w w1 ∧ Blk w1 w.heap.size 24 (rulCells r (.slice A r.power.length c)) := by
    refine (law05_awake w0 (hg.below hb0)).mono ?_
    rintro e w1 ⟨rfl, hb⟩
    exact ⟨rfl, hb0.trans (hb.mono hb0.size), hk0.below hb hk0.lt⟩
  obtain ⟨f, hf⟩ : ∃ f, f = fewR r := ⟨_, rfl⟩
  have hfn : f.name.length ≤ 1000000000 := by rw [hf]; unfold fewR; simp; omega
  have hfew : ∀ w1, Below w.heap.size w w1 → Blk w1 w.heap.size 24 (rulCells r (.slice A r.power.length c)) → Calls Tryz.prog 11 #[rulV r (.slice A r.power.length c)] w1 fun e w2 => ∃ A2 n2 c2, e = .returned (rulV f (.slice A2 n2 c2)) ∧ Below w.heap.size w w2 ∧ Sl 3 elPha w2 (· < w.heap.size) (.slice A2 n2 c2) f.power ∧ Blk w2 w.heap.size 24 (rulCells r (.slice A r.power.length c)) := fun w1 hb1 hk1 => by
    refine (law05_few r _ (· < w.heap.size) w1 (h.keep elPha_good (Same.of_below hb1) fun _ h => h) (fun b hb => Nat.lt_of_lt_of_le hb hb1.size)).mono ?_
    rintro e w2 ⟨A2, n2, c2, rfl, hs, hb⟩
    rw [← hf] at hs ⊢
    exact ⟨A2, n2, c2, rfl, hb1.trans (hb.mono hb1.size), hs, hk1.below hb hk1.lt⟩
  rw [hw0] at haw
  unfold rulCells at haw
  unfold rulV rulCells at hfew
  have k1 := fun W pv (hW : Below w.heap.size w W) (h : Sl 3 elPha W (· < W.heap.size) pv f.power) => rul_Text f pv W (hg.below hW) h hfn
  have k2 := fun W pv (h : Sl 3 elPha W (· < W.heap.size) pv f.power) => ref_RText f pv W h hfn
  obtain ⟨⟨t, e0⟩, ht⟩ : ∃ x, x = textR f := ⟨_, rfl⟩
  rw [← ht] at k1 k2
  unfold rulV rulCells at k1 k2
  have HAW := Lib.hid haw
  have HFW := Lib.hid hfew
  have K1 := Lib.hid k1
  have K2 := Lib.hid k2
  have tok0 : True := trivial
  clear haw hfew k1 k2 ht hf hfn hg h hk0 hb0 hw0
  clear w0
  unfold rulV rulCells
  go_enter Tryz.func5, Tryz.ntmps5
  go_wp2_with (first
    | (clear tok0; go_at_call 10; refine HAW.out.mono ?_; rintro e w1 ⟨rfl, hb1, hk1⟩; obtain ⟨y0, y1, y2, y3, y4, y5, y6, y7, y8, y9, y10, y11, y12, y13⟩ := Blk.fourteen (show Blk _ _ _ #[.string (S r.name), .int .i64 r.side, .int .i64 r.inns, .int .i64 r.overs, .int .i64 r.balls, .int .i64 r.quota, .int .i64 r.wide, .int .i64 r.noball, .bool r.free, .int .i64 r.newball, .int .i64 r.follow, .int .i64 r.reviews, .int .i64 r.outside, .slice A r.power.length c] from hk1); have HB1 := Lib.hid hb1; have HK1 := Lib.hid hk1; clear hb1 hk1; have tok1 : True := trivial)
    | (clear tok1; go_at_call 11; refine (HFW.out _ HB1.out HK1.out).mono ?_; rintro e w2 ⟨A2, n2, c2, rfl, hb2, hs2, hk2⟩; clear y0 y1 y2 y3 y4 y5 y6 y7 y8 y9 y10 y11 y12 y13; obtain ⟨y0, y1, y2, y3, y4, y5, y6, y7, y8, y9, y10, y11, y12, y13⟩ := Blk.fourteen (show Blk _ _ _ #[.string (S r.name), .int .i64 r.side, .int .i64 r.inns, .int .i64 r.overs, .int .i64 r.balls, .int .i64 r.quota, .int .i64 r.wide, .int .i64 r.noball, .bool r.free, .int .i64 r.newball, .int .i64 r.follow, .int .i64 r.reviews, .int .i64 r.outside, .slice A r.power.length c] from hk2); have yf0 := Blk.frozen (show Blk _ _ _ #[.string (S r.name), .int .i64 r.side, .int .i64 r.inns, .int .i64 r.overs, .int .i64 r.balls, .int .i64 r.quota, .int .i64 r.wide, .int .i64 r.noball, .bool r.free, .int .i64 r.newball, .int .i64 r.follow, .int .i64 r.reviews, .int .i64 r.outside, .slice A r.power.length c] from hk2) 0; have yf1 := Blk.frozen (show Blk _ _ _ #[.string (S r.name), .int .i64 r.side, .int .i64 r.inns, .int .i64 r.overs, .int .i64 r.balls, .int .i64 r.quota, .int .i64 r.wide, .int .i64 r.noball, .bool r.free, .int .i64 r.newball, .int .i64 r.follow, .int .i64 r.reviews, .int .i64 r.outside, .slice A r.power.length c] from hk2) 1; have yf2 := Blk.frozen (show Blk _ _ _ #[.string (S r.name), .int .i64 r.side, .int .i64 r.inns, .int .i64 r.overs, .int .i64 r.balls, .int .i64 r.quota, .int .i64 r.wide, .int .i64 r.noball, .bool r.free, .int .i64 r.newball, .int .i64 r.follow, .int .i64 r.reviews, .int .i64 r.outside, .slice A r.power.length c] from hk2) 2; have yf3 := Blk.frozen (show Blk _ _ _ #[.string (S r.name), .int .i64 r.side, .int .i64 r.inns, .int .i64 r.overs, .int .i64 r.balls, .int .i64 r.quota, .int .i64 r.wide, .int .i64 r.noball, .bool r.free, .int .i64 r.newball, .int .i64 r.follow, .int .i64 r.reviews, .int .i64 r.outside, .slice A r.power.length c] from hk2) 3; have yf4 := Blk.frozen (show Blk _ _ _ #[.string (S r.name), .int .i64 r.side, .int .i64 r.inns, .int .i64 r.overs, .int .i64 r.balls, .int .i64 r.quota, .int .i64 r.wide, .int .i64 r.noball, .bool r.free, .int .i64 r.newball, .int .i64 r.follow, .int .i64 r.reviews, .int .i64 r.outside, .slice A r.power.length c] from hk2) 4; have yf5 := Blk.frozen (show Blk _ _ _ #[.string (S r.name), .int .i64 r.side, .int .i64 r.inns, .int .i64 r.overs, .int .i64 r.balls, .int .i64 r.quota, .int .i64 r.wide, .int .i64 r.noball, .bool r.free, .int .i64 r.newball, .int .i64 r.follow, .int .i64 r.reviews, .int .i64 r.outside, .slice A r.power.length c] from hk2) 5; have yf6 := Blk.frozen (show Blk _ _ _ #[.string (S r.name), .int .i64 r.side, .int .i64 r.inns, .int .i64 r.overs, .int .i64 r.balls, .int .i64 r.quota, .int .i64 r.wide, .int .i64 r.noball, .bool r.free, .int .i64 r.newball, .int .i64 r.follow, .int .i64 r.reviews, .int .i64 r.outside, .slice A r.power.length c] from hk2) 6; have yf7 := Blk.frozen (show Blk _ _ _ #[.string (S r.name), .int .i64 r.side, .int .i64 r.inns, .int .i64 r.overs, .int .i64 r.balls, .int .i64 r.quota, .int .i64 r.wide, .int .i64 r.noball, .bool r.free, .int .i64 r.newball, .int .i64 r.follow, .int .i64 r.reviews, .int .i64 r.outside, .slice A r.power.length c] from hk2) 7; have yf8 := Blk.frozen (show Blk _ _ _ #[.string (S r.name), .int .i64 r.side, .int .i64 r.inns, .int .i64 r.overs, .int .i64 r.balls, .int .i64 r.quota, .int .i64 r.wide, .int .i64 r.noball, .bool r.free, .int .i64 r.newball, .int .i64 r.follow, .int .i64 r.reviews, .int .i64 r.outside, .slice A r.power.length c] from hk2) 8; have yf9 := Blk.frozen (show Blk _ _ _ #[.string (S r.name), .int .i64 r.side, .int .i64 r.inns, .int .i64 r.overs, .int .i64 r.balls, .int .i64 r.quota, .int .i64 r.wide, .int .i64 r.noball, .bool r.free, .int .i64 r.newball, .int .i64 r.follow, .int .i64 r.reviews, .int .i64 r.outside, .slice A r.power.length c] from hk2) 9; have yf10 := Blk.frozen (show Blk _ _ _ #[.string (S r.name), .int .i64 r.side, .int .i64 r.inns, .int .i64 r.overs, .int .i64 r.balls, .int .i64 r.quota, .int .i64 r.wide, .int .i64 r.noball, .bool r.free, .int .i64 r.newball, .int .i64 r.follow, .int .i64 r.reviews, .int .i64 r.outside, .slice A r.power.length c] from hk2) 10; have yf11 := Blk.frozen (show Blk _ _ _ #[.string (S r.name), .int .i64 r.side, .int .i64 r.inns, .int .i64 r.overs, .int .i64 r.balls, .int .i64 r.quota, .int .i64 r.wide, .int .i64 r.noball, .bool r.free, .int .i64 r.newball, .int .i64 r.follow, .int .i64 r.reviews, .int .i64 r.outside, .slice A r.power.length c] from hk2) 11; have yf12 := Blk.frozen (show Blk _ _ _ #[.string (S r.name), .int .i64 r.side, .int .i64 r.inns, .int .i64 r.overs, .int .i64 r.balls, .int .i64 r.quota, .int .i64 r.wide, .int .i64 r.noball, .bool r.free, .int .i64 r.newball, .int .i64 r.follow, .int .i64 r.reviews, .int .i64 r.outside, .slice A r.power.length c] from hk2) 12; have yf13 := Blk.frozen (show Blk _ _ _ #[.string (S r.name), .int .i64 r.side, .int .i64 r.inns, .int .i64 r.overs, .int .i64 r.balls, .int .i64 r.quota, .int .i64 r.wide, .int .i64 r.noball, .bool r.free, .int .i64 r.newball, .int .i64 r.follow, .int .i64 r.reviews, .int .i64 r.outside, .slice A r.power.length c] from hk2) 13; have HB2 := Lib.hid hb2; have HK2 := Lib.hid (show Blk w2 w.heap.size 24 (rulCells r (.slice A r.power.length c)) from hk2); have HS2 := Lib.hid hs2; clear hb2 hs2 hk2; have tok2 : True := trivial))
  rw [rul_chain HK2.out]
  have hst := few_at HK2.out HS2.out HB2.out
  clear y0 y1 y2 y3 y4 y5 y6 y7 y8 y9 y10 y11 y12 y13 yf0 yf1 yf2 yf3 yf4 yf5 yf6 yf7 yf8 yf9 yf10 yf11 yf12 yf13
  revert hst
  unfold rulCells
  generalize World.setRow _ _ _ = W
  intro hst
  obtain ⟨hra, hbw⟩ := hst
  refine (K1.out W _ hbw hra.sl).mono ?_
  rintro x w3 ⟨rfl, hb3⟩
  have hr3 := hra.below hb3
  obtain ⟨y0, y1, y2, y3, y4, y5, y6, y7, y8, y9, y10, y11, y12, y13⟩ := Blk.fourteen (show Blk _ _ _ #[.string (S f.name), .int .i64 f.side, .int .i64 f.inns, .int .i64 f.overs, .int .i64 f.balls, .int .i64 f.quota, .int .i64 f.wide, .int .i64 f.noball, .bool f.free, .int .i64 f.newball, .int .i64 f.follow, .int .i64 f.reviews, .int .i64 f.outside, .slice A2 n2 c2] from hr3.blk)
  have HR3 := Lib.hid hr3
  have HB3 := Lib.hid (hbw.trans (hb3.mono hbw.size))
  clear hra hbw hb3 hr3
  go_wp2_with (go_at_call 22; refine (K2.out _ _ HR3.out.sl).mono ?_; rintro e w4 ⟨rfl, hb4⟩; have HB4 := Lib.hid (HB3.out.trans (hb4.mono HB3.out.size)); clear hb4)
  go_ret
  exact ⟨rfl, HB4.out⟩
end Go.Proofs.YtnacklbaphobbaaGreatDoor
