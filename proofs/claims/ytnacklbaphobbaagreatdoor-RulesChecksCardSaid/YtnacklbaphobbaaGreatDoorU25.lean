/- The walk of RulesChecks. -/
import Derived.Test.YtnacklbaphobbaaGreatDoorU23
set_option linter.unusedSimpArgs false
set_option linter.unusedVariables false
namespace Go.Proofs.YtnacklbaphobbaaGreatDoor
open Go.RowKit

theorem bounds_i32 {n : Int} (h : (Lit.int .i32 n).wf = true) : -2147483648 ≤ n ∧ n ≤ 2147483647 := by
  simp [Lit.wf, IntKind.min, IntKind.max, IntKind.signed, IntKind.bits] at h
  omega
set_option maxRecDepth 100000 in
set_option maxHeartbeats 4000000 in
theorem law_RChecks (r : Rul) (pv : Value) (over : Int) (w : World) (hg : GlobN w) (h : Sl 3 elPha w (· < w.heap.size) pv r.power) (hov0 : -2147483648 ≤ over) (hov1 : over ≤ 2147483647) :
    Calls Tryz.prog 3 #[rulV r pv, .int .i32 over] w fun e w' => e = .returned (.bool true) ∧ Below w.heap.size w w' := by
  obtain ⟨A, c, rfl, hc, hc2⟩ := h.shape
  obtain ⟨w0, hw0⟩ : ∃ x, x = w.alloc (.cells (rulCells r (.slice A r.power.length c)) 24) := ⟨_, rfl⟩
  have hb0 : Below w.heap.size w w0 := by rw [hw0]; exact Below.alloc (Below.refl _ _) (Nat.le_refl _) _
  have hk0 : Blk w0 w.heap.size 24 (rulCells r (.slice A r.power.length c)) := by rw [hw0]; exact Blk.new w _ _
  have haw : Calls Tryz.prog 10 #[] w0 fun e w1 => e = .returned (.bool true) ∧ Below w.heap.size w w1 ∧ Blk w1 w.heap.size 24 (rulCells r (.slice A r.power.length c)) := by
    refine (law05_awake w0 (hg.below hb0)).mono ?_
    rintro e w1 ⟨rfl, hb⟩
    exact ⟨rfl, hb0.trans (hb.mono hb0.size), hk0.below hb hk0.lt⟩
  obtain ⟨f, hf⟩ : ∃ f, f = fewR r := ⟨_, rfl⟩
  have hfn : f.name.length ≤ 1000000000 := by rw [hf]; unfold fewR; simp; omega
  have hfew : ∀ w1, Below w.heap.size w w1 → Blk w1 w.heap.size 24 (rulCells r (.slice A r.power.length c)) → Calls Tryz.prog 11 #[rulV r (.slice A r.power.length c)] w1 fun e w2 => ∃ A2 n2 c2, e = .returned (rulV f (.slice A2 n2 c2)) ∧ Below w.heap.size w w2 ∧ Sl 3 elPha w2 (· < w.heap.size) (.slice A2 n2 c2) f.power ∧ Blk w2 w.heap.size 24 (rulCells r (.slice A r.power.length c)) := fun w1 hb1 hk1 => by
    refine (law05_few r _ (· < w.heap.size) w1 (h.keep elPha_good (Same.of_below hb1) fun _ h => h) (fun b hb => Nat.lt_of_lt_of_le hb hb1.size)).mono ?_
    rintro e w2 ⟨A2, n2, c2, rfl, hs, hb⟩
    rw [← hf] at hs ⊢
    exact ⟨A2, n2, c2, rfl, hb1.trans (hb.mono hb1.size), hs, hk1.below hb hk1.lt⟩
  rw [hw0] at haw
  unfold rulCells at haw
  unfold rulV rulCells at hfew
  have ho0 : -4294967296 ≤ over := by omega
  have ho1 : over ≤ 4294967296 := by omega
  have k1 := fun W pv (h : Sl 3 elPha W (· < W.heap.size) pv f.power) => rul_Check f pv W h hfn
  have k2 := fun W pv (h : Sl 3 elPha W (· < W.heap.size) pv f.power) => ref_RCheck f pv W h hfn
  have k3 := fun W pv (h : Sl 3 elPha W (· < W.heap.size) pv f.power) => rul_Allowed f pv over W h ho0 ho1
  have k4 := fun W pv (h : Sl 3 elPha W (· < W.heap.size) pv f.power) => ref_RAllowed f pv over W h ho0 ho1
  have k5 := fun W pv (h : Sl 3 elPha W (· < W.heap.size) pv f.power) => rul_Most f pv W h hfn
  have k6 := fun W pv (h : Sl 3 elPha W (· < W.heap.size) pv f.power) => ref_RMost f pv W h hfn
  obtain ⟨e0, he0⟩ : ∃ x, x = checkR f := ⟨_, rfl⟩
  obtain ⟨al, hal⟩ : ∃ x, x = allowedS f over := ⟨_, rfl⟩
  obtain ⟨mo, hmo⟩ : ∃ x, x = mostS f := ⟨_, rfl⟩
  rw [← he0] at k1 k2
  rw [← hal] at k3 k4
  rw [← hmo] at k5 k6
  unfold rulV rulCells at k1 k2 k3 k4 k5 k6
  have K3 := Lib.hid k3
  have K4 := Lib.hid k4
  have K5 := Lib.hid k5
  have K6 := Lib.hid k6
  have hwr : IntKind.i64.wrap over = over := IntWalk.i64_in _ (by omega)
  have HAW := Lib.hid haw
  have HFW := Lib.hid hfew
  have K1 := Lib.hid k1
  have K2 := Lib.hid k2
  have tok0 : True := trivial
  clear haw hfew k1 k2 k3 k4 k5 k6 he0 hal hmo ho0 ho1 hov0 hov1 hf hfn hg h hk0 hb0 hw0
  clear w0
  unfold rulV rulCells
  go_enter Tryz.func3, Tryz.ntmps3
  go_wp2_with (first
    | (clear tok0; go_at_call 10; refine HAW.out.mono ?_; rintro e w1 ⟨rfl, hb1, hk1⟩; obtain ⟨y0, y1, y2, y3, y4, y5, y6, y7, y8, y9, y10, y11, y12, y13⟩ := Blk.fourteen (show Blk _ _ _ #[.string (S r.name), .int .i64 r.side, .int .i64 r.inns, .int .i64 r.overs, .int .i64 r.balls, .int .i64 r.quota, .int .i64 r.wide, .int .i64 r.noball, .bool r.free, .int .i64 r.newball, .int .i64 r.follow, .int .i64 r.reviews, .int .i64 r.outside, .slice A r.power.length c] from hk1); have HB1 := Lib.hid hb1; have HK1 := Lib.hid hk1; clear hb1 hk1; have tok1 : True := trivial)
    | (clear tok1; go_at_call 11; refine (HFW.out _ HB1.out HK1.out).mono ?_; rintro e w2 ⟨A2, n2, c2, rfl, hb2, hs2, hk2⟩; clear y0 y1 y2 y3 y4 y5 y6 y7 y8 y9 y10 y11 y12 y13; obtain ⟨y0, y1, y2, y3, y4, y5, y6, y7, y8, y9, y10, y11, y12, y13⟩ := Blk.fourteen (show Blk _ _ _ #[.string (S r.name), .int .i64 r.side, .int .i64 r.inns, .int .i64 r.overs, .int .i64 r.balls, .int .i64 r.quota, .int .i64 r.wide, .int .i64 r.noball, .bool r.free, .int .i64 r.newball, .int .i64 r.follow, .int .i64 r.reviews, .int .i64 r.outside, .slice A r.power.length c] from hk2); have yf0 := Blk.frozen (show Blk _ _ _ #[.string (S r.name), .int .i64 r.side, .int .i64 r.inns, .int .i64 r.overs, .int .i64 r.balls, .int .i64 r.quota, .int .i64 r.wide, .int .i64 r.noball, .bool r.free, .int .i64 r.newball, .int .i64 r.follow, .int .i64 r.reviews, .int .i64 r.outside, .slice A r.power.length c] from hk2) 0; have yf1 := Blk.frozen (show Blk _ _ _ #[.string (S r.name), .int .i64 r.side, .int .i64 r.inns, .int .i64 r.overs, .int .i64 r.balls, .int .i64 r.quota, .int .i64 r.wide, .int .i64 r.noball, .bool r.free, .int .i64 r.newball, .int .i64 r.follow, .int .i64 r.reviews, .int .i64 r.outside, .slice A r.power.length c] from hk2) 1; have yf2 := Blk.frozen (show Blk _ _ _ #[.string (S r.name), .int .i64 r.side, .int .i64 r.inns, .int .i64 r.overs, .int .i64 r.balls, .int .i64 r.quota, .int .i64 r.wide, .int .i64 r.noball, .bool r.free, .int .i64 r.newball, .int .i64 r.follow, .int .i64 r.reviews, .int .i64 r.outside, .slice A r.power.length c] from hk2) 2; have yf3 := Blk.frozen (show Blk _ _ _ #[.string (S r.name), .int .i64 r.side, .int .i64 r.inns, .int .i64 r.overs, .int .i64 r.balls, .int .i64 r.quota, .int .i64 r.wide, .int .i64 r.noball, .bool r.free, .int .i64 r.newball, .int .i64 r.follow, .int .i64 r.reviews, .int .i64 r.outside, .slice A r.power.length c] from hk2) 3; have yf4 := Blk.frozen (show Blk _ _ _ #[.string (S r.name), .int .i64 r.side, .int .i64 r.inns, .int .i64 r.overs, .int .i64 r.balls, .int .i64 r.quota, .int .i64 r.wide, .int .i64 r.noball, .bool r.free, .int .i64 r.newball, .int .i64 r.follow, .int .i64 r.reviews, .int .i64 r.outside, .slice A r.power.length c] from hk2) 4; have yf5 := Blk.frozen (show Blk _ _ _ #[.string (S r.name), .int .i64 r.side, .int .i64 r.inns, .int .i64 r.overs, .int .i64 r.balls, .int .i64 r.quota, .int .i64 r.wide, .int .i64 r.noball, .bool r.free, .int .i64 r.newball, .int .i64 r.follow, .int .i64 r.reviews, .int .i64 r.outside, .slice A r.power.length c] from hk2) 5; have yf6 := Blk.frozen (show Blk _ _ _ #[.string (S r.name), .int .i64 r.side, .int .i64 r.inns, .int .i64 r.overs, .int .i64 r.balls, .int .i64 r.quota, .int .i64 r.wide, .int .i64 r.noball, .bool r.free, .int .i64 r.newball, .int .i64 r.follow, .int .i64 r.reviews, .int .i64 r.outside, .slice A r.power.length c] from hk2) 6; have yf7 := Blk.frozen (show Blk _ _ _ #[.string (S r.name), .int .i64 r.side, .int .i64 r.inns, .int .i64 r.overs, .int .i64 r.balls, .int .i64 r.quota, .int .i64 r.wide, .int .i64 r.noball, .bool r.free, .int .i64 r.newball, .int .i64 r.follow, .int .i64 r.reviews, .int .i64 r.outside, .slice A r.power.length c] from hk2) 7; have yf8 := Blk.frozen (show Blk _ _ _ #[.string (S r.name), .int .i64 r.side, .int .i64 r.inns, .int .i64 r.overs, .int .i64 r.balls, .int .i64 r.quota, .int .i64 r.wide, .int .i64 r.noball, .bool r.free, .int .i64 r.newball, .int .i64 r.follow, .int .i64 r.reviews, .int .i64 r.outside, .slice A r.power.length c] from hk2) 8; have yf9 := Blk.frozen (show Blk _ _ _ #[.string (S r.name), .int .i64 r.side, .int .i64 r.inns, .int .i64 r.overs, .int .i64 r.balls, .int .i64 r.quota, .int .i64 r.wide, .int .i64 r.noball, .bool r.free, .int .i64 r.newball, .int .i64 r.follow, .int .i64 r.reviews, .int .i64 r.outside, .slice A r.power.length c] from hk2) 9; have yf10 := Blk.frozen (show Blk _ _ _ #[.string (S r.name), .int .i64 r.side, .int .i64 r.inns, .int .i64 r.overs, .int .i64 r.balls, .int .i64 r.quota, .int .i64 r.wide, .int .i64 r.noball, .bool r.free, .int .i64 r.newball, .int .i64 r.follow, .int .i64 r.reviews, .int .i64 r.outside, .slice A r.power.length c] from hk2) 10; have yf11 := Blk.frozen (show Blk _ _ _ #[.string (S r.name), .int .i64 r.side, .int .i64 r.inns, .int .i64 r.overs, .int .i64 r.balls, .int .i64 r.quota, .int .i64 r.wide, .int .i64 r.noball, .bool r.free, .int .i64 r.newball, .int .i64 r.follow, .int .i64 r.reviews, .int .i64 r.outside, .slice A r.power.length c] from hk2) 11; have yf12 := Blk.frozen (show Blk _ _ _ #[.string (S r.name), .int .i64 r.side, .int .i64 r.inns, .int .i64 r.overs, .int .i64 r.balls, .int .i64 r.quota, .int .i64 r.wide, .int .i64 r.noball, .bool r.free, .int .i64 r.newball, .int .i64 r.follow, .int .i64 r.reviews, .int .i64 r.outside, .slice A r.power.length c] from hk2) 12; have yf13 := Blk.frozen (show Blk _ _ _ #[.string (S r.name), .int .i64 r.side, .int .i64 r.inns, .int .i64 r.overs, .int .i64 r.balls, .int .i64 r.quota, .int .i64 r.wide, .int .i64 r.noball, .bool r.free, .int .i64 r.newball, .int .i64 r.follow, .int .i64 r.reviews, .int .i64 r.outside, .slice A r.power.length c] from hk2) 13; have HB2 := Lib.hid hb2; have HK2 := Lib.hid (show Blk w2 w.heap.size 24 (rulCells r (.slice A r.power.length c)) from hk2); have HS2 := Lib.hid hs2; clear hb2 hs2 hk2; have tok2 : True := trivial))
  rw [rul_chain HK2.out]
  have hst := few_at HK2.out HS2.out HB2.out
  clear y0 y1 y2 y3 y4 y5 y6 y7 y8 y9 y10 y11 y12 y13 yf0 yf1 yf2 yf3 yf4 yf5 yf6 yf7 yf8 yf9 yf10 yf11 yf12 yf13
  revert hst
  unfold rulCells
  generalize World.setRow _ _ _ = W
  intro hst
  obtain ⟨hra, hbw⟩ := hst
  have hb3 := hbw.trans ((Below.drew (Below.refl W.heap.size W)).mono hbw.size)
  have hr := hra.below (Below.drew (Below.refl W.heap.size W))
  obtain ⟨y0, y1, y2, y3, y4, y5, y6, y7, y8, y9, y10, y11, y12, y13⟩ := Blk.fourteen (show Blk _ _ _ #[.string (S f.name), .int .i64 f.side, .int .i64 f.inns, .int .i64 f.overs, .int .i64 f.balls, .int .i64 f.quota, .int .i64 f.wide, .int .i64 f.noball, .bool f.free, .int .i64 f.newball, .int .i64 f.follow, .int .i64 f.reviews, .int .i64 f.outside, .slice A2 n2 c2] from hr.blk)
  have HR3 := Lib.hid hr
  have HB3 := Lib.hid hb3
  clear hra hbw hb3 hr
  go_region_held3 (fun w' => w'.cell? ⟨w.heap.size, 0, none⟩ = some (.string (S f.name)) ∧ w'.cell? ⟨w.heap.size, 1, none⟩ = some (.int .i64 f.side) ∧ w'.cell? ⟨w.heap.size, 2, none⟩ = some (.int .i64 f.inns) ∧ w'.cell? ⟨w.heap.size, 3, none⟩ = some (.int .i64 f.overs) ∧ w'.cell? ⟨w.heap.size, 4, none⟩ = some (.int .i64 f.balls) ∧ w'.cell? ⟨w.heap.size, 5, none⟩ = some (.int .i64 f.quota) ∧ w'.cell? ⟨w.heap.size, 6, none⟩ = some (.int .i64 f.wide) ∧ w'.cell? ⟨w.heap.size, 7, none⟩ = some (.int .i64 f.noball) ∧ w'.cell? ⟨w.heap.size, 8, none⟩ = some (.bool f.free) ∧ w'.cell? ⟨w.heap.size, 9, none⟩ = some (.int .i64 f.newball) ∧ w'.cell? ⟨w.heap.size, 10, none⟩ = some (.int .i64 f.follow) ∧ w'.cell? ⟨w.heap.size, 11, none⟩ = some (.int .i64 f.reviews) ∧ w'.cell? ⟨w.heap.size, 12, none⟩ = some (.int .i64 f.outside) ∧ w'.cell? ⟨w.heap.size, 13, none⟩ = some (.slice A2 n2 c2))
    (first | exact ⟨y0, y1, y2, y3, y4, y5, y6, y7, y8, y9, y10, y11, y12, y13⟩ | go_keep)
    (first
      | (go_at_call 12; refine (K1.out _ _ HR3.out.sl).mono ?_; rintro e w4 ⟨rfl, hb⟩; clear y0 y1 y2 y3 y4 y5 y6 y7 y8 y9 y10 y11 y12 y13; have hr := HR3.out.below hb; obtain ⟨y0, y1, y2, y3, y4, y5, y6, y7, y8, y9, y10, y11, y12, y13⟩ := Blk.fourteen (show Blk _ _ _ #[.string (S f.name), .int .i64 f.side, .int .i64 f.inns, .int .i64 f.overs, .int .i64 f.balls, .int .i64 f.quota, .int .i64 f.wide, .int .i64 f.noball, .bool f.free, .int .i64 f.newball, .int .i64 f.follow, .int .i64 f.reviews, .int .i64 f.outside, .slice A2 n2 c2] from hr.blk); have HR4 := Lib.hid hr; have HB4 := Lib.hid (HB3.out.trans (hb.mono HB3.out.size)); clear hr hb)
      | (go_at_call 13; refine (K2.out _ _ HR4.out.sl).mono ?_; rintro e w5 ⟨rfl, hb⟩; clear y0 y1 y2 y3 y4 y5 y6 y7 y8 y9 y10 y11 y12 y13; have hr := HR4.out.below hb; obtain ⟨y0, y1, y2, y3, y4, y5, y6, y7, y8, y9, y10, y11, y12, y13⟩ := Blk.fourteen (show Blk _ _ _ #[.string (S f.name), .int .i64 f.side, .int .i64 f.inns, .int .i64 f.overs, .int .i64 f.balls, .int .i64 f.quota, .int .i64 f.wide, .int .i64 f.noball, .bool f.free, .int .i64 f.newball, .int .i64 f.follow, .int .i64 f.reviews, .int .i64 f.outside, .slice A2 n2 c2] from hr.blk); have HR5 := Lib.hid hr; have HB5 := Lib.hid (HB4.out.trans (hb.mono HB4.out.size)); clear hr hb)
      | (go_at_call 14; refine (K3.out _ _ HR5.out.sl).mono ?_; rintro e w6 ⟨rfl, hb⟩; clear y0 y1 y2 y3 y4 y5 y6 y7 y8 y9 y10 y11 y12 y13; have hr := HR5.out.below hb; obtain ⟨y0, y1, y2, y3, y4, y5, y6, y7, y8, y9, y10, y11, y12, y13⟩ := Blk.fourteen (show Blk _ _ _ #[.string (S f.name), .int .i64 f.side, .int .i64 f.inns, .int .i64 f.overs, .int .i64 f.balls, .int .i64 f.quota, .int .i64 f.wide, .int .i64 f.noball, .bool f.free, .int .i64 f.newball, .int .i64 f.follow, .int .i64 f.reviews, .int .i64 f.outside, .slice A2 n2 c2] from hr.blk); have HR6 := Lib.hid hr; have HB6 := Lib.hid (HB5.out.trans (hb.mono HB5.out.size)); clear hr hb)
      | (go_at_call 15; refine (K4.out _ _ HR6.out.sl).mono ?_; rintro e w7 ⟨rfl, hb⟩; clear y0 y1 y2 y3 y4 y5 y6 y7 y8 y9 y10 y11 y12 y13; have hr := HR6.out.below hb; obtain ⟨y0, y1, y2, y3, y4, y5, y6, y7, y8, y9, y10, y11, y12, y13⟩ := Blk.fourteen (show Blk _ _ _ #[.string (S f.name), .int .i64 f.side, .int .i64 f.inns, .int .i64 f.overs, .int .i64 f.balls, .int .i64 f.quota, .int .i64 f.wide, .int .i64 f.noball, .bool f.free, .int .i64 f.newball, .int .i64 f.follow, .int .i64 f.reviews, .int .i64 f.outside, .slice A2 n2 c2] from hr.blk); have HR7 := Lib.hid hr; have HB7 := Lib.hid (HB6.out.trans (hb.mono HB6.out.size)); clear hr hb)
      | (go_at_call 16; refine (K5.out _ _ HR7.out.sl).mono ?_; rintro e w8 ⟨rfl, hb⟩; clear y0 y1 y2 y3 y4 y5 y6 y7 y8 y9 y10 y11 y12 y13; have hr := HR7.out.below hb; obtain ⟨y0, y1, y2, y3, y4, y5, y6, y7, y8, y9, y10, y11, y12, y13⟩ := Blk.fourteen (show Blk _ _ _ #[.string (S f.name), .int .i64 f.side, .int .i64 f.inns, .int .i64 f.overs, .int .i64 f.balls, .int .i64 f.quota, .int .i64 f.wide, .int .i64 f.noball, .bool f.free, .int .i64 f.newball, .int .i64 f.follow, .int .i64 f.reviews, .int .i64 f.outside, .slice A2 n2 c2] from hr.blk); have HR8 := Lib.hid hr; have HB8 := Lib.hid (HB7.out.trans (hb.mono HB7.out.size)); clear hr hb)
      | (go_at_call 17; refine (K6.out _ _ HR8.out.sl).mono ?_; rintro e w9 ⟨rfl, hb⟩; clear y0 y1 y2 y3 y4 y5 y6 y7 y8 y9 y10 y11 y12 y13; have hr := HR8.out.below hb; obtain ⟨y0, y1, y2, y3, y4, y5, y6, y7, y8, y9, y10, y11, y12, y13⟩ := Blk.fourteen (show Blk _ _ _ #[.string (S f.name), .int .i64 f.side, .int .i64 f.inns, .int .i64 f.overs, .int .i64 f.balls, .int .i64 f.quota, .int .i64 f.wide, .int .i64 f.noball, .bool f.free, .int .i64 f.newball, .int .i64 f.follow, .int .i64 f.reviews, .int .i64 f.outside, .slice A2 n2 c2] from hr.blk); have HR9 := Lib.hid hr; have HB9 := Lib.hid (HB8.out.trans (hb.mono HB8.out.size)); clear hr hb))
  all_goals go_wp2
  all_goals go_ret
  all_goals exact ⟨rfl, HB9.out⟩
end Go.Proofs.YtnacklbaphobbaaGreatDoor
