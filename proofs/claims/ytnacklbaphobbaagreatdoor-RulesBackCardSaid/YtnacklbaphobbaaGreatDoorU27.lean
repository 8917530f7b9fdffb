/- The walk of RulesBack. -/
import Derived.Test.YtnacklbaphobbaaGreatDoorU26
import Derived.Test.YtnacklbaphobbaaGreatDoorU23
set_option linter.unusedSimpArgs false
set_option linter.unusedVariables false
namespace Go.Proofs.YtnacklbaphobbaaGreatDoor
open Go.RowKit

theorem replaceC (T : List UInt8) (X : ByteArray) (hX : X = S (subst1 10 cX T)) (hT : (S T).size ≤ 1700) (W : World) (hg : GlobN W) :
    Calls Tryz.prog 27 #[.string (S T), .string ⟨#[10]⟩, .string ⟨#[32, 59, 32, 120, 10, 10]⟩] W fun e W' => e = .returned (.string X) ∧ Below W.heap.size W W' := by
  have hc : Lib.countB (S T) ⟨#[10]⟩ ≤ (S T).size := Lib.countB_le ⟨#[10]⟩ (Nat.le_refl 1) _ (S T) (Nat.le_refl _)
  have h2 : (⟨#[32, 59, 32, 120, 10, 10]⟩ : ByteArray).size = 6 := rfl
  have hcr := Tryz.strings_ReplaceAll_shaped (S T) ⟨#[10]⟩ ⟨#[32, 59, 32, 120, 10, 10]⟩ W hg.glob.shaped (by omega) (Nat.le_refl 1) (by rw [h2]; omega)
  rw [show (⟨#[10]⟩ : ByteArray).data.toList = [10] from rfl, show (⟨#[32, 59, 32, 120, 10, 10]⟩ : ByteArray).data.toList = cX from rfl, replaceAll_subst1 10 cX _ (by decide), S_data] at hcr
  rw [hX]
  exact hcr
set_option maxRecDepth 100000 in
set_option maxHeartbeats 4000000 in
theorem law_RBack_ok (r : Rul) (pv : Value) (w : World) (hg : GlobN w) (h : Sl 3 elPha w (· < w.heap.size) pv r.power) (hck0 : checkR (fewR r) = 0) :
    Calls Tryz.prog 7 #[rulV r pv] w fun e w' => e = .returned (.bool true) ∧ Below w.heap.size w w' := by
  obtain ⟨A, c, rfl, hc, hc2⟩ := h.shape
  obtain ⟨w0, hw0⟩ : ∃ x, x = w.alloc (.cells (rulCells r (.slice A r.power.length c)) 24) := ⟨_, rfl⟩
  have hb0 : Below w.heap.size w w0 := by rw [hw0]; exact Below.alloc (Below.refl _ _) (Nat.le_refl _) _
  have hk0 : Blk w0 w.heap.size 24 (rulCells r (.slice A r.power.length c)) := by rw [hw0]; exact Blk.new w _ _
  have haw : Calls Tryz.prog 10 #[] w0 fun e w1 => e = .returned (.bool true) ∧ Below w.heap.size w w1 ∧ Blk w1 w.heap.size 24 (rulCells r (.slice A r.power.length c)) := by
    refine (law05_awake w0 (hg.below hb0)).mono ?_
    rintro e w1 ⟨rfl, hb⟩
    exact ⟨rfl, hb0.trans (hb.mono hb0.size), hk0.below hb hk0.lt⟩
  obtain ⟨f, hf⟩ : ∃ f, f = fewR r := ⟨_, rfl⟩
  have hfn : f.name.length ≤ 1000000000 := by rw [hf]; unfold fewR; simp; omega
  have hfew : ∀ w1, Below w.heap.size w w1 → Blk w1 w.heap.size 24 (rulCells r (.slice A r.power.length c)) → Calls Tryz.prog 11 #[rulV r (.slice A r.power.length c)] w1 fun e w2 => ∃ A2 n2 c2, e = .returned (rulV f (.slice A2 n2 c2)) ∧ Below w.heap.size w w2 ∧ Sl 3 elPha w2 (· < w.heap.size) (.slice A2 n2 c2) f.power ∧ Blk w2 w.heap.size 24 (rulCells r (.slice A r.power.length c)) := fun w1 hb1 hk1 => by
    refine (law05_few r _ (· < w.heap.size) w1 (h.keep elPha_good (Same.of_below hb1) fun _ h => h) (fun b hb => Nat.lt_of_lt_of_le hb hb1.size)).mono ?_
    rintro e w2 ⟨A2, n2, c2, rfl, hs, hb⟩
    rw [← hf] at hs ⊢
    exact ⟨A2, n2, c2, rfl, hb1.trans (hb.mono hb1.size), hs, hk1.below hb hk1.lt⟩
  rw [hw0] at haw
  unfold rulCells at haw
  unfold rulV rulCells at hfew
  have hck : checkR f = 0 := by rw [hf]; exact hck0
  clear hck0
  have htx : textR f = (writeS (rulLines f), 0) := textR_ok hck
  have hpa := parseR_text hck
  have hpc := parseR_textC hck
  have hln := rulText_len hck
  have hlc := textC5_len hck
  have hcd : textC5 f = cTop ++ subst1 10 cX (writeS (rulLines f)) := rfl
  obtain ⟨C, hC⟩ : ∃ C, C = textC5 f := ⟨_, rfl⟩
  rw [← hC] at hpc hlc hcd
  obtain ⟨T, hT⟩ : ∃ T, T = writeS (rulLines f) := ⟨_, rfl⟩
  rw [← hT] at htx hpa hln hcd
  have k1 := fun W pv (hW : Below w.heap.size w W) (h : Sl 3 elPha W (· < W.heap.size) pv f.power) => rul_Text f pv W (hg.below hW) h hfn
  rw [htx] at k1
  have k2 := fun W (hW : Below w.heap.size w W) => (rul_Parse (S T) W (hg.below hW) (by rw [S_size]; omega)).mono fun e w' h => pa_of (q := f) (ds := []) (by rw [S_data, hpa] at h; exact h)
  obtain ⟨X, hX⟩ : ∃ X : ByteArray, X = S (subst1 10 cX T) := ⟨_, rfl⟩
  have hTs : (S T).size ≤ 1700 := by rw [S_size]; exact hln
  have hXs : X.size ≤ 2000 := by
    rw [hX, S_size]
    have : C.length = cTop.length + (subst1 10 cX T).length := by rw [hcd, List.length_append]
    omega
  have k3 := fun W (hW : Below w.heap.size w W) => replaceC T X hX hTs W (hg.below hW)
  have hcat : (⟨#[59, 32, 114, 117, 108, 101, 115, 10, 10]⟩ : ByteArray) ++ X = S C := by
    rw [← S_of ((⟨#[59, 32, 114, 117, 108, 101, 115, 10, 10]⟩ : ByteArray) ++ X), data_app, hX, S_data, hcd]; rfl
  have k4 := fun W (hW : Below w.heap.size w W) => (rul_Parse (S C) W (hg.below hW) (by rw [S_size]; omega)).mono fun e w' h => pa_of (q := f) (ds := []) (by rw [S_data, hpc] at h; exact h)
  rw [← hcat] at k4
  have a1 := fun W => run_string_add_sum (P := Tryz.prog) W ⟨#[59, 32, 114, 117, 108, 101, 115, 10, 10]⟩ X (by have : (⟨#[59, 32, 114, 117, 108, 101, 115, 10, 10]⟩ : ByteArray).size = 9 := rfl; omega)
  have k5 := fun W pv qv (h : Sl 3 elPha W (· < W.heap.size) pv f.power) (h' : Sl 3 elPha W (· < W.heap.size) qv f.power) => rul_Same f f.power f.power pv qv W h h'
  rw [eqPhas_self] at k5
  unfold rulV rulCells at k1 k5
  have K3 := Lib.hid k3
  have K4 := Lib.hid k4
  have K5 := Lib.hid k5
  have HAW := Lib.hid haw
  have HFW := Lib.hid hfew
  have K1 := Lib.hid k1
  have K2 := Lib.hid k2
  have tok0 : True := trivial
  clear haw hfew k1 k2 k3 k4 k5 hck htx hpa hpc hln hlc hcd hC hT hX hTs hXs hcat hf hfn hg h hk0 hb0 hw0
  clear w0
  unfold rulV rulCells
  go_enter Tryz.func7, Tryz.ntmps7
  go_wp2_with (first
    | (clear tok0; go_at_call 10; refine HAW.out.mono ?_; rintro e w1 ⟨rfl, hb1, hk1⟩; obtain ⟨y0, y1, y2, y3, y4, y5, y6, y7, y8, y9, y10, y11, y12, y13⟩ := Blk.fourteen (show Blk _ _ _ #[.string (S r.name), .int .i64 r.side, .int .i64 r.inns, .int .i64 r.overs, .int .i64 r.balls, .int .i64 r.quota, .int .i64 r.wide, .int .i64 r.noball, .bool r.free, .int .i64 r.newball, .int .i64 r.follow, .int .i64 r.reviews, .int .i64 r.outside, .slice A r.power.length c] from hk1); have HB1 := Lib.hid hb1; have HK1 := Lib.hid hk1; clear hb1 hk1; have tok1 : True := trivial)
    | (clear tok1; go_at_call 11; refine (HFW.out _ HB1.out HK1.out).mono ?_; rintro e w2 ⟨A2, n2, c2, rfl, hb2, hs2, hk2⟩; clear y0 y1 y2 y3 y4 y5 y6 y7 y8 y9 y10 y11 y12 y13; obtain ⟨y0, y1, y2, y3, y4, y5, y6, y7, y8, y9, y10, y11, y12, y13⟩ := Blk.fourteen (show Blk _ _ _ #[.string (S r.name), .int .i64 r.side, .int .i64 r.inns, .int .i64 r.overs, .int .i64 r.balls, .int .i64 r.quota, .int .i64 r.wide, .int .i64 r.noball, .bool r.free, .int .i64 r.newball, .int .i64 r.follow, .int .i64 r.reviews, .int .i64 r.outside, .slice A r.power.length c] from hk2); have yf0 := Blk.frozen (show Blk _ _ _ #[.string (S r.name), .int .i64 r.side, .int .i64 r.inns, .int .i64 r.overs, .int .i64 r.balls, .int .i64 r.quota, .int .i64 r.wide, .int .i64 r.noball, .bool r.free, .int .i64 r.newball, .int .i64 r.follow, .int .i64 r.reviews, .int .i64 r.outside, .slice A r.power.length c] from hk2) 0; have yf1 := Blk.frozen (show Blk _ _ _ #[.string (S r.name), .int .i64 r.side, .int .i64 r.inns, .int .i64 r.overs, .int .i64 r.balls, .int .i64 r.quota, .int .i64 r.wide, .int .i64 r.noball, .bool r.free, .int .i64 r.newball, .int .i64 r.follow, .int .i64 r.reviews, .int .i64 r.outside, .slice A r.power.length c] from hk2) 1; have yf2 := Blk.frozen (show Blk _ _ _ #[.string (S r.name), .int .i64 r.side, .int .i64 r.inns, .int .i64 r.overs, .int .i64 r.balls, .int .i64 r.quota, .int .i64 r.wide, .int .i64 r.noball, .bool r.free, .int .i64 r.newball, .int .i64 r.follow, .int .i64 r.reviews, .int .i64 r.outside, .slice A r.power.length c] from hk2) 2; have yf3 := Blk.frozen (show Blk _ _ _ #[.string (S r.name), .int .i64 r.side, .int .i64 r.inns, .int .i64 r.overs, .int .i64 r.balls, .int .i64 r.quota, .int .i64 r.wide, .int .i64 r.noball, .bool r.free, .int .i64 r.newball, .int .i64 r.follow, .int .i64 r.reviews, .int .i64 r.outside, .slice A r.power.length c] from hk2) 3; have yf4 := Blk.frozen (show Blk _ _ _ #[.string (S r.name), .int .i64 r.side, .int .i64 r.inns, .int .i64 r.overs, .int .i64 r.balls, .int .i64 r.quota, .int .i64 r.wide, .int .i64 r.noball, .bool r.free, .int .i64 r.newball, .int .i64 r.follow, .int .i64 r.reviews, .int .i64 r.outside, .slice A r.power.length c] from hk2) 4; have yf5 := Blk.frozen (show Blk _ _ _ #[.string (S r.name), .int .i64 r.side, .int .i64 r.inns, .int .i64 r.overs, .int .i64 r.balls, .int .i64 r.quota, .int .i64 r.wide, .int .i64 r.noball, .bool r.free, .int .i64 r.newball, .int .i64 r.follow, .int .i64 r.reviews, .int .i64 r.outside, .slice A r.power.length c] from hk2) 5; have yf6 := Blk.frozen (show Blk _ _ _ #[.string (S r.name), .int .i64 r.side, .int .i64 r.inns, .int .i64 r.overs, .int .i64 r.balls, .int .i64 r.quota, .int .i64 r.wide, .int .i64 r.noball, .bool r.free, .int .i64 r.newball, .int .i64 r.follow, .int .i64 r.reviews, .int .i64 r.outside, .slice A r.power.length c] from hk2) 6; have yf7 := Blk.frozen (show Blk _ _ _ #[.string (S r.name), .int .i64 r.side, .int .i64 r.inns, .int .i64 r.overs, .int .i64 r.balls, .int .i64 r.quota, .int .i64 r.wide, .int .i64 r.noball, .bool r.free, .int .i64 r.newball, .int .i64 r.follow, .int .i64 r.reviews, .int .i64 r.outside, .slice A r.power.length c] from hk2) 7; have yf8 := Blk.frozen (show Blk _ _ _ #[.string (S r.name), .int .i64 r.side, .int .i64 r.inns, .int .i64 r.overs, .int .i64 r.balls, .int .i64 r.quota, .int .i64 r.wide, .int .i64 r.noball, .bool r.free, .int .i64 r.newball, .int .i64 r.follow, .int .i64 r.reviews, .int .i64 r.outside, .slice A r.power.length c] from hk2) 8; have yf9 := Blk.frozen (show Blk _ _ _ #[.string (S r.name), .int .i64 r.side, .int .i64 r.inns, .int .i64 r.overs, .int .i64 r.balls, .int .i64 r.quota, .int .i64 r.wide, .int .i64 r.noball, .bool r.free, .int .i64 r.newball, .int .i64 r.follow, .int .i64 r.reviews, .int .i64 r.outside, .slice A r.power.length c] from hk2) 9; have yf10 := Blk.frozen (show Blk _ _ _ #[.string (S r.name), .int .i64 r.side, .int .i64 r.inns, .int .i64 r.overs, .int .i64 r.balls, .int .i64 r.quota, .int .i64 r.wide, .int .i64 r.noball, .bool r.free, .int .i64 r.newball, .int .i64 r.follow, .int .i64 r.reviews, .int .i64 r.outside, .slice A r.power.length c] from hk2) 10; have yf11 := Blk.frozen (show Blk _ _ _ #[.string (S r.name), .int .i64 r.side, .int .i64 r.inns, .int .i64 r.overs, .int .i64 r.balls, .int .i64 r.quota, .int .i64 r.wide, .int .i64 r.noball, .bool r.free, .int .i64 r.newball, .int .i64 r.follow, .int .i64 r.reviews, .int .i64 r.outside, .slice A r.power.length c] from hk2) 11; have yf12 := Blk.frozen (show Blk _ _ _ #[.string (S r.name), .int .i64 r.side, .int .i64 r.inns, .int .i64 r.overs, .int .i64 r.balls, .int .i64 r.quota, .int .i64 r.wide, .int .i64 r.noball, .bool r.free, .int .i64 r.newball, .int .i64 r.follow, .int .i64 r.reviews, .int .i64 r.outside, .slice A r.power.length c] from hk2) 12; have yf13 := Blk.frozen (show Blk _ _ _ #[.string (S r.name), .int .i64 r.side, .int .i64 r.inns, .int .i64 r.overs, .int .i64 r.balls, .int .i64 r.quota, .int .i64 r.wide, .int .i64 r.noball, .bool r.free, .int .i64 r.newball, .int .i64 r.follow, .int .i64 r.reviews, .int .i64 r.outside, .slice A r.power.length c] from hk2) 13; have HB2 := Lib.hid hb2; have HK2 := Lib.hid (show Blk w2 w.heap.size 24 (rulCells r (.slice A r.power.length c)) from hk2); have HS2 := Lib.hid hs2; clear hb2 hs2 hk2; have tok2 : True := trivial))
  rw [rul_chain HK2.out]
  have hst := few_at HK2.out HS2.out HB2.out
  clear y0 y1 y2 y3 y4 y5 y6 y7 y8 y9 y10 y11 y12 y13 yf0 yf1 yf2 yf3 yf4 yf5 yf6 yf7 yf8 yf9 yf10 yf11 yf12 yf13
  revert hst
  unfold rulCells
  generalize World.setRow _ _ _ = W
  intro hst
  obtain ⟨hra, hbw⟩ := hst
  refine (K1.out W _ hbw hra.sl).mono ?_
  rintro x w3 ⟨rfl, hb3⟩
  have HR3 := Lib.hid (hra.below hb3)
  have HB3 := Lib.hid (hbw.trans (hb3.mono hbw.size))
  clear hra hbw hb3
  have tok3 : True := trivial
  go_wp2_with (first
    | (clear tok3; go_at_call 23; refine (K2.out _ HB3.out).mono ?_; rintro e w4 ⟨A4, n4, c4, D4, d4, rfl, hb, hs, hd⟩; have ha := Below.alloc hb hb.size (.cells (rulCells f (.slice A4 n4 c4)) 24); have HR4 := Lib.hid (HR3.out.below ha); have HZ4 := Lib.hid (RulAt.new hs); have HB4 := Lib.hid (HB3.out.trans (ha.mono HB3.out.size)); clear hb hs hd ha; have tok4 : True := trivial)
    | (clear tok4; go_at_call 27; refine (K3.out _ HB4.out).mono ?_; rintro e w5 ⟨rfl, hb⟩; have HR5 := Lib.hid (HR4.out.below hb); have HZ5 := Lib.hid (HZ4.out.below hb); have HB5 := Lib.hid (HB4.out.trans (hb.mono HB4.out.size)); clear hb; have tok5 : True := trivial)
    | (clear tok5; go_at_call 23; refine (K4.out _ HB5.out).mono ?_; rintro e w6 ⟨A6, n6, c6, D6, d6, rfl, hb, hs, hd⟩; have ha := Below.alloc hb hb.size (.cells (rulCells f (.slice A6 n6 c6)) 24); have HR6 := Lib.hid (HR5.out.below ha); have HZ6 := Lib.hid (HZ5.out.below ha); have HU6 := Lib.hid (RulAt.new hs); have HB6 := Lib.hid (HB5.out.trans (ha.mono HB5.out.size)); have hy := HR5.out.below hb; have hz := HZ5.out.below hb; obtain ⟨y0, y1, y2, y3, y4, y5, y6, y7, y8, y9, y10, y11, y12, y13⟩ := Blk.fourteen (show Blk _ _ _ #[.string (S f.name), .int .i64 f.side, .int .i64 f.inns, .int .i64 f.overs, .int .i64 f.balls, .int .i64 f.quota, .int .i64 f.wide, .int .i64 f.noball, .bool f.free, .int .i64 f.newball, .int .i64 f.follow, .int .i64 f.reviews, .int .i64 f.outside, .slice A2 n2 c2] from hy.blk); obtain ⟨z0, z1, z2, z3, z4, z5, z6, z7, z8, z9, z10, z11, z12, z13⟩ := Blk.fourteen (show Blk _ _ _ #[.string (S f.name), .int .i64 f.side, .int .i64 f.inns, .int .i64 f.overs, .int .i64 f.balls, .int .i64 f.quota, .int .i64 f.wide, .int .i64 f.noball, .bool f.free, .int .i64 f.newball, .int .i64 f.follow, .int .i64 f.reviews, .int .i64 f.outside, .slice A4 n4 c4] from hz.blk); have ly := hy.blk.lt; have lz := hz.blk.lt; clear hy hz hb hs hd ha; have tok6 : True := trivial)
    | (clear tok6; go_at_call 20; refine (K5.out _ _ _ HZ6.out.sl HR6.out.sl).mono ?_; rintro e w7 ⟨rfl, hb⟩; clear y0 y1 y2 y3 y4 y5 y6 y7 y8 y9 y10 y11 y12 y13 z0 z1 z2 z3 z4 z5 z6 z7 z8 z9 z10 z11 z12 z13; have hy := HR6.out.below hb; have hu := HU6.out.below hb; obtain ⟨y0, y1, y2, y3, y4, y5, y6, y7, y8, y9, y10, y11, y12, y13⟩ := Blk.fourteen (show Blk _ _ _ #[.string (S f.name), .int .i64 f.side, .int .i64 f.inns, .int .i64 f.overs, .int .i64 f.balls, .int .i64 f.quota, .int .i64 f.wide, .int .i64 f.noball, .bool f.free, .int .i64 f.newball, .int .i64 f.follow, .int .i64 f.reviews, .int .i64 f.outside, .slice A2 n2 c2] from hy.blk); obtain ⟨u0, u1, u2, u3, u4, u5, u6, u7, u8, u9, u10, u11, u12, u13⟩ := Blk.fourteen (show Blk _ _ _ #[.string (S f.name), .int .i64 f.side, .int .i64 f.inns, .int .i64 f.overs, .int .i64 f.balls, .int .i64 f.quota, .int .i64 f.wide, .int .i64 f.noball, .bool f.free, .int .i64 f.newball, .int .i64 f.follow, .int .i64 f.reviews, .int .i64 f.outside, .slice A6 n6 c6] from hu.blk); have HR7 := Lib.hid hy; have HU7 := Lib.hid hu; have HB7 := Lib.hid (HB6.out.trans (hb.mono HB6.out.size)); clear hy hu hb; have tok7 : True := trivial)
    | (clear tok7; go_at_call 20; refine (K5.out _ _ _ HU7.out.sl HR7.out.sl).mono ?_; rintro e w8 ⟨rfl, hb⟩; clear y0 y1 y2 y3 y4 y5 y6 y7 y8 y9 y10 y11 y12 y13 u0 u1 u2 u3 u4 u5 u6 u7 u8 u9 u10 u11 u12 u13; have HB8 := Lib.hid (HB7.out.trans (hb.mono HB7.out.size)); clear hb; have tok8 : True := trivial))
  go_ret
  exact ⟨rfl, HB8.out⟩
set_option maxRecDepth 100000 in
set_option maxHeartbeats 4000000 in
theorem law_RBack_bad (r : Rul) (pv : Value) (w : World) (hg : GlobN w) (h : Sl 3 elPha w (· < w.heap.size) pv r.power) (hck0 : checkR (fewR r) ≠ 0) :
    Calls Tryz.prog 7 #[rulV r pv] w fun e w' => e = .returned (.bool true) ∧ Below w.heap.size w w' := by
  obtain ⟨A, c, rfl, hc, hc2⟩ := h.shape
  obtain ⟨w0, hw0⟩ : ∃ x, x = w.alloc (.cells (rulCells r (.slice A r.power.length c)) 24) := ⟨_, rfl⟩
  have hb0 : Below w.heap.size w w0 := by rw [hw0]; exact Below.alloc (Below.refl _ _) (Nat.le_refl _) _
  have hk0 : Blk w0 w.heap.size 24 (rulCells r (.slice A r.power.length c)) := by rw [hw0]; exact Blk.new w _ _
  have haw : Calls Tryz.prog 10 #[] w0 fun e w1 => e = .returned (.bool true) ∧ Below w.heap.size w w1 ∧ Blk w1 w.heap.size 24 (rulCells r (.slice A r.power.length c)) := by
    refine (law05_awake w0 (hg.below hb0)).mono ?_
    rintro e w1 ⟨rfl, hb⟩
    exact ⟨rfl, hb0.trans (hb.mono hb0.size), hk0.below hb hk0.lt⟩
  obtain ⟨f, hf⟩ : ∃ f, f = fewR r := ⟨_, rfl⟩
  have hfn : f.name.length ≤ 1000000000 := by rw [hf]; unfold fewR; simp; omega
  have hfew : ∀ w1, Below w.heap.size w w1 → Blk w1 w.heap.size 24 (rulCells r (.slice A r.power.length c)) → Calls Tryz.prog 11 #[rulV r (.slice A r.power.length c)] w1 fun e w2 => ∃ A2 n2 c2, e = .returned (rulV f (.slice A2 n2 c2)) ∧ Below w.heap.size w w2 ∧ Sl 3 elPha w2 (· < w.heap.size) (.slice A2 n2 c2) f.power ∧ Blk w2 w.heap.size 24 (rulCells r (.slice A r.power.length c)) := fun w1 hb1 hk1 => by
    refine (law05_few r _ (· < w.heap.size) w1 (h.keep elPha_good (Same.of_below hb1) fun _ h => h) (fun b hb => Nat.lt_of_lt_of_le hb hb1.size)).mono ?_
    rintro e w2 ⟨A2, n2, c2, rfl, hs, hb⟩
    rw [← hf] at hs ⊢
    exact ⟨A2, n2, c2, rfl, hb1.trans (hb.mono hb1.size), hs, hk1.below hb hk1.lt⟩
  rw [hw0] at haw
  unfold rulCells at haw
  unfold rulV rulCells at hfew
  have hck : checkR f ≠ 0 := by rw [hf]; exact hck0
  clear hck0
  have htx : textR f = ([], checkR f) := textR_bad hck
  have k1 := fun W pv (hW : Below w.heap.size w W) (h : Sl 3 elPha W (· < W.heap.size) pv f.power) => rul_Text f pv W (hg.below hW) h hfn
  rw [htx] at k1
  have k2 := fun W pv (h : Sl 3 elPha W (· < W.heap.size) pv f.power) => rul_Check f pv W h hfn
  obtain ⟨e0, he0⟩ : ∃ x, x = checkR f := ⟨_, rfl⟩
  rw [← he0] at k1 k2 hck
  have g0 : (e0 != 0) = true := by simp [hck]
  have g1 : (e0 == e0) = true := by simp
  unfold rulV rulCells at k1 k2
  have HAW := Lib.hid haw
  have HFW := Lib.hid hfew
  have K1 := Lib.hid k1
  have K2 := Lib.hid k2
  have tok0 : True := trivial
  clear haw hfew k1 k2 hck htx he0 hf hfn hg h hk0 hb0 hw0
  clear w0
  unfold rulV rulCells
  go_enter Tryz.func7, Tryz.ntmps7
  go_wp2_with (first
    | (clear tok0; go_at_call 10; refine HAW.out.mono ?_; rintro e w1 ⟨rfl, hb1, hk1⟩; obtain ⟨y0, y1, y2, y3, y4, y5, y6, y7, y8, y9, y10, y11, y12, y13⟩ := Blk.fourteen (show Blk _ _ _ #[.string (S r.name), .int .i64 r.side, .int .i64 r.inns, .int .i64 r.overs, .int .i64 r.balls, .int .i64 r.quota, .int .i64 r.wide, .int .i64 r.noball, .bool r.free, .int .i64 r.newball, .int .i64 r.follow, .int .i64 r.reviews, .int .i64 r.outside, .slice A r.power.length c] from hk1); have HB1 := Lib.hid hb1; have HK1 := Lib.hid hk1; clear hb1 hk1; have tok1 : True := trivial)
    | (clear tok1; go_at_call 11; refine (HFW.out _ HB1.out HK1.out).mono ?_; rintro e w2 ⟨A2, n2, c2, rfl, hb2, hs2, hk2⟩; clear y0 y1 y2 y3 y4 y5 y6 y7 y8 y9 y10 y11 y12 y13; obtain ⟨y0, y1, y2, y3, y4, y5, y6, y7, y8, y9, y10, y11, y12, y13⟩ := Blk.fourteen (show Blk _ _ _ #[.string (S r.name), .int .i64 r.side, .int .i64 r.inns, .int .i64 r.overs, .int .i64 r.balls, .int .i64 r.quota, .int .i64 r.wide, .int .i64 r.noball, .bool r.free, .int .i64 r.newball, .int .i64 r.follow, .int .i64 r.reviews, .int .i64 r.outside, .slice A r.power.length c] from hk2); have yf0 := Blk.frozen (show Blk _ _ _ #[.string (S r.name), .int .i64 r.side, .int .i64 r.inns, .int .i64 r.overs, .int .i64 r.balls, .int .i64 r.quota, .int .i64 r.wide, .int .i64 r.noball, .bool r.free, .int .i64 r.newball, .int .i64 r.follow, .int .i64 r.reviews, .int .i64 r.outside, .slice A r.power.length c] from hk2) 0; have yf1 := Blk.frozen (show Blk _ _ _ #[.string (S r.name), .int .i64 r.side, .int .i64 r.inns, .int .i64 r.overs, .int .i64 r.balls, .int .i64 r.quota, .int .i64 r.wide, .int .i64 r.noball, .bool r.free, .int .i64 r.newball, .int .i64 r.follow, .int .i64 r.reviews, .int .i64 r.outside, .slice A r.power.length c] from hk2) 1; have yf2 := Blk.frozen (show Blk _ _ _ #[.string (S r.name), .int .i64 r.side, .int .i64 r.inns, .int .i64 r.overs, .int .i64 r.balls, .int .i64 r.quota, .int .i64 r.wide, .int .i64 r.noball, .bool r.free, .int .i64 r.newball, .int .i64 r.follow, .int .i64 r.reviews, .int .i64 r.outside, .slice A r.power.length c] from hk2) 2; have yf3 := Blk.frozen (show Blk _ _ _ #[.string (S r.name), .int .i64 r.side, .int .i64 r.inns, .int .i64 r.overs, .int .i64 r.balls, .int .i64 r.quota, .int .i64 r.wide, .int .i64 r.noball, .bool r.free, .int .i64 r.newball, .int .i64 r.follow, .int .i64 r.reviews, .int .i64 r.outside, .slice A r.power.length c] from hk2) 3; have yf4 := Blk.frozen (show Blk _ _ _ #[.string (S r.name), .int .i64 r.side, .int .i64 r.inns, .int .i64 r.overs, .int .i64 r.balls, .int .i64 r.quota, .int .i64 r.wide, .int .i64 r.noball, .bool r.free, .int .i64 r.newball, .int .i64 r.follow, .int .i64 r.reviews, .int .i64 r.outside, .slice A r.power.length c] from hk2) 4; have yf5 := Blk.frozen (show Blk _ _ _ #[.string (S r.name), .int .i64 r.side, .int .i64 r.inns, .int .i64 r.overs, .int .i64 r.balls, .int .i64 r.quota, .int .i64 r.wide, .int .i64 r.noball, .bool r.free, .int .i64 r.newball, .int .i64 r.follow, .int .i64 r.reviews, .int .i64 r.outside, .slice A r.power.length c] from hk2) 5; have yf6 := Blk.frozen (show Blk _ _ _ #[.string (S r.name), .int .i64 r.side, .int .i64 r.inns, .int .i64 r.overs, .int .i64 r.balls, .int .i64 r.quota, .int .i64 r.wide, .int .i64 r.noball, .bool r.free, .int .i64 r.newball, .int .i64 r.follow, .int .i64 r.reviews, .int .i64 r.outside, .slice A r.power.length c] from hk2) 6; have yf7 := Blk.frozen (show Blk _ _ _ #[.string (S r.name), .int .i64 r.side, .int .i64 r.inns, .int .i64 r.overs, .int .i64 r.balls, .int .i64 r.quota, .int .i64 r.wide, .int .i64 r.noball, .bool r.free, .int .i64 r.newball, .int .i64 r.follow, .int .i64 r.reviews, .int .i64 r.outside, .slice A r.power.length c] from hk2) 7; have yf8 := Blk.frozen (show Blk _ _ _ #[.string (S r.name), .int .i64 r.side, .int .i64 r.inns, .int .i64 r.overs, .int .i64 r.balls, .int .i64 r.quota, .int .i64 r.wide, .int .i64 r.noball, .bool r.free, .int .i64 r.newball, .int .i64 r.follow, .int .i64 r.reviews, .int .i64 r.outside, .slice A r.power.length c] from hk2) 8; have yf9 := Blk.frozen (show Blk _ _ _ #[.string (S r.name), .int .i64 r.side, .int .i64 r.inns, .int .i64 r.overs, .int .i64 r.balls, .int .i64 r.quota, .int .i64 r.wide, .int .i64 r.noball, .bool r.free, .int .i64 r.newball, .int .i64 r.follow, .int .i64 r.reviews, .int .i64 r.outside, .slice A r.power.length c] from hk2) 9; have yf10 := Blk.frozen (show Blk _ _ _ #[.string (S r.name), .int .i64 r.side, .int .i64 r.inns, .int .i64 r.overs, .int .i64 r.balls, .int .i64 r.quota, .int .i64 r.wide, .int .i64 r.noball, .bool r.free, .int .i64 r.newball, .int .i64 r.follow, .int .i64 r.reviews, .int .i64 r.outside, .slice A r.power.length c] from hk2) 10; have yf11 := Blk.frozen (show Blk _ _ _ #[.string (S r.name), .int .i64 r.side, .int .i64 r.inns, .int .i64 r.overs, .int .i64 r.balls, .int .i64 r.quota, .int .i64 r.wide, .int .i64 r.noball, .bool r.free, .int .i64 r.newball, .int .i64 r.follow, .int .i64 r.reviews, .int .i64 r.outside, .slice A r.power.length c] from hk2) 11; have yf12 := Blk.frozen (show Blk _ _ _ #[.string (S r.name), .int .i64 r.side, .int .i64 r.inns, .int .i64 r.overs, .int .i64 r.balls, .int .i64 r.quota, .int .i64 r.wide, .int .i64 r.noball, .bool r.free, .int .i64 r.newball, .int .i64 r.follow, .int .i64 r.reviews, .int .i64 r.outside, .slice A r.power.length c] from hk2) 12; have yf13 := Blk.frozen (show Blk _ _ _ #[.string (S r.name), .int .i64 r.side, .int .i64 r.inns, .int .i64 r.overs, .int .i64 r.balls, .int .i64 r.quota, .int .i64 r.wide, .int .i64 r.noball, .bool r.free, .int .i64 r.newball, .int .i64 r.follow, .int .i64 r.reviews, .int .i64 r.outside, .slice A r.power.length c] from hk2) 13; have HB2 := Lib.hid hb2; have HK2 := Lib.hid (show Blk w2 w.heap.size 24 (rulCells r (.slice A r.power.length c)) from hk2); have HS2 := Lib.hid hs2; clear hb2 hs2 hk2; have tok2 : True := trivial))
  rw [rul_chain HK2.out]
  have hst := few_at HK2.out HS2.out HB2.out
  clear y0 y1 y2 y3 y4 y5 y6 y7 y8 y9 y10 y11 y12 y13 yf0 yf1 yf2 yf3 yf4 yf5 yf6 yf7 yf8 yf9 yf10 yf11 yf12 yf13
  revert hst
  unfold rulCells
  generalize World.setRow _ _ _ = W
  intro hst
  obtain ⟨hra, hbw⟩ := hst
  refine (K1.out W _ hbw hra.sl).mono ?_
  rintro x w3 ⟨rfl, hb3⟩
  have hr3 := hra.below hb3
  obtain ⟨y0, y1, y2, y3, y4, y5, y6, y7, y8, y9, y10, y11, y12, y13⟩ := Blk.fourteen (show Blk _ _ _ #[.string (S f.name), .int .i64 f.side, .int .i64 f.inns, .int .i64 f.overs, .int .i64 f.balls, .int .i64 f.quota, .int .i64 f.wide, .int .i64 f.noball, .bool f.free, .int .i64 f.newball, .int .i64 f.follow, .int .i64 f.reviews, .int .i64 f.outside, .slice A2 n2 c2] from hr3.blk)
  have HR3 := Lib.hid hr3
  have HB3 := Lib.hid (hbw.trans (hb3.mono hbw.size))
  clear hra hbw hb3 hr3
  have tok3 : True := trivial
  go_wp2_with (clear tok3; go_at_call 12; refine (K2.out _ _ HR3.out.sl).mono ?_; rintro e w4 ⟨rfl, hb⟩; clear y0 y1 y2 y3 y4 y5 y6 y7 y8 y9 y10 y11 y12 y13; have HB4 := Lib.hid (HB3.out.trans (hb.mono HB3.out.size)); clear hb)
  go_ret
  exact ⟨rfl, HB4.out⟩
theorem law_RBack (r : Rul) (pv : Value) (w : World) (hg : GlobN w) (h : Sl 3 elPha w (· < w.heap.size) pv r.power) :
    Calls Tryz.prog 7 #[rulV r pv] w fun e w' => e = .returned (.bool true) ∧ Below w.heap.size w w' := by
  by_cases hc : checkR (fewR r) = 0
  · exact law_RBack_ok r pv w hg h hc
  · exact law_RBack_bad r pv w hg h hc
end Go.Proofs.YtnacklbaphobbaaGreatDoor
