/- Several texts of this family in one: U31 FG FI U33 F5 F6 P12 F7 U34. -/
import Derived.Test.YtglkejlimeakbaaGreatDoorGQ3
import Derived.Test.YtglkejlimeakbaaGreatDoorGQ0
import Derived.Test.YtglkejlimeakbaaGreatDoorGQ1
set_option linter.unusedSimpArgs false
set_option linter.unusedVariables false
namespace Go.Proofs.YtglkejlimeakbaaGreatDoor
open Go.RowKit

set_option maxRecDepth 100000 in
set_option maxHeartbeats 4000000 in
theorem rread_0 (q : Rul) (pv : Value) (x : Lin) (v : Value) (w : World) (hx : Sl 3 elFld w (· < w.heap.size) v x.fields) (hl : OkLin x) (hp : ∃ A n c, pv = .slice A n c) :
    Calls Tryz.prog 31 #[rulV q pv, .int .i64 0, .agg #[.int .i64 x.num, v]] w (RReadPost w (readR q 0 (Cur.start x)) pv) := by
  obtain ⟨A, n, cp, rfl⟩ := hp
  obtain ⟨Ax, cx, rfl, hcx, hcx2⟩ := hx.shape
  have k0 := rr_start (q := q) (pv := .slice A n cp) x _ hx hl
  obtain ⟨c1, hc1⟩ : ∃ c1, ((Cur.start x).keyword kRULES).1 = c1 := ⟨_, rfl⟩
  obtain ⟨⟨c', t⟩, hcv⟩ : ∃ y, y = c1.ident := ⟨_, rfl⟩
  have he : readR q 0 (Cur.start x) = ({ q with name := t }, c') := by
    have : readR q 0 (Cur.start x) = ({ q with name := ((Cur.start x).keyword kRULES).1.ident.2 }, ((Cur.start x).keyword kRULES).1.ident.1) := rfl
    rw [this, hc1, ← hcv]
  rw [he]
  obtain ⟨q9, hq9⟩ : ∃ q9 : Rul, q9 = { q with name := t } := ⟨_, rfl⟩
  rw [← hq9]
  obtain ⟨dl, dc, dk, b, hcl⟩ := close_shape c'.close
  have HCL := Lib.hid hcl
  have hset : (rulCells q (.slice A n cp)).setIfInBounds 0 (.string (S t)) = rulCells q9 (.slice A n cp) := by rw [hq9]; rfl
  have HSET := Lib.hid hset
  have HC1 := Lib.hid hc1
  have HCV := Lib.hid hcv
  unfold rulV rulCells
  unfold rulCells zeroR at k0
  have K0 := Lib.hid k0
  have tok0 : True := trivial
  clear k0 hx hl hcx hcx2 hc1 hcv he hcl hset hq9
  go_enter Tryz.func31, Tryz.ntmps31
  go_wp2_with (first
    | (clear tok0; go_at_call 32; refine K0.out.mono ?_; rintro e w1 ⟨g, F, rfl, h1⟩; have H1 := Lib.hid h1; clear h1; have tok1 : True := trivial)
    | (clear tok1; go_at_call 30; refine (rr_words H1.out).mono ?_; rintro e w2 ⟨kk, rfl, h2, hw⟩; have yw := hw 0 (by decide); clear hw; have H2 := Lib.hid h2; clear h2; have tok2 : True := trivial)
    | (clear tok2; go_at_call 33; refine (rr_Keyword H2.out kRULES HC1.out).mono ?_; rintro e w3 ⟨⟨bb, rfl⟩, h3⟩; clear yw; have H3 := Lib.hid h3; clear h3; have tok3 : True := trivial)
    | (clear tok3; go_at_call 69; refine (rr_Ident H3.out HCV.out).mono ?_; rintro e w4 ⟨rfl, h4⟩; obtain ⟨⟨u, y0⟩, yf0⟩ := h4.spot 0 (by decide); have H4 := Lib.hid (h4.set 0 _ HSET.out); clear h4; have tok4 : True := trivial)
    | (clear tok4; go_at_call 35; refine (rr_Close H4.out HCL.out).mono ?_; rintro e w9 ⟨rfl, h9⟩; clear u y0 yf0; have H9 := Lib.hid h9; clear h9; have tok9 : True := trivial))
  have ha := H9.out.below (Below.alloc (Below.refl w9.heap.size w9) (Nat.le_refl _) (.cells #[.int .i64 dl, .int .i64 dc, .int .i64 dk] 41))
  obtain ⟨y0, y1, y2, y3, y4, y5, y6, y7, y8, y9, y10, y11, y12, y13⟩ := Blk.fourteen (show Blk _ _ _ #[.string (S q9.name), .int .i64 q9.side, .int .i64 q9.inns, .int .i64 q9.overs, .int .i64 q9.balls, .int .i64 q9.quota, .int .i64 q9.wide, .int .i64 q9.noball, .bool q9.free, .int .i64 q9.newball, .int .i64 q9.follow, .int .i64 q9.reviews, .int .i64 q9.outside, .slice A n cp] from ha.kr)
  obtain ⟨z0, z1, z2, z3, z4, z5, z6, z7, z8, z9, z10, z11, z12, z13⟩ := Blk.fourteen (show Blk _ _ _ #[.string ⟨#[]⟩, .int .i64 0, .int .i64 0, .int .i64 0, .int .i64 0, .int .i64 0, .int .i64 0, .int .i64 0, .bool false, .int .i64 0, .int .i64 0, .int .i64 0, .int .i64 0, .slice none 0 0] from ha.k2)
  have zf0 := Blk.frozen (show Blk _ _ _ #[.string ⟨#[]⟩, .int .i64 0, .int .i64 0, .int .i64 0, .int .i64 0, .int .i64 0, .int .i64 0, .int .i64 0, .bool false, .int .i64 0, .int .i64 0, .int .i64 0, .int .i64 0, .slice none 0 0] from ha.k2) 0
  have zf1 := Blk.frozen (show Blk _ _ _ #[.string ⟨#[]⟩, .int .i64 0, .int .i64 0, .int .i64 0, .int .i64 0, .int .i64 0, .int .i64 0, .int .i64 0, .bool false, .int .i64 0, .int .i64 0, .int .i64 0, .int .i64 0, .slice none 0 0] from ha.k2) 1
  have zf2 := Blk.frozen (show Blk _ _ _ #[.string ⟨#[]⟩, .int .i64 0, .int .i64 0, .int .i64 0, .int .i64 0, .int .i64 0, .int .i64 0, .int .i64 0, .bool false, .int .i64 0, .int .i64 0, .int .i64 0, .int .i64 0, .slice none 0 0] from ha.k2) 2
  have zf3 := Blk.frozen (show Blk _ _ _ #[.string ⟨#[]⟩, .int .i64 0, .int .i64 0, .int .i64 0, .int .i64 0, .int .i64 0, .int .i64 0, .int .i64 0, .bool false, .int .i64 0, .int .i64 0, .int .i64 0, .int .i64 0, .slice none 0 0] from ha.k2) 3
  have zf4 := Blk.frozen (show Blk _ _ _ #[.string ⟨#[]⟩, .int .i64 0, .int .i64 0, .int .i64 0, .int .i64 0, .int .i64 0, .int .i64 0, .int .i64 0, .bool false, .int .i64 0, .int .i64 0, .int .i64 0, .int .i64 0, .slice none 0 0] from ha.k2) 4
  have zf5 := Blk.frozen (show Blk _ _ _ #[.string ⟨#[]⟩, .int .i64 0, .int .i64 0, .int .i64 0, .int .i64 0, .int .i64 0, .int .i64 0, .int .i64 0, .bool false, .int .i64 0, .int .i64 0, .int .i64 0, .int .i64 0, .slice none 0 0] from ha.k2) 5
  have zf6 := Blk.frozen (show Blk _ _ _ #[.string ⟨#[]⟩, .int .i64 0, .int .i64 0, .int .i64 0, .int .i64 0, .int .i64 0, .int .i64 0, .int .i64 0, .bool false, .int .i64 0, .int .i64 0, .int .i64 0, .int .i64 0, .slice none 0 0] from ha.k2) 6
  have zf7 := Blk.frozen (show Blk _ _ _ #[.string ⟨#[]⟩, .int .i64 0, .int .i64 0, .int .i64 0, .int .i64 0, .int .i64 0, .int .i64 0, .int .i64 0, .bool false, .int .i64 0, .int .i64 0, .int .i64 0, .int .i64 0, .slice none 0 0] from ha.k2) 7
  have zf8 := Blk.frozen (show Blk _ _ _ #[.string ⟨#[]⟩, .int .i64 0, .int .i64 0, .int .i64 0, .int .i64 0, .int .i64 0, .int .i64 0, .int .i64 0, .bool false, .int .i64 0, .int .i64 0, .int .i64 0, .int .i64 0, .slice none 0 0] from ha.k2) 8
  have zf9 := Blk.frozen (show Blk _ _ _ #[.string ⟨#[]⟩, .int .i64 0, .int .i64 0, .int .i64 0, .int .i64 0, .int .i64 0, .int .i64 0, .int .i64 0, .bool false, .int .i64 0, .int .i64 0, .int .i64 0, .int .i64 0, .slice none 0 0] from ha.k2) 9
  have zf10 := Blk.frozen (show Blk _ _ _ #[.string ⟨#[]⟩, .int .i64 0, .int .i64 0, .int .i64 0, .int .i64 0, .int .i64 0, .int .i64 0, .int .i64 0, .bool false, .int .i64 0, .int .i64 0, .int .i64 0, .int .i64 0, .slice none 0 0] from ha.k2) 10
  have zf11 := Blk.frozen (show Blk _ _ _ #[.string ⟨#[]⟩, .int .i64 0, .int .i64 0, .int .i64 0, .int .i64 0, .int .i64 0, .int .i64 0, .int .i64 0, .bool false, .int .i64 0, .int .i64 0, .int .i64 0, .int .i64 0, .slice none 0 0] from ha.k2) 11
  have zf12 := Blk.frozen (show Blk _ _ _ #[.string ⟨#[]⟩, .int .i64 0, .int .i64 0, .int .i64 0, .int .i64 0, .int .i64 0, .int .i64 0, .int .i64 0, .bool false, .int .i64 0, .int .i64 0, .int .i64 0, .int .i64 0, .slice none 0 0] from ha.k2) 12
  have zf13 := Blk.frozen (show Blk _ _ _ #[.string ⟨#[]⟩, .int .i64 0, .int .i64 0, .int .i64 0, .int .i64 0, .int .i64 0, .int .i64 0, .int .i64 0, .bool false, .int .i64 0, .int .i64 0, .int .i64 0, .int .i64 0, .slice none 0 0] from ha.k2) 13
  obtain ⟨d0, d1, d2, df0, df1, df2⟩ := Blk.three (show Blk _ _ _ #[.int .i64 0, .int .i64 0, .int .i64 0] from ha.k3)
  obtain ⟨x0, x1, x2, _⟩ := Blk.three (Blk.new w9 41 #[.int .i64 dl, .int .i64 dc, .int .i64 dk])
  have hlt9 := H9.out.cur.lt
  have hg9 := H9.out.hg
  have ne1 : ¬ (w9.heap.size = w.heap.size + 1 + 1) := by omega
  have ne2 : ¬ (w.heap.size + 1 + 1 = w9.heap.size) := by omega
  have ne3 : ¬ (w9.heap.size = w.heap.size + 1 + 1 + 1) := by omega
  have ne4 : ¬ (w.heap.size + 1 + 1 + 1 = w9.heap.size) := by omega
  have ne5 : ¬ (w.heap.size + 1 + 1 = w.heap.size + 1 + 1 + 1) := by omega
  have ne6 : ¬ (w.heap.size + 1 + 1 + 1 = w.heap.size + 1 + 1) := by omega
  clear ha hlt9 hg9
  go_region
  all_goals go_wp2_with fail
  all_goals (first
    | (rw [zero_chain (H9.out.below (Below.alloc (Below.refl w9.heap.size w9) (Nat.le_refl _) _)).k2]; exact rread_a H9.out HCL.out rfl rfl rfl rfl)
    | (have hzb := rread_zb H9.out (.cells #[.int .i64 dl, .int .i64 dc, .int .i64 dk] 41) (.int .i64 dl) (.int .i64 dc) (.int .i64 dk); unfold put3 at hzb; rw [zero_chain hzb]; exact rread_b H9.out HCL.out rfl rfl rfl rfl))
set_option maxRecDepth 100000 in
set_option maxHeartbeats 4000000 in
theorem rread_2 (q : Rul) (pv : Value) (x : Lin) (v : Value) (w : World) (hx : Sl 3 elFld w (· < w.heap.size) v x.fields) (hl : OkLin x) (hp : ∃ A n c, pv = .slice A n c) :
    Calls Tryz.prog 31 #[rulV q pv, .int .i64 2, .agg #[.int .i64 x.num, v]] w (RReadPost w (readR q 2 (Cur.start x)) pv) := by
  obtain ⟨A, n, cp, rfl⟩ := hp
  obtain ⟨Ax, cx, rfl, hcx, hcx2⟩ := hx.shape
  have k0 := rr_start (q := q) (pv := .slice A n cp) x _ hx hl
  obtain ⟨c1, hc1⟩ : ∃ c1, ((Cur.start x).keyword kINNINGS).1 = c1 := ⟨_, rfl⟩
  obtain ⟨⟨c', v⟩, hcv⟩ : ∃ y, y = c1.n := ⟨_, rfl⟩
  have he : readR q 2 (Cur.start x) = ({ q with inns := v }, c') := by
    have : readR q 2 (Cur.start x) = ({ q with inns := ((Cur.start x).keyword kINNINGS).1.n.2 }, ((Cur.start x).keyword kINNINGS).1.n.1) := rfl
    rw [this, hc1, ← hcv]
  rw [he]
  obtain ⟨q9, hq9⟩ : ∃ q9 : Rul, q9 = { q with inns := v } := ⟨_, rfl⟩
  rw [← hq9]
  obtain ⟨dl, dc, dk, b, hcl⟩ := close_shape c'.close
  have HCL := Lib.hid hcl
  have hset : (rulCells q (.slice A n cp)).setIfInBounds 2 (.int .i64 v) = rulCells q9 (.slice A n cp) := by rw [hq9]; rfl
  have HSET := Lib.hid hset
  have HC1 := Lib.hid hc1
  have HCV := Lib.hid hcv
  unfold rulV rulCells
  unfold rulCells zeroR at k0
  have K0 := Lib.hid k0
  have tok0 : True := trivial
  clear k0 hx hl hcx hcx2 hc1 hcv he hcl hset hq9
  go_enter Tryz.func31, Tryz.ntmps31
  go_wp2_with (first
    | (clear tok0; go_at_call 32; refine K0.out.mono ?_; rintro e w1 ⟨g, F, rfl, h1⟩; have H1 := Lib.hid h1; clear h1; have tok1 : True := trivial)
    | (clear tok1; go_at_call 30; refine (rr_words H1.out).mono ?_; rintro e w2 ⟨kk, rfl, h2, hw⟩; have yw := hw 2 (by decide); clear hw; have H2 := Lib.hid h2; clear h2; have tok2 : True := trivial)
    | (clear tok2; go_at_call 33; refine (rr_Keyword H2.out kINNINGS HC1.out).mono ?_; rintro e w3 ⟨⟨bb, rfl⟩, h3⟩; clear yw; have H3 := Lib.hid h3; clear h3; have tok3 : True := trivial)
    | (clear tok3; go_at_call 34; refine (rr_number H3.out HCV.out).mono ?_; rintro e w4 ⟨rfl, h4⟩; obtain ⟨⟨u, y2⟩, yf2⟩ := h4.spot 2 (by decide); have H4 := Lib.hid (h4.set 2 _ HSET.out); clear h4; have tok4 : True := trivial)
    | (clear tok4; go_at_call 35; refine (rr_Close H4.out HCL.out).mono ?_; rintro e w9 ⟨rfl, h9⟩; clear u y2 yf2; have H9 := Lib.hid h9; clear h9; have tok9 : True := trivial))
  have ha := H9.out.below (Below.alloc (Below.refl w9.heap.size w9) (Nat.le_refl _) (.cells #[.int .i64 dl, .int .i64 dc, .int .i64 dk] 41))
  obtain ⟨y0, y1, y2, y3, y4, y5, y6, y7, y8, y9, y10, y11, y12, y13⟩ := Blk.fourteen (show Blk _ _ _ #[.string (S q9.name), .int .i64 q9.side, .int .i64 q9.inns, .int .i64 q9.overs, .int .i64 q9.balls, .int .i64 q9.quota, .int .i64 q9.wide, .int .i64 q9.noball, .bool q9.free, .int .i64 q9.newball, .int .i64 q9.follow, .int .i64 q9.reviews, .int .i64 q9.outside, .slice A n cp] from ha.kr)
  obtain ⟨z0, z1, z2, z3, z4, z5, z6, z7, z8, z9, z10, z11, z12, z13⟩ := Blk.fourteen (show Blk _ _ _ #[.string ⟨#[]⟩, .int .i64 0, .int .i64 0, .int .i64 0, .int .i64 0, .int .i64 0, .int .i64 0, .int .i64 0, .bool false, .int .i64 0, .int .i64 0, .int .i64 0, .int .i64 0, .slice none 0 0] from ha.k2)
  have zf0 := Blk.frozen (show Blk _ _ _ #[.string ⟨#[]⟩, .int .i64 0, .int .i64 0, .int .i64 0, .int .i64 0, .int .i64 0, .int .i64 0, .int .i64 0, .bool false, .int .i64 0, .int .i64 0, .int .i64 0, .int .i64 0, .slice none 0 0] from ha.k2) 0
  have zf1 := Blk.frozen (show Blk _ _ _ #[.string ⟨#[]⟩, .int .i64 0, .int .i64 0, .int .i64 0, .int .i64 0, .int .i64 0, .int .i64 0, .int .i64 0, .bool false, .int .i64 0, .int .i64 0, .int .i64 0, .int .i64 0, .slice none 0 0] from ha.k2) 1
  have zf2 := Blk.frozen (show Blk _ _ _ #[.string ⟨#[]⟩, .int .i64 0, .int .i64 0, .int .i64 0, .int .i64 0, .int .i64 0, .int .i64 0, .int .i64 0, .bool false, .int .i64 0, .int .i64 0, .int .i64 0, .int .i64 0, .slice none 0 0] from ha.k2) 2
  have zf3 := Blk.frozen (show Blk _ _ _ #[.string ⟨#[]⟩, .int .i64 0, .int .i64 0, .int .i64 0, .int .i64 0, .int .i64 0, .int .i64 0, .int .i64 0, .bool false, .int .i64 0, .int .i64 0, .int .i64 0, .int .i64 0, .slice none 0 0] from ha.k2) 3
  have zf4 := Blk.frozen (show Blk _ _ _ #[.string ⟨#[]⟩, .int .i64 0, .int .i64 0, .int .i64 0, .int .i64 0, .int .i64 0, .int .i64 0, .int .i64 0, .bool false, .int .i64 0, .int .i64 0, .int .i64 0, .int .i64 0, .slice none 0 0] from ha.k2) 4
  have zf5 := Blk.frozen (show Blk _ _ _ #[.string ⟨#[]⟩, .int .i64 0, .int .i64 0, .int .i64 0, .int .i64 0, .int .i64 0, .int .i64 0, .int .i64 0, .bool false, .int .i64 0, .int .i64 0, .int .i64 0, .int .i64 0, .slice none 0 0] from ha.k2) 5
  have zf6 := Blk.frozen (show Blk _ _ _ #[.string ⟨#[]⟩, .int .i64 0, .int .i64 0, .int .i64 0, .int .i64 0, .int .i64 0, .int .i64 0, .int .i64 0, .bool false, .int .i64 0, .int .i64 0, .int .i64 0, .int .i64 0, .slice none 0 0] from ha.k2) 6
  have zf7 := Blk.frozen (show Blk _ _ _ #[.string ⟨#[]⟩, .int .i64 0, .int .i64 0, .int .i64 0, .int .i64 0, .int .i64 0, .int .i64 0, .int .i64 0, .bool false, .int .i64 0, .int .i64 0, .int .i64 0, .int .i64 0, .slice none 0 0] from ha.k2) 7
  have zf8 := Blk.frozen (show Blk _ _ _ #[.string ⟨#[]⟩, .int .i64 0, .int .i64 0, .int .i64 0, .int .i64 0, .int .i64 0, .int .i64 0, .int .i64 0, .bool false, .int .i64 0, .int .i64 0, .int .i64 0, .int .i64 0, .slice none 0 0] from ha.k2) 8
  have zf9 := Blk.frozen (show Blk _ _ _ #[.string ⟨#[]⟩, .int .i64 0, .int .i64 0, .int .i64 0, .int .i64 0, .int .i64 0, .int .i64 0, .int .i64 0, .bool false, .int .i64 0, .int .i64 0, .int .i64 0, .int .i64 0, .slice none 0 0] from ha.k2) 9
  have zf10 := Blk.frozen (show Blk _ _ _ #[.string ⟨#[]⟩, .int .i64 0, .int .i64 0, .int .i64 0, .int .i64 0, .int .i64 0, .int .i64 0, .int .i64 0, .bool false, .int .i64 0, .int .i64 0, .int .i64 0, .int .i64 0, .slice none 0 0] from ha.k2) 10
  have zf11 := Blk.frozen (show Blk _ _ _ #[.string ⟨#[]⟩, .int .i64 0, .int .i64 0, .int .i64 0, .int .i64 0, .int .i64 0, .int .i64 0, .int .i64 0, .bool false, .int .i64 0, .int .i64 0, .int .i64 0, .int .i64 0, .slice none 0 0] from ha.k2) 11
  have zf12 := Blk.frozen (show Blk _ _ _ #[.string ⟨#[]⟩, .int .i64 0, .int .i64 0, .int .i64 0, .int .i64 0, .int .i64 0, .int .i64 0, .int .i64 0, .bool false, .int .i64 0, .int .i64 0, .int .i64 0, .int .i64 0, .slice none 0 0] from ha.k2) 12
  have zf13 := Blk.frozen (show Blk _ _ _ #[.string ⟨#[]⟩, .int .i64 0, .int .i64 0, .int .i64 0, .int .i64 0, .int .i64 0, .int .i64 0, .int .i64 0, .bool false, .int .i64 0, .int .i64 0, .int .i64 0, .int .i64 0, .slice none 0 0] from ha.k2) 13
  obtain ⟨d0, d1, d2, df0, df1, df2⟩ := Blk.three (show Blk _ _ _ #[.int .i64 0, .int .i64 0, .int .i64 0] from ha.k3)
  obtain ⟨x0, x1, x2, _⟩ := Blk.three (Blk.new w9 41 #[.int .i64 dl, .int .i64 dc, .int .i64 dk])
  have hlt9 := H9.out.cur.lt
  have hg9 := H9.out.hg
  have ne1 : ¬ (w9.heap.size = w.heap.size + 1 + 1) := by omega
  have ne2 : ¬ (w.heap.size + 1 + 1 = w9.heap.size) := by omega
  have ne3 : ¬ (w9.heap.size = w.heap.size + 1 + 1 + 1) := by omega
  have ne4 : ¬ (w.heap.size + 1 + 1 + 1 = w9.heap.size) := by omega
  have ne5 : ¬ (w.heap.size + 1 + 1 = w.heap.size + 1 + 1 + 1) := by omega
  have ne6 : ¬ (w.heap.size + 1 + 1 + 1 = w.heap.size + 1 + 1) := by omega
  clear ha hlt9 hg9
  go_region
  all_goals go_wp2_with fail
  all_goals (first
    | (rw [zero_chain (H9.out.below (Below.alloc (Below.refl w9.heap.size w9) (Nat.le_refl _) _)).k2]; exact rread_a H9.out HCL.out rfl rfl rfl rfl)
    | (have hzb := rread_zb H9.out (.cells #[.int .i64 dl, .int .i64 dc, .int .i64 dk] 41) (.int .i64 dl) (.int .i64 dc) (.int .i64 dk); unfold put3 at hzb; rw [zero_chain hzb]; exact rread_b H9.out HCL.out rfl rfl rfl rfl))
set_option maxRecDepth 100000 in
set_option maxHeartbeats 4000000 in
theorem rread_3 (q : Rul) (pv : Value) (x : Lin) (v : Value) (w : World) (hx : Sl 3 elFld w (· < w.heap.size) v x.fields) (hl : OkLin x) (hp : ∃ A n c, pv = .slice A n c) :
    Calls Tryz.prog 31 #[rulV q pv, .int .i64 3, .agg #[.int .i64 x.num, v]] w (RReadPost w (readR q 3 (Cur.start x)) pv) := by
  obtain ⟨A, n, cp, rfl⟩ := hp
  obtain ⟨Ax, cx, rfl, hcx, hcx2⟩ := hx.shape
  have k0 := rr_start (q := q) (pv := .slice A n cp) x _ hx hl
  obtain ⟨c1, hc1⟩ : ∃ c1, ((Cur.start x).keyword kOVERS).1 = c1 := ⟨_, rfl⟩
  obtain ⟨⟨c', v⟩, hcv⟩ : ∃ y, y = c1.n := ⟨_, rfl⟩
  have he : readR q 3 (Cur.start x) = ({ q with overs := v }, c') := by
    have : readR q 3 (Cur.start x) = ({ q with overs := ((Cur.start x).keyword kOVERS).1.n.2 }, ((Cur.start x).keyword kOVERS).1.n.1) := rfl
    rw [this, hc1, ← hcv]
  rw [he]
  obtain ⟨q9, hq9⟩ : ∃ q9 : Rul, q9 = { q with overs := v } := ⟨_, rfl⟩
  rw [← hq9]
  obtain ⟨dl, dc, dk, b, hcl⟩ := close_shape c'.close
  have HCL := Lib.hid hcl
  have hset : (rulCells q (.slice A n cp)).setIfInBounds 3 (.int .i64 v) = rulCells q9 (.slice A n cp) := by rw [hq9]; rfl
  have HSET := Lib.hid hset
  have HC1 := Lib.hid hc1
  have HCV := Lib.hid hcv
  unfold rulV rulCells
  unfold rulCells zeroR at k0
  have K0 := Lib.hid k0
  have tok0 : True := trivial
  clear k0 hx hl hcx hcx2 hc1 hcv he hcl hset hq9
  go_enter Tryz.func31, Tryz.ntmps31
  go_wp2_with (first
    | (clear tok0; go_at_call 32; refine K0.out.mono ?_; rintro e w1 ⟨g, F, rfl, h1⟩; have H1 := Lib.hid h1; clear h1; have tok1 : True := trivial)
    | (clear tok1; go_at_call 30; refine (rr_words H1.out).mono ?_; rintro e w2 ⟨kk, rfl, h2, hw⟩; have yw := hw 3 (by decide); clear hw; have H2 := Lib.hid h2; clear h2; have tok2 : True := trivial)
    | (clear tok2; go_at_call 33; refine (rr_Keyword H2.out kOVERS HC1.out).mono ?_; rintro e w3 ⟨⟨bb, rfl⟩, h3⟩; clear yw; have H3 := Lib.hid h3; clear h3; have tok3 : True := trivial)
    | (clear tok3; go_at_call 34; refine (rr_number H3.out HCV.out).mono ?_; rintro e w4 ⟨rfl, h4⟩; obtain ⟨⟨u, y3⟩, yf3⟩ := h4.spot 3 (by decide); have H4 := Lib.hid (h4.set 3 _ HSET.out); clear h4; have tok4 : True := trivial)
    | (clear tok4; go_at_call 35; refine (rr_Close H4.out HCL.out).mono ?_; rintro e w9 ⟨rfl, h9⟩; clear u y3 yf3; have H9 := Lib.hid h9; clear h9; have tok9 : True := trivial))
  have ha := H9.out.below (Below.alloc (Below.refl w9.heap.size w9) (Nat.le_refl _) (.cells #[.int .i64 dl, .int .i64 dc, .int .i64 dk] 41))
  obtain ⟨y0, y1, y2, y3, y4, y5, y6, y7, y8, y9, y10, y11, y12, y13⟩ := Blk.fourteen (show Blk _ _ _ #[.string (S q9.name), .int .i64 q9.side, .int .i64 q9.inns, .int .i64 q9.overs, .int .i64 q9.balls, .int .i64 q9.quota, .int .i64 q9.wide, .int .i64 q9.noball, .bool q9.free, .int .i64 q9.newball, .int .i64 q9.follow, .int .i64 q9.reviews, .int .i64 q9.outside, .slice A n cp] from ha.kr)
  obtain ⟨z0, z1, z2, z3, z4, z5, z6, z7, z8, z9, z10, z11, z12, z13⟩ := Blk.fourteen (show Blk _ _ _ #[.string ⟨#[]⟩, .int .i64 0, .int .i64 0, .int .i64 0, .int .i64 0, .int .i64 0, .int .i64 0, .int .i64 0, .bool false, .int .i64 0, .int .i64 0, .int .i64 0, .int .i64 0, .slice none 0 0] from ha.k2)
  have zf0 := Blk.frozen (show Blk _ _ _ #[.string ⟨#[]⟩, .int .i64 0, .int .i64 0, .int .i64 0, .int .i64 0, .int .i64 0, .int .i64 0, .int .i64 0, .bool false, .int .i64 0, .int .i64 0, .int .i64 0, .int .i64 0, .slice none 0 0] from ha.k2) 0
  have zf1 := Blk.frozen (show Blk _ _ _ #[.string ⟨#[]⟩, .int .i64 0, .int .i64 0, .int .i64 0, .int .i64 0, .int .i64 0, .int .i64 0, .int .i64 0, .bool false, .int .i64 0, .int .i64 0, .int .i64 0, .int .i64 0, .slice none 0 0] from ha.k2) 1
  have zf2 := Blk.frozen (show Blk _ _ _ #[.string ⟨#[]⟩, .int .i64 0, .int .i64 0, .int .i64 0, .int .i64 0, .int .i64 0, .int .i64 0, .int .i64 0, .bool false, .int .i64 0, .int .i64 0, .int .i64 0, .int .i64 0, .slice none 0 0] from ha.k2) 2
  have zf3 := Blk.frozen (show Blk _ _ _ #[.string ⟨#[]⟩, .int .i64 0, .int .i64 0, .int .i64 0, .int .i64 0, .int .i64 0, .int .i64 0, .int .i64 0, .bool false, .int .i64 0, .int .i64 0, .int .i64 0, .int .i64 0, .slice none 0 0] from ha.k2) 3
  have zf4 := Blk.frozen (show Blk _ _ _ #[.string ⟨#[]⟩, .int .i64 0, .int .i64 0, .int .i64 0, .int .i64 0, .int .i64 0, .int .i64 0, .int .i64 0, .bool false, .int .i64 0, .int .i64 0, .int .i64 0, .int .i64 0, .slice none 0 0] from ha.k2) 4
  have zf5 := Blk.frozen (show Blk _ _ _ #[.string ⟨#[]⟩, .int .i64 0, .int .i64 0, .int .i64 0, .int .i64 0, .int .i64 0, .int .i64 0, .int .i64 0, .bool false, .int .i64 0, .int .i64 0, .int .i64 0, .int .i64 0, .slice none 0 0] from ha.k2) 5
  have zf6 := Blk.frozen (show Blk _ _ _ #[.string ⟨#[]⟩, .int .i64 0, .int .i64 0, .int .i64 0, .int .i64 0, .int .i64 0, .int .i64 0, .int .i64 0, .bool false, .int .i64 0, .int .i64 0, .int .i64 0, .int .i64 0, .slice none 0 0] from ha.k2) 6
  have zf7 := Blk.frozen (show Blk _ _ _ #[.string ⟨#[]⟩, .int .i64 0, .int .i64 0, .int .i64 0, .int .i64 0, .int .i64 0, .int .i64 0, .int .i64 0, .bool false, .int .i64 0, .int .i64 0, .int .i64 0, .int .i64 0, .slice none 0 0] from ha.k2) 7
  have zf8 := Blk.frozen (show Blk _ _ _ #[.string ⟨#[]⟩, .int .i64 0, .int .i64 0, .int .i64 0, .int .i64 0, .int .i64 0, .int .i64 0, .int .i64 0, .bool false, .int .i64 0, .int .i64 0, .int .i64 0, .int .i64 0, .slice none 0 0] from ha.k2) 8
  have zf9 := Blk.frozen (show Blk _ _ _ #[.string ⟨#[]⟩, .int .i64 0, .int .i64 0, .int .i64 0, .int .i64 0, .int .i64 0, .int .i64 0, .int .i64 0, .bool false, .int .i64 0, .int .i64 0, .int .i64 0, .int .i64 0, .slice none 0 0] from ha.k2) 9
  have zf10 := Blk.frozen (show Blk _ _ _ #[.string ⟨#[]⟩, .int .i64 0, .int .i64 0, .int .i64 0, .int .i64 0, .int .i64 0, .int .i64 0, .int .i64 0, .bool false, .int .i64 0, .int .i64 0, .int .i64 0, .int .i64 0, .slice none 0 0] from ha.k2) 10
  have zf11 := Blk.frozen (show Blk _ _ _ #[.string ⟨#[]⟩, .int .i64 0, .int .i64 0, .int .i64 0, .int .i64 0, .int .i64 0, .int .i64 0, .int .i64 0, .bool false, .int .i64 0, .int .i64 0, .int .i64 0, .int .i64 0, .slice none 0 0] from ha.k2) 11
  have zf12 := Blk.frozen (show Blk _ _ _ #[.string ⟨#[]⟩, .int .i64 0, .int .i64 0, .int .i64 0, .int .i64 0, .int .i64 0, .int .i64 0, .int .i64 0, .bool false, .int .i64 0, .int .i64 0, .int .i64 0, .int .i64 0, .slice none 0 0] from ha.k2) 12
  have zf13 := Blk.frozen (show Blk _ _ _ #[.string ⟨#[]⟩, .int .i64 0, .int .i64 0, .int .i64 0, .int .i64 0, .int .i64 0, .int .i64 0, .int .i64 0, .bool false, .int .i64 0, .int .i64 0, .int .i64 0, .int .i64 0, .slice none 0 0] from ha.k2) 13
  obtain ⟨d0, d1, d2, df0, df1, df2⟩ := Blk.three (show Blk _ _ _ #[.int .i64 0, .int .i64 0, .int .i64 0] from ha.k3)
  obtain ⟨x0, x1, x2, _⟩ := Blk.three (Blk.new w9 41 #[.int .i64 dl, .int .i64 dc, .int .i64 dk])
  have hlt9 := H9.out.cur.lt
  have hg9 := H9.out.hg
  have ne1 : ¬ (w9.heap.size = w.heap.size + 1 + 1) := by omega
  have ne2 : ¬ (w.heap.size + 1 + 1 = w9.heap.size) := by omega
  have ne3 : ¬ (w9.heap.size = w.heap.size + 1 + 1 + 1) := by omega
  have ne4 : ¬ (w.heap.size + 1 + 1 + 1 = w9.heap.size) := by omega
  have ne5 : ¬ (w.heap.size + 1 + 1 = w.heap.size + 1 + 1 + 1) := by omega
  have ne6 : ¬ (w.heap.size + 1 + 1 + 1 = w.heap.size + 1 + 1) := by omega
  clear ha hlt9 hg9
  go_region
  all_goals go_wp2_with fail
  all_goals (first
    | (rw [zero_chain (H9.out.below (Below.alloc (Below.refl w9.heap.size w9) (Nat.le_refl _) _)).k2]; exact rread_a H9.out HCL.out rfl rfl rfl rfl)
    | (have hzb := rread_zb H9.out (.cells #[.int .i64 dl, .int .i64 dc, .int .i64 dk] 41) (.int .i64 dl) (.int .i64 dc) (.int .i64 dk); unfold put3 at hzb; rw [zero_chain hzb]; exact rread_b H9.out HCL.out rfl rfl rfl rfl))
set_option maxRecDepth 100000 in
set_option maxHeartbeats 4000000 in
theorem rread_4 (q : Rul) (pv : Value) (x : Lin) (v : Value) (w : World) (hx : Sl 3 elFld w (· < w.heap.size) v x.fields) (hl : OkLin x) (hp : ∃ A n c, pv = .slice A n c) :
    Calls Tryz.prog 31 #[rulV q pv, .int .i64 4, .agg #[.int .i64 x.num, v]] w (RReadPost w (readR q 4 (Cur.start x)) pv) := by
  obtain ⟨A, n, cp, rfl⟩ := hp
  obtain ⟨Ax, cx, rfl, hcx, hcx2⟩ := hx.shape
  have k0 := rr_start (q := q) (pv := .slice A n cp) x _ hx hl
  obtain ⟨c1, hc1⟩ : ∃ c1, ((Cur.start x).keyword kBALLS).1 = c1 := ⟨_, rfl⟩
  obtain ⟨⟨c', v⟩, hcv⟩ : ∃ y, y = c1.n := ⟨_, rfl⟩
  have he : readR q 4 (Cur.start x) = ({ q with balls := v }, c') := by
    have : readR q 4 (Cur.start x) = ({ q with balls := ((Cur.start x).keyword kBALLS).1.n.2 }, ((Cur.start x).keyword kBALLS).1.n.1) := rfl
    rw [this, hc1, ← hcv]
  rw [he]
  obtain ⟨q9, hq9⟩ : ∃ q9 : Rul, q9 = { q with balls := v } := ⟨_, rfl⟩
  rw [← hq9]
  obtain ⟨dl, dc, dk, b, hcl⟩ := close_shape c'.close
  have HCL := Lib.hid hcl
  have hset : (rulCells q (.slice A n cp)).setIfInBounds 4 (.int .i64 v) = rulCells q9 (.slice A n cp) := by rw [hq9]; rfl
  have HSET := Lib.hid hset
  have HC1 := Lib.hid hc1
  have HCV := Lib.hid hcv
  unfold rulV rulCells
  unfold rulCells zeroR at k0
  have K0 := Lib.hid k0
  have tok0 : True := trivial
  clear k0 hx hl hcx hcx2 hc1 hcv he hcl hset hq9
  go_enter Tryz.func31, Tryz.ntmps31
  go_wp2_with (first
    | (clear tok0; go_at_call 32; refine K0.out.mono ?_; rintro e w1 ⟨g, F, rfl, h1⟩; have H1 := Lib.hid h1; clear h1; have tok1 : True := trivial)
    | (clear tok1; go_at_call 30; refine (rr_words H1.out).mono ?_; rintro e w2 ⟨kk, rfl, h2, hw⟩; have yw := hw 4 (by decide); clear hw; have H2 := Lib.hid h2; clear h2; have tok2 : True := trivial)
    | (clear tok2; go_at_call 33; refine (rr_Keyword H2.out kBALLS HC1.out).mono ?_; rintro e w3 ⟨⟨bb, rfl⟩, h3⟩; clear yw; have H3 := Lib.hid h3; clear h3; have tok3 : True := trivial)
    | (clear tok3; go_at_call 34; refine (rr_number H3.out HCV.out).mono ?_; rintro e w4 ⟨rfl, h4⟩; obtain ⟨⟨u, y4⟩, yf4⟩ := h4.spot 4 (by decide); have H4 := Lib.hid (h4.set 4 _ HSET.out); clear h4; have tok4 : True := trivial)
    | (clear tok4; go_at_call 35; refine (rr_Close H4.out HCL.out).mono ?_; rintro e w9 ⟨rfl, h9⟩; clear u y4 yf4; have H9 := Lib.hid h9; clear h9; have tok9 : True := trivial))
  have ha := H9.out.below (Below.alloc (Below.refl w9.heap.size w9) (Nat.le_refl _) (.cells #[.int .i64 dl, .int .i64 dc, .int .i64 dk] 41))
  obtain ⟨y0, y1, y2, y3, y4, y5, y6, y7, y8, y9, y10, y11, y12, y13⟩ := Blk.fourteen (show Blk _ _ _ #[.string (S q9.name), .int .i64 q9.side, .int .i64 q9.inns, .int .i64 q9.overs, .int .i64 q9.balls, .int .i64 q9.quota, .int .i64 q9.wide, .int .i64 q9.noball, .bool q9.free, .int .i64 q9.newball, .int .i64 q9.follow, .int .i64 q9.reviews, .int .i64 q9.outside, .slice A n cp] from ha.kr)
  obtain ⟨z0, z1, z2, z3, z4, z5, z6, z7, z8, z9, z10, z11, z12, z13⟩ := Blk.fourteen (show Blk _ _ _ #[.string ⟨#[]⟩, .int .i64 0, .int .i64 0, .int .i64 0, .int .i64 0, .int .i64 0, .int .i64 0, .int .i64 0, .bool false, .int .i64 0, .int .i64 0, .int .i64 0, .int .i64 0, .slice none 0 0] from ha.k2)
  have zf0 := Blk.frozen (show Blk _ _ _ #[.string ⟨#[]⟩, .int .i64 0, .int .i64 0, .int .i64 0, .int .i64 0, .int .i64 0, .int .i64 0, .int .i64 0, .bool false, .int .i64 0, .int .i64 0, .int .i64 0, .int .i64 0, .slice none 0 0] from ha.k2) 0
  have zf1 := Blk.frozen (show Blk _ _ _ #[.string ⟨#[]⟩, .int .i64 0, .int .i64 0, .int .i64 0, .int .i64 0, .int .i64 0, .int .i64 0, .int .i64 0, .bool false, .int .i64 0, .int .i64 0, .int .i64 0, .int .i64 0, .slice none 0 0] from ha.k2) 1
  have zf2 := Blk.frozen (show Blk _ _ _ #[.string ⟨#[]⟩, .int .i64 0, .int .i64 0, .int .i64 0, .int .i64 0, .int .i64 0, .int .i64 0, .int .i64 0, .bool false, .int .i64 0, .int .i64 0, .int .i64 0, .int .i64 0, .slice none 0 0] from ha.k2) 2
  have zf3 := Blk.frozen (show Blk _ _ _ #[.string ⟨#[]⟩, .int .i64 0, .int .i64 0, .int .i64 0, .int .i64 0, .int .i64 0, .int .i64 0, .int .i64 0, .bool false, .int .i64 0, .int .i64 0, .int .i64 0, .int .i64 0, .slice none 0 0] from ha.k2) 3
  have zf4 := Blk.frozen (show Blk _ _ _ #[.string ⟨#[]⟩, .int .i64 0, .int .i64 0, .int .i64 0, .int .i64 0, .int .i64 0, .int .i64 0, .int .i64 0, .bool false, .int .i64 0, .int .i64 0, .int .i64 0, .int .i64 0, .slice none 0 0] from ha.k2) 4
  have zf5 := Blk.frozen (show Blk _ _ _ #[.string ⟨#[]⟩, .int .i64 0, .int .i64 0, .int .i64 0, .int .i64 0, .int .i64 0, .int .i64 0, .int .i64 0, .bool false, .int .i64 0, .int .i64 0, .int .i64 0, .int .i64 0, .slice none 0 0] from ha.k2) 5
  have zf6 := Blk.frozen (show Blk _ _ _ #[.string ⟨#[]⟩, .int .i64 0, .int .i64 0, .int .i64 0, .int .i64 0, .int .i64 0, .int .i64 0, .int .i64 0, .bool false, .int .i64 0, .int .i64 0, .int .i64 0, .int .i64 0, .slice none 0 0] from ha.k2) 6
  have zf7 := Blk.frozen (show Blk _ _ _ #[.string ⟨#[]⟩, .int .i64 0, .int .i64 0, .int .i64 0, .int .i64 0, .int .i64 0, .int .i64 0, .int .i64 0, .bool false, .int .i64 0, .int .i64 0, .int .i64 0, .int .i64 0, .slice none 0 0] from ha.k2) 7
  have zf8 := Blk.frozen (show Blk _ _ _ #[.string ⟨#[]⟩, .int .i64 0, .int .i64 0, .int .i64 0, .int .i64 0, .int .i64 0, .int .i64 0, .int .i64 0, .bool false, .int .i64 0, .int .i64 0, .int .i64 0, .int .i64 0, .slice none 0 0] from ha.k2) 8
  have zf9 := Blk.frozen (show Blk _ _ _ #[.string ⟨#[]⟩, .int .i64 0, .int .i64 0, .int .i64 0, .int .i64 0, .int .i64 0, .int .i64 0, .int .i64 0, .bool false, .int .i64 0, .int .i64 0, .int .i64 0, .int .i64 0, .slice none 0 0] from ha.k2) 9
  have zf10 := Blk.frozen (show Blk _ _ _ #[.string ⟨#[]⟩, .int .i64 0, .int .i64 0, .int .i64 0, .int .i64 0, .int .i64 0, .int .i64 0, .int .i64 0, .bool false, .int .i64 0, .int .i64 0, .int .i64 0, .int .i64 0, .slice none 0 0] from ha.k2) 10
  have zf11 := Blk.frozen (show Blk _ _ _ #[.string ⟨#[]⟩, .int .i64 0, .int .i64 0, .int .i64 0, .int .i64 0, .int .i64 0, .int .i64 0, .int .i64 0, .bool false, .int .i64 0, .int .i64 0, .int .i64 0, .int .i64 0, .slice none 0 0] from ha.k2) 11
  have zf12 := Blk.frozen (show Blk _ _ _ #[.string ⟨#[]⟩, .int .i64 0, .int .i64 0, .int .i64 0, .int .i64 0, .int .i64 0, .int .i64 0, .int .i64 0, .bool false, .int .i64 0, .int .i64 0, .int .i64 0, .int .i64 0, .slice none 0 0] from ha.k2) 12
  have zf13 := Blk.frozen (show Blk _ _ _ #[.string ⟨#[]⟩, .int .i64 0, .int .i64 0, .int .i64 0, .int .i64 0, .int .i64 0, .int .i64 0, .int .i64 0, .bool false, .int .i64 0, .int .i64 0, .int .i64 0, .int .i64 0, .slice none 0 0] from ha.k2) 13
  obtain ⟨d0, d1, d2, df0, df1, df2⟩ := Blk.three (show Blk _ _ _ #[.int .i64 0, .int .i64 0, .int .i64 0] from ha.k3)
  obtain ⟨x0, x1, x2, _⟩ := Blk.three (Blk.new w9 41 #[.int .i64 dl, .int .i64 dc, .int .i64 dk])
  have hlt9 := H9.out.cur.lt
  have hg9 := H9.out.hg
  have ne1 : ¬ (w9.heap.size = w.heap.size + 1 + 1) := by omega
  have ne2 : ¬ (w.heap.size + 1 + 1 = w9.heap.size) := by omega
  have ne3 : ¬ (w9.heap.size = w.heap.size + 1 + 1 + 1) := by omega
  have ne4 : ¬ (w.heap.size + 1 + 1 + 1 = w9.heap.size) := by omega
  have ne5 : ¬ (w.heap.size + 1 + 1 = w.heap.size + 1 + 1 + 1) := by omega
  have ne6 : ¬ (w.heap.size + 1 + 1 + 1 = w.heap.size + 1 + 1) := by omega
  clear ha hlt9 hg9
  go_region
  all_goals go_wp2_with fail
  all_goals (first
    | (rw [zero_chain (H9.out.below (Below.alloc (Below.refl w9.heap.size w9) (Nat.le_refl _) _)).k2]; exact rread_a H9.out HCL.out rfl rfl rfl rfl)
    | (have hzb := rread_zb H9.out (.cells #[.int .i64 dl, .int .i64 dc, .int .i64 dk] 41) (.int .i64 dl) (.int .i64 dc) (.int .i64 dk); unfold put3 at hzb; rw [zero_chain hzb]; exact rread_b H9.out HCL.out rfl rfl rfl rfl))
set_option maxRecDepth 100000 in
set_option maxHeartbeats 4000000 in
theorem rread_5 (q : Rul) (pv : Value) (x : Lin) (v : Value) (w : World) (hx : Sl 3 elFld w (· < w.heap.size) v x.fields) (hl : OkLin x) (hp : ∃ A n c, pv = .slice A n c) :
    Calls Tryz.prog 31 #[rulV q pv, .int .i64 5, .agg #[.int .i64 x.num, v]] w (RReadPost w (readR q 5 (Cur.start x)) pv) := by
  obtain ⟨A, n, cp, rfl⟩ := hp
  obtain ⟨Ax, cx, rfl, hcx, hcx2⟩ := hx.shape
  have k0 := rr_start (q := q) (pv := .slice A n cp) x _ hx hl
  obtain ⟨c1, hc1⟩ : ∃ c1, ((Cur.start x).keyword kQUOTA).1 = c1 := ⟨_, rfl⟩
  obtain ⟨⟨c', v⟩, hcv⟩ : ∃ y, y = c1.n := ⟨_, rfl⟩
  have he : readR q 5 (Cur.start x) = ({ q with quota := v }, c') := by
    have : readR q 5 (Cur.start x) = ({ q with quota := ((Cur.start x).keyword kQUOTA).1.n.2 }, ((Cur.start x).keyword kQUOTA).1.n.1) := rfl
    rw [this, hc1, ← hcv]
  rw [he]
  obtain ⟨q9, hq9⟩ : ∃ q9 : Rul, q9 = { q with quota := v } := ⟨_, rfl⟩
  rw [← hq9]
  obtain ⟨dl, dc, dk, b, hcl⟩ := close_shape c'.close
  have HCL := Lib.hid hcl
  have hset : (rulCells q (.slice A n cp)).setIfInBounds 5 (.int .i64 v) = rulCells q9 (.slice A n cp) := by rw [hq9]; rfl
  have HSET := Lib.hid hset
  have HC1 := Lib.hid hc1
  have HCV := Lib.hid hcv
  unfold rulV rulCells
  unfold rulCells zeroR at k0
  have K0 := Lib.hid k0
  have tok0 : True := trivial
  clear k0 hx hl hcx hcx2 hc1 hcv he hcl hset hq9
  go_enter Tryz.func31, Tryz.ntmps31
  go_wp2_with (first
    | (clear tok0; go_at_call 32; refine K0.out.mono ?_; rintro e w1 ⟨g, F, rfl, h1⟩; have H1 := Lib.hid h1; clear h1; have tok1 : True := trivial)
    | (clear tok1; go_at_call 30; refine (rr_words H1.out).mono ?_; rintro e w2 ⟨kk, rfl, h2, hw⟩; have yw := hw 5 (by decide); clear hw; have H2 := Lib.hid h2; clear h2; have tok2 : True := trivial)
    | (clear tok2; go_at_call 33; refine (rr_Keyword H2.out kQUOTA HC1.out).mono ?_; rintro e w3 ⟨⟨bb, rfl⟩, h3⟩; clear yw; have H3 := Lib.hid h3; clear h3; have tok3 : True := trivial)
    | (clear tok3; go_at_call 34; refine (rr_number H3.out HCV.out).mono ?_; rintro e w4 ⟨rfl, h4⟩; obtain ⟨⟨u, y5⟩, yf5⟩ := h4.spot 5 (by decide); have H4 := Lib.hid (h4.set 5 _ HSET.out); clear h4; have tok4 : True := trivial)
    | (clear tok4; go_at_call 35; refine (rr_Close H4.out HCL.out).mono ?_; rintro e w9 ⟨rfl, h9⟩; clear u y5 yf5; have H9 := Lib.hid h9; clear h9; have tok9 : True := trivial))
  have ha := H9.out.below (Below.alloc (Below.refl w9.heap.size w9) (Nat.le_refl _) (.cells #[.int .i64 dl, .int .i64 dc, .int .i64 dk] 41))
  obtain ⟨y0, y1, y2, y3, y4, y5, y6, y7, y8, y9, y10, y11, y12, y13⟩ := Blk.fourteen (show Blk _ _ _ #[.string (S q9.name), .int .i64 q9.side, .int .i64 q9.inns, .int .i64 q9.overs, .int .i64 q9.balls, .int .i64 q9.quota, .int .i64 q9.wide, .int .i64 q9.noball, .bool q9.free, .int .i64 q9.newball, .int .i64 q9.follow, .int .i64 q9.reviews, .int .i64 q9.outside, .slice A n cp] from ha.kr)
  obtain ⟨z0, z1, z2, z3, z4, z5, z6, z7, z8, z9, z10, z11, z12, z13⟩ := Blk.fourteen (show Blk _ _ _ #[.string ⟨#[]⟩, .int .i64 0, .int .i64 0, .int .i64 0, .int .i64 0, .int .i64 0, .int .i64 0, .int .i64 0, .bool false, .int .i64 0, .int .i64 0, .int .i64 0, .int .i64 0, .slice none 0 0] from ha.k2)
  have zf0 := Blk.frozen (show Blk _ _ _ #[.string ⟨#[]⟩, .int .i64 0, .int .i64 0, .int .i64 0, .int .i64 0, .int .i64 0, .int .i64 0, .int .i64 0, .bool false, .int .i64 0, .int .i64 0, .int .i64 0, .int .i64 0, .slice none 0 0] from ha.k2) 0
  have zf1 := Blk.frozen (show Blk _ _ _ #[.string ⟨#[]⟩, .int .i64 0, .int .i64 0, .int .i64 0, .int .i64 0, .int .i64 0, .int .i64 0, .int .i64 0, .bool false, .int .i64 0, .int .i64 0, .int .i64 0, .int .i64 0, .slice none 0 0] from ha.k2) 1
  have zf2 := Blk.frozen (show Blk _ _ _ #[.string ⟨#[]⟩, .int .i64 0, .int .i64 0, .int .i64 0, .int .i64 0, .int .i64 0, .int .i64 0, .int .i64 0, .bool false, .int .i64 0, .int .i64 0, .int .i64 0, .int .i64 0, .slice none 0 0] from ha.k2) 2
  have zf3 := Blk.frozen (show Blk _ _ _ #[.string ⟨#[]⟩, .int .i64 0, .int .i64 0, .int .i64 0, .int .i64 0, .int .i64 0, .int .i64 0, .int .i64 0, .bool false, .int .i64 0, .int .i64 0, .int .i64 0, .int .i64 0, .slice none 0 0] from ha.k2) 3
  have zf4 := Blk.frozen (show Blk _ _ _ #[.string ⟨#[]⟩, .int .i64 0, .int .i64 0, .int .i64 0, .int .i64 0, .int .i64 0, .int .i64 0, .int .i64 0, .bool false, .int .i64 0, .int .i64 0, .int .i64 0, .int .i64 0, .slice none 0 0] from ha.k2) 4
  have zf5 := Blk.frozen (show Blk _ _ _ #[.string ⟨#[]⟩, .int .i64 0, .int .i64 0, .int .i64 0, .int .i64 0, .int .i64 0, .int .i64 0, .int .i64 0, .bool false, .int .i64 0, .int .i64 0, .int .i64 0, .int .i64 0, .slice none 0 0] from ha.k2) 5
  have zf6 := Blk.frozen (show Blk _ _ _ #[.string ⟨#[]⟩, .int .i64 0, .int .i64 0, .int .i64 0, .int .i64 0, .int .i64 0, .int .i64 0, .int .i64 0, .bool false, .int .i64 0, .int .i64 0, .int .i64 0, .int .i64 0, .slice none 0 0] from ha.k2) 6
  have zf7 := Blk.frozen (show Blk _ _ _ #[.string ⟨#[]⟩, .int .i64 0, .int .i64 0, .int .i64 0, .int .i64 0, .int .i64 0, .int .i64 0, .int .i64 0, .bool false, .int .i64 0, .int .i64 0, .int .i64 0, .int .i64 0, .slice none 0 0] from ha.k2) 7
  have zf8 := Blk.frozen (show Blk _ _ _ #[.string ⟨#[]⟩, .int .i64 0, .int .i64 0, .int .i64 0, .int .i64 0, .int .i64 0, .int .i64 0, .int .i64 0, .bool false, .int .i64 0, .int .i64 0, .int .i64 0, .int .i64 0, .slice none 0 0] from ha.k2) 8
  have zf9 := Blk.frozen (show Blk _ _ _ #[.string ⟨#[]⟩, .int .i64 0, .int .i64 0, .int .i64 0, .int .i64 0, .int .i64 0, .int .i64 0, .int .i64 0, .bool false, .int .i64 0, .int .i64 0, .int .i64 0, .int .i64 0, .slice none 0 0] from ha.k2) 9
  have zf10 := Blk.frozen (show Blk _ _ _ #[.string ⟨#[]⟩, .int .i64 0, .int .i64 0, .int .i64 0, .int .i64 0, .int .i64 0, .int .i64 0, .int .i64 0, .bool false, .int .i64 0, .int .i64 0, .int .i64 0, .int .i64 0, .slice none 0 0] from ha.k2) 10
  have zf11 := Blk.frozen (show Blk _ _ _ #[.string ⟨#[]⟩, .int .i64 0, .int .i64 0, .int .i64 0, .int .i64 0, .int .i64 0, .int .i64 0, .int .i64 0, .bool false, .int .i64 0, .int .i64 0, .int .i64 0, .int .i64 0, .slice none 0 0] from ha.k2) 11
  have zf12 := Blk.frozen (show Blk _ _ _ #[.string ⟨#[]⟩, .int .i64 0, .int .i64 0, .int .i64 0, .int .i64 0, .int .i64 0, .int .i64 0, .int .i64 0, .bool false, .int .i64 0, .int .i64 0, .int .i64 0, .int .i64 0, .slice none 0 0] from ha.k2) 12
  have zf13 := Blk.frozen (show Blk _ _ _ #[.string ⟨#[]⟩, .int .i64 0, .int .i64 0, .int .i64 0, .int .i64 0, .int .i64 0, .int .i64 0, .int .i64 0, .bool false, .int .i64 0, .int .i64 0, .int .i64 0, .int .i64 0, .slice none 0 0] from ha.k2) 13
  obtain ⟨d0, d1, d2, df0, df1, df2⟩ := Blk.three (show Blk _ _ _ #[.int .i64 0, .int .i64 0, .int .i64 0] from ha.k3)
  obtain ⟨x0, x1, x2, _⟩ := Blk.three (Blk.new w9 41 #[.int .i64 dl, .int .i64 dc, .int .i64 dk])
  have hlt9 := H9.out.cur.lt
  have hg9 := H9.out.hg
  have ne1 : ¬ (w9.heap.size = w.heap.size + 1 + 1) := by omega
  have ne2 : ¬ (w.heap.size + 1 + 1 = w9.heap.size) := by omega
  have ne3 : ¬ (w9.heap.size = w.heap.size + 1 + 1 + 1) := by omega
  have ne4 : ¬ (w.heap.size + 1 + 1 + 1 = w9.heap.size) := by omega
  have ne5 : ¬ (w.heap.size + 1 + 1 = w.heap.size + 1 + 1 + 1) := by omega
  have ne6 : ¬ (w.heap.size + 1 + 1 + 1 = w.heap.size + 1 + 1) := by omega
  clear ha hlt9 hg9
  go_region
  all_goals go_wp2_with fail
  all_goals (first
    | (rw [zero_chain (H9.out.below (Below.alloc (Below.refl w9.heap.size w9) (Nat.le_refl _) _)).k2]; exact rread_a H9.out HCL.out rfl rfl rfl rfl)
    | (have hzb := rread_zb H9.out (.cells #[.int .i64 dl, .int .i64 dc, .int .i64 dk] 41) (.int .i64 dl) (.int .i64 dc) (.int .i64 dk); unfold put3 at hzb; rw [zero_chain hzb]; exact rread_b H9.out HCL.out rfl rfl rfl rfl))
set_option maxRecDepth 100000 in
set_option maxHeartbeats 4000000 in
theorem rread_6 (q : Rul) (pv : Value) (x : Lin) (v : Value) (w : World) (hx : Sl 3 elFld w (· < w.heap.size) v x.fields) (hl : OkLin x) (hp : ∃ A n c, pv = .slice A n c) :
    Calls Tryz.prog 31 #[rulV q pv, .int .i64 6, .agg #[.int .i64 x.num, v]] w (RReadPost w (readR q 6 (Cur.start x)) pv) := by
  obtain ⟨A, n, cp, rfl⟩ := hp
  obtain ⟨Ax, cx, rfl, hcx, hcx2⟩ := hx.shape
  have k0 := rr_start (q := q) (pv := .slice A n cp) x _ hx hl
  obtain ⟨c1, hc1⟩ : ∃ c1, ((Cur.start x).keyword kRUNS).1 = c1 := ⟨_, rfl⟩
  obtain ⟨⟨c2, v⟩, hcv⟩ : ∃ y, y = c1.n := ⟨_, rfl⟩
  obtain ⟨⟨c', v2⟩, hcv2⟩ : ∃ y, y = c2.n := ⟨_, rfl⟩
  have he : readR q 6 (Cur.start x) = ({ q with wide := v, noball := v2 }, c') := by
    have : readR q 6 (Cur.start x) = ({ q with wide := ((Cur.start x).keyword kRUNS).1.n.2, noball := ((Cur.start x).keyword kRUNS).1.n.1.n.2 }, ((Cur.start x).keyword kRUNS).1.n.1.n.1) := rfl
    rw [this, hc1, ← hcv, ← hcv2]
  rw [he]
  obtain ⟨q9, hq9⟩ : ∃ q9 : Rul, q9 = { q with wide := v, noball := v2 } := ⟨_, rfl⟩
  obtain ⟨q8, hq8⟩ : ∃ q8 : Rul, q8 = { q with wide := v } := ⟨_, rfl⟩
  rw [← hq9]
  obtain ⟨dl, dc, dk, b, hcl⟩ := close_shape c'.close
  have HCL := Lib.hid hcl
  have hset : (rulCells q (.slice A n cp)).setIfInBounds 6 (.int .i64 v) = rulCells q8 (.slice A n cp) := by rw [hq8]; rfl
  have hset2 : (rulCells q8 (.slice A n cp)).setIfInBounds 7 (.int .i64 v2) = rulCells q9 (.slice A n cp) := by rw [hq8, hq9]; rfl
  have HSET := Lib.hid hset
  have HSET2 := Lib.hid hset2
  have HC1 := Lib.hid hc1
  have HCV := Lib.hid hcv
  have HCV2 := Lib.hid hcv2
  unfold rulV rulCells
  unfold rulCells zeroR at k0
  have K0 := Lib.hid k0
  have tok0 : True := trivial
  clear k0 hx hl hcx hcx2 hc1 hcv he hcl hset hq9 hcv2 hset2 hq8
  go_enter Tryz.func31, Tryz.ntmps31
  go_wp2_with (first
    | (clear tok0; go_at_call 32; refine K0.out.mono ?_; rintro e w1 ⟨g, F, rfl, h1⟩; have H1 := Lib.hid h1; clear h1; have tok1 : True := trivial)
    | (clear tok1; go_at_call 30; refine (rr_words H1.out).mono ?_; rintro e w2 ⟨kk, rfl, h2, hw⟩; have yw := hw 6 (by decide); clear hw; have H2 := Lib.hid h2; clear h2; have tok2 : True := trivial)
    | (clear tok2; go_at_call 33; refine (rr_Keyword H2.out kRUNS HC1.out).mono ?_; rintro e w3 ⟨⟨bb, rfl⟩, h3⟩; clear yw; have H3 := Lib.hid h3; clear h3; have tok3 : True := trivial)
    | (clear tok3; go_at_call 34; refine (rr_number H3.out HCV.out).mono ?_; rintro e w4 ⟨rfl, h4⟩; obtain ⟨⟨u, y6⟩, yf6⟩ := h4.spot 6 (by decide); have H4 := Lib.hid (h4.set 6 _ HSET.out); clear h4; have tok4 : True := trivial)
    | (clear tok4; go_at_call 34; refine (rr_number H4.out HCV2.out).mono ?_; rintro e w5 ⟨rfl, h4⟩; clear y6 yf6; obtain ⟨⟨u, y7⟩, yf7⟩ := h4.spot 7 (by decide); have H5 := Lib.hid (h4.set 7 _ HSET2.out); clear h4; have tok5 : True := trivial)
    | (clear tok5; go_at_call 35; refine (rr_Close H5.out HCL.out).mono ?_; rintro e w9 ⟨rfl, h9⟩; clear u y7 yf7; have H9 := Lib.hid h9; clear h9; have tok9 : True := trivial))
  have ha := H9.out.below (Below.alloc (Below.refl w9.heap.size w9) (Nat.le_refl _) (.cells #[.int .i64 dl, .int .i64 dc, .int .i64 dk] 41))
  obtain ⟨y0, y1, y2, y3, y4, y5, y6, y7, y8, y9, y10, y11, y12, y13⟩ := Blk.fourteen (show Blk _ _ _ #[.string (S q9.name), .int .i64 q9.side, .int .i64 q9.inns, .int .i64 q9.overs, .int .i64 q9.balls, .int .i64 q9.quota, .int .i64 q9.wide, .int .i64 q9.noball, .bool q9.free, .int .i64 q9.newball, .int .i64 q9.follow, .int .i64 q9.reviews, .int .i64 q9.outside, .slice A n cp] from ha.kr)
  obtain ⟨z0, z1, z2, z3, z4, z5, z6, z7, z8, z9, z10, z11, z12, z13⟩ := Blk.fourteen (show Blk _ _ _ #[.string ⟨#[]⟩, .int .i64 0, .int .i64 0, .int .i64 0, .int .i64 0, .int .i64 0, .int .i64 0, .int .i64 0, .bool false, .int .i64 0, .int .i64 0, .int .i64 0, .int .i64 0, .slice none 0 0] from ha.k2)
  have zf0 := Blk.frozen (show Blk _ _ _ #[.string ⟨#[]⟩, .int .i64 0, .int .i64 0, .int .i64 0, .int .i64 0, .int .i64 0, .int .i64 0, .int .i64 0, .bool false, .int .i64 0, .int .i64 0, .int .i64 0, .int .i64 0, .slice none 0 0] from ha.k2) 0
  have zf1 := Blk.frozen (show Blk _ _ _ #[.string ⟨#[]⟩, .int .i64 0, .int .i64 0, .int .i64 0, .int .i64 0, .int .i64 0, .int .i64 0, .int .i64 0, .bool false, .int .i64 0, .int .i64 0, .int .i64 0, .int .i64 0, .slice none 0 0] from ha.k2) 1
  have zf2 := Blk.frozen (show Blk _ _ _ #[.string ⟨#[]⟩, .int .i64 0, .int .i64 0, .int .i64 0, .int .i64 0, .int .i64 0, .int .i64 0, .int .i64 0, .bool false, .int .i64 0, .int .i64 0, .int .i64 0, .int .i64 0, .slice none 0 0] from ha.k2) 2
  have zf3 := Blk.frozen (show Blk _ _ _ #[.string ⟨#[]⟩, .int .i64 0, .int .i64 0, .int .i64 0, .int .i64 0, .int .i64 0, .int .i64 0, .int .i64 0, .bool false, .int .i64 0, .int .i64 0, .int .i64 0, .int .i64 0, .slice none 0 0] from ha.k2) 3
  have zf4 := Blk.frozen (show Blk _ _ _ #[.string ⟨#[]⟩, .int .i64 0, .int .i64 0, .int .i64 0, .int .i64 0, .int .i64 0, .int .i64 0, .int .i64 0, .bool false, .int .i64 0, .int .i64 0, .int .i64 0, .int .i64 0, .slice none 0 0] from ha.k2) 4
  have zf5 := Blk.frozen (show Blk _ _ _ #[.string ⟨#[]⟩, .int .i64 0, .int .i64 0, .int .i64 0, .int .i64 0, .int .i64 0, .int .i64 0, .int .i64 0, .bool false, .int .i64 0, .int .i64 0, .int .i64 0, .int .i64 0, .slice none 0 0] from ha.k2) 5
  have zf6 := Blk.frozen (show Blk _ _ _ #[.string ⟨#[]⟩, .int .i64 0, .int .i64 0, .int .i64 0, .int .i64 0, .int .i64 0, .int .i64 0, .int .i64 0, .bool false, .int .i64 0, .int .i64 0, .int .i64 0, .int .i64 0, .slice none 0 0] from ha.k2) 6
  have zf7 := Blk.frozen (show Blk _ _ _ #[.string ⟨#[]⟩, .int .i64 0, .int .i64 0, .int .i64 0, .int .i64 0, .int .i64 0, .int .i64 0, .int .i64 0, .bool false, .int .i64 0, .int .i64 0, .int .i64 0, .int .i64 0, .slice none 0 0] from ha.k2) 7
  have zf8 := Blk.frozen (show Blk _ _ _ #[.string ⟨#[]⟩, .int .i64 0, .int .i64 0, .int .i64 0, .int .i64 0, .int .i64 0, .int .i64 0, .int .i64 0, .bool false, .int .i64 0, .int .i64 0, .int .i64 0, .int .i64 0, .slice none 0 0] from ha.k2) 8
  have zf9 := Blk.frozen (show Blk _ _ _ #[.string ⟨#[]⟩, .int .i64 0, .int .i64 0, .int .i64 0, .int .i64 0, .int .i64 0, .int .i64 0, .int .i64 0, .bool false, .int .i64 0, .int .i64 0, .int .i64 0, .int .i64 0, .slice none 0 0] from ha.k2) 9
  have zf10 := Blk.frozen (show Blk _ _ _ #[.string ⟨#[]⟩, .int .i64 0, .int .i64 0, .int .i64 0, .int .i64 0, .int .i64 0, .int .i64 0, .int .i64 0, .bool false, .int .i64 0, .int .i64 0, .int .i64 0, .int .i64 0, .slice none 0 0] from ha.k2) 10
  have zf11 := Blk.frozen (show Blk _ _ _ #[.string ⟨#[]⟩, .int .i64 0, .int .i64 0, .int .i64 0, .int .i64 0, .int .i64 0, .int .i64 0, .int .i64 0, .bool false, .int .i64 0, .int .i64 0, .int .i64 0, .int .i64 0, .slice none 0 0] from ha.k2) 11
  have zf12 := Blk.frozen (show Blk _ _ _ #[.string ⟨#[]⟩, .int .i64 0, .int .i64 0, .int .i64 0, .int .i64 0, .int .i64 0, .int .i64 0, .int .i64 0, .bool false, .int .i64 0, .int .i64 0, .int .i64 0, .int .i64 0, .slice none 0 0] from ha.k2) 12
  have zf13 := Blk.frozen (show Blk _ _ _ #[.string ⟨#[]⟩, .int .i64 0, .int .i64 0, .int .i64 0, .int .i64 0, .int .i64 0, .int .i64 0, .int .i64 0, .bool false, .int .i64 0, .int .i64 0, .int .i64 0, .int .i64 0, .slice none 0 0] from ha.k2) 13
  obtain ⟨d0, d1, d2, df0, df1, df2⟩ := Blk.three (show Blk _ _ _ #[.int .i64 0, .int .i64 0, .int .i64 0] from ha.k3)
  obtain ⟨x0, x1, x2, _⟩ := Blk.three (Blk.new w9 41 #[.int .i64 dl, .int .i64 dc, .int .i64 dk])
  have hlt9 := H9.out.cur.lt
  have hg9 := H9.out.hg
  have ne1 : ¬ (w9.heap.size = w.heap.size + 1 + 1) := by omega
  have ne2 : ¬ (w.heap.size + 1 + 1 = w9.heap.size) := by omega
  have ne3 : ¬ (w9.heap.size = w.heap.size + 1 + 1 + 1) := by omega
  have ne4 : ¬ (w.heap.size + 1 + 1 + 1 = w9.heap.size) := by omega
  have ne5 : ¬ (w.heap.size + 1 + 1 = w.heap.size + 1 + 1 + 1) := by omega
  have ne6 : ¬ (w.heap.size + 1 + 1 + 1 = w.heap.size + 1 + 1) := by omega
  clear ha hlt9 hg9
  go_region
  all_goals go_wp2_with fail
  all_goals (first
    | (rw [zero_chain (H9.out.below (Below.alloc (Below.refl w9.heap.size w9) (Nat.le_refl _) _)).k2]; exact rread_a H9.out HCL.out rfl rfl rfl rfl)
    | (have hzb := rread_zb H9.out (.cells #[.int .i64 dl, .int .i64 dc, .int .i64 dk] 41) (.int .i64 dl) (.int .i64 dc) (.int .i64 dk); unfold put3 at hzb; rw [zero_chain hzb]; exact rread_b H9.out HCL.out rfl rfl rfl rfl))
set_option maxRecDepth 100000 in
set_option maxHeartbeats 4000000 in
theorem rread_7 (q : Rul) (pv : Value) (x : Lin) (v : Value) (w : World) (hx : Sl 3 elFld w (· < w.heap.size) v x.fields) (hl : OkLin x) (hp : ∃ A n c, pv = .slice A n c) :
    Calls Tryz.prog 31 #[rulV q pv, .int .i64 7, .agg #[.int .i64 x.num, v]] w (RReadPost w (readR q 7 (Cur.start x)) pv) := by
  obtain ⟨A, n, cp, rfl⟩ := hp
  obtain ⟨Ax, cx, rfl, hcx, hcx2⟩ := hx.shape
  have k0 := rr_start (q := q) (pv := .slice A n cp) x _ hx hl
  obtain ⟨c1, hc1⟩ : ∃ c1, ((Cur.start x).keyword kFREEHIT).1 = c1 := ⟨_, rfl⟩
  obtain ⟨⟨c', v⟩, hcv⟩ : ∃ y, y = c1.oneOf [kYES, kNO] := ⟨_, rfl⟩
  have he : readR q 7 (Cur.start x) = ({ q with free := decide (v = 0) }, c') := by
    have : readR q 7 (Cur.start x) = ({ q with free := decide ((((Cur.start x).keyword kFREEHIT).1.oneOf [kYES, kNO]).2 = 0) }, (((Cur.start x).keyword kFREEHIT).1.oneOf [kYES, kNO]).1) := rfl
    rw [this, hc1, ← hcv]
  obtain ⟨bf, hbf⟩ : ∃ bf, bf = decide (v = 0) := ⟨_, rfl⟩
  rw [← hbf] at he
  have hv0 : (v == 0) = bf := by rw [hbf]; rfl
  rw [he]
  obtain ⟨q9, hq9⟩ : ∃ q9 : Rul, q9 = { q with free := bf } := ⟨_, rfl⟩
  rw [← hq9]
  obtain ⟨dl, dc, dk, b, hcl⟩ := close_shape c'.close
  have HCL := Lib.hid hcl
  have hset : (rulCells q (.slice A n cp)).setIfInBounds 8 (.bool bf) = rulCells q9 (.slice A n cp) := by rw [hq9]; rfl
  have HSET := Lib.hid hset
  have HC1 := Lib.hid hc1
  have HCV := Lib.hid hcv
  unfold rulV rulCells
  unfold rulCells zeroR at k0
  have K0 := Lib.hid k0
  have tok0 : True := trivial
  clear k0 hx hl hcx hcx2 hc1 hcv he hcl hset hq9 hbf
  go_enter Tryz.func31, Tryz.ntmps31
  go_wp2_with (first
    | (clear tok0; go_at_call 32; refine K0.out.mono ?_; rintro e w1 ⟨g, F, rfl, h1⟩; have H1 := Lib.hid h1; clear h1; have tok1 : True := trivial)
    | (clear tok1; go_at_call 30; refine (rr_words H1.out).mono ?_; rintro e w2 ⟨kk, rfl, h2, hw⟩; have yw := hw 7 (by decide); clear hw; have H2 := Lib.hid h2; clear h2; have tok2 : True := trivial)
    | (clear tok2; go_at_call 33; refine (rr_Keyword H2.out kFREEHIT HC1.out).mono ?_; rintro e w3 ⟨⟨bb, rfl⟩, h3⟩; clear yw; have H3 := Lib.hid h3; clear h3; have tok3 : True := trivial)
    | (clear tok3; go_at_call 70; refine (rr_OneOf H3.out HCV.out).mono ?_; rintro e w4 ⟨rfl, h4⟩; obtain ⟨⟨u, y8⟩, yf8⟩ := h4.spot 8 (by decide); have H4 := Lib.hid (h4.set 8 _ HSET.out); clear h4; have tok4 : True := trivial)
    | (clear tok4; go_at_call 35; refine (rr_Close H4.out HCL.out).mono ?_; rintro e w9 ⟨rfl, h9⟩; clear u y8 yf8; have H9 := Lib.hid h9; clear h9; have tok9 : True := trivial))
  have ha := H9.out.below (Below.alloc (Below.refl w9.heap.size w9) (Nat.le_refl _) (.cells #[.int .i64 dl, .int .i64 dc, .int .i64 dk] 41))
  obtain ⟨y0, y1, y2, y3, y4, y5, y6, y7, y8, y9, y10, y11, y12, y13⟩ := Blk.fourteen (show Blk _ _ _ #[.string (S q9.name), .int .i64 q9.side, .int .i64 q9.inns, .int .i64 q9.overs, .int .i64 q9.balls, .int .i64 q9.quota, .int .i64 q9.wide, .int .i64 q9.noball, .bool q9.free, .int .i64 q9.newball, .int .i64 q9.follow, .int .i64 q9.reviews, .int .i64 q9.outside, .slice A n cp] from ha.kr)
  obtain ⟨z0, z1, z2, z3, z4, z5, z6, z7, z8, z9, z10, z11, z12, z13⟩ := Blk.fourteen (show Blk _ _ _ #[.string ⟨#[]⟩, .int .i64 0, .int .i64 0, .int .i64 0, .int .i64 0, .int .i64 0, .int .i64 0, .int .i64 0, .bool false, .int .i64 0, .int .i64 0, .int .i64 0, .int .i64 0, .slice none 0 0] from ha.k2)
  have zf0 := Blk.frozen (show Blk _ _ _ #[.string ⟨#[]⟩, .int .i64 0, .int .i64 0, .int .i64 0, .int .i64 0, .int .i64 0, .int .i64 0, .int .i64 0, .bool false, .int .i64 0, .int .i64 0, .int .i64 0, .int .i64 0, .slice none 0 0] from ha.k2) 0
  have zf1 := Blk.frozen (show Blk _ _ _ #[.string ⟨#[]⟩, .int .i64 0, .int .i64 0, .int .i64 0, .int .i64 0, .int .i64 0, .int .i64 0, .int .i64 0, .bool false, .int .i64 0, .int .i64 0, .int .i64 0, .int .i64 0, .slice none 0 0] from ha.k2) 1
  have zf2 := Blk.frozen (show Blk _ _ _ #[.string ⟨#[]⟩, .int .i64 0, .int .i64 0, .int .i64 0, .int .i64 0, .int .i64 0, .int .i64 0, .int .i64 0, .bool false, .int .i64 0, .int .i64 0, .int .i64 0, .int .i64 0, .slice none 0 0] from ha.k2) 2
  have zf3 := Blk.frozen (show Blk _ _ _ #[.string ⟨#[]⟩, .int .i64 0, .int .i64 0, .int .i64 0, .int .i64 0, .int .i64 0, .int .i64 0, .int .i64 0, .bool false, .int .i64 0, .int .i64 0, .int .i64 0, .int .i64 0, .slice none 0 0] from ha.k2) 3
  have zf4 := Blk.frozen (show Blk _ _ _ #[.string ⟨#[]⟩, .int .i64 0, .int .i64 0, .int .i64 0, .int .i64 0, .int .i64 0, .int .i64 0, .int .i64 0, .bool false, .int .i64 0, .int .i64 0, .int .i64 0, .int .i64 0, .slice none 0 0] from ha.k2) 4
  have zf5 := Blk.frozen (show Blk _ _ _ #[.string ⟨#[]⟩, .int .i64 0, .int .i64 0, .int .i64 0, .int .i64 0, .int .i64 0, .int .i64 0, .int .i64 0, .bool false, .int .i64 0, .int .i64 0, .int .i64 0, .int .i64 0, .slice none 0 0] from ha.k2) 5
  have zf6 := Blk.frozen (show Blk _ _ _ #[.string ⟨#[]⟩, .int .i64 0, .int .i64 0, .int .i64 0, .int .i64 0, .int .i64 0, .int .i64 0, .int .i64 0, .bool false, .int .i64 0, .int .i64 0, .int .i64 0, .int .i64 0, .slice none 0 0] from ha.k2) 6
  have zf7 := Blk.frozen (show Blk _ _ _ #[.string ⟨#[]⟩, .int .i64 0, .int .i64 0, .int .i64 0, .int .i64 0, .int .i64 0, .int .i64 0, .int .i64 0, .bool false, .int .i64 0, .int .i64 0, .int .i64 0, .int .i64 0, .slice none 0 0] from ha.k2) 7
  have zf8 := Blk.frozen (show Blk _ _ _ #[.string ⟨#[]⟩, .int .i64 0, .int .i64 0, .int .i64 0, .int .i64 0, .int .i64 0, .int .i64 0, .int .i64 0, .bool false, .int .i64 0, .int .i64 0, .int .i64 0, .int .i64 0, .slice none 0 0] from ha.k2) 8
  have zf9 := Blk.frozen (show Blk _ _ _ #[.string ⟨#[]⟩, .int .i64 0, .int .i64 0, .int .i64 0, .int .i64 0, .int .i64 0, .int .i64 0, .int .i64 0, .bool false, .int .i64 0, .int .i64 0, .int .i64 0, .int .i64 0, .slice none 0 0] from ha.k2) 9
  have zf10 := Blk.frozen (show Blk _ _ _ #[.string ⟨#[]⟩, .int .i64 0, .int .i64 0, .int .i64 0, .int .i64 0, .int .i64 0, .int .i64 0, .int .i64 0, .bool false, .int .i64 0, .int .i64 0, .int .i64 0, .int .i64 0, .slice none 0 0] from ha.k2) 10
  have zf11 := Blk.frozen (show Blk _ _ _ #[.string ⟨#[]⟩, .int .i64 0, .int .i64 0, .int .i64 0, .int .i64 0, .int .i64 0, .int .i64 0, .int .i64 0, .bool false, .int .i64 0, .int .i64 0, .int .i64 0, .int .i64 0, .slice none 0 0] from ha.k2) 11
  have zf12 := Blk.frozen (show Blk _ _ _ #[.string ⟨#[]⟩, .int .i64 0, .int .i64 0, .int .i64 0, .int .i64 0, .int .i64 0, .int .i64 0, .int .i64 0, .bool false, .int .i64 0, .int .i64 0, .int .i64 0, .int .i64 0, .slice none 0 0] from ha.k2) 12
  have zf13 := Blk.frozen (show Blk _ _ _ #[.string ⟨#[]⟩, .int .i64 0, .int .i64 0, .int .i64 0, .int .i64 0, .int .i64 0, .int .i64 0, .int .i64 0, .bool false, .int .i64 0, .int .i64 0, .int .i64 0, .int .i64 0, .slice none 0 0] from ha.k2) 13
  obtain ⟨d0, d1, d2, df0, df1, df2⟩ := Blk.three (show Blk _ _ _ #[.int .i64 0, .int .i64 0, .int .i64 0] from ha.k3)
  obtain ⟨x0, x1, x2, _⟩ := Blk.three (Blk.new w9 41 #[.int .i64 dl, .int .i64 dc, .int .i64 dk])
  have hlt9 := H9.out.cur.lt
  have hg9 := H9.out.hg
  have ne1 : ¬ (w9.heap.size = w.heap.size + 1 + 1) := by omega
  have ne2 : ¬ (w.heap.size + 1 + 1 = w9.heap.size) := by omega
  have ne3 : ¬ (w9.heap.size = w.heap.size + 1 + 1 + 1) := by omega
  have ne4 : ¬ (w.heap.size + 1 + 1 + 1 = w9.heap.size) := by omega
  have ne5 : ¬ (w.heap.size + 1 + 1 = w.heap.size + 1 + 1 + 1) := by omega
  have ne6 : ¬ (w.heap.size + 1 + 1 + 1 = w.heap.size + 1 + 1) := by omega
  clear ha hlt9 hg9
  go_region
  all_goals go_wp2_with fail
  all_goals (first
    | (rw [zero_chain (H9.out.below (Below.alloc (Below.refl w9.heap.size w9) (Nat.le_refl _) _)).k2]; exact rread_a H9.out HCL.out rfl rfl rfl rfl)
    | (have hzb := rread_zb H9.out (.cells #[.int .i64 dl, .int .i64 dc, .int .i64 dk] 41) (.int .i64 dl) (.int .i64 dc) (.int .i64 dk); unfold put3 at hzb; rw [zero_chain hzb]; exact rread_b H9.out HCL.out rfl rfl rfl rfl))
set_option maxRecDepth 100000 in
set_option maxHeartbeats 4000000 in
theorem rread_8 (q : Rul) (pv : Value) (x : Lin) (v : Value) (w : World) (hx : Sl 3 elFld w (· < w.heap.size) v x.fields) (hl : OkLin x) (hp : ∃ A n c, pv = .slice A n c) :
    Calls Tryz.prog 31 #[rulV q pv, .int .i64 8, .agg #[.int .i64 x.num, v]] w (RReadPost w (readR q 8 (Cur.start x)) pv) := by
  obtain ⟨A, n, cp, rfl⟩ := hp
  obtain ⟨Ax, cx, rfl, hcx, hcx2⟩ := hx.shape
  have k0 := rr_start (q := q) (pv := .slice A n cp) x _ hx hl
  obtain ⟨c1, hc1⟩ : ∃ c1, ((Cur.start x).keyword kNEWBALL).1 = c1 := ⟨_, rfl⟩
  obtain ⟨⟨c', v⟩, hcv⟩ : ∃ y, y = c1.n := ⟨_, rfl⟩
  have he : readR q 8 (Cur.start x) = ({ q with newball := v }, c') := by
    have : readR q 8 (Cur.start x) = ({ q with newball := ((Cur.start x).keyword kNEWBALL).1.n.2 }, ((Cur.start x).keyword kNEWBALL).1.n.1) := rfl
    rw [this, hc1, ← hcv]
  rw [he]
  obtain ⟨q9, hq9⟩ : ∃ q9 : Rul, q9 = { q with newball := v } := ⟨_, rfl⟩
  rw [← hq9]
  obtain ⟨dl, dc, dk, b, hcl⟩ := close_shape c'.close
  have HCL := Lib.hid hcl
  have hset : (rulCells q (.slice A n cp)).setIfInBounds 9 (.int .i64 v) = rulCells q9 (.slice A n cp) := by rw [hq9]; rfl
  have HSET := Lib.hid hset
  have HC1 := Lib.hid hc1
  have HCV := Lib.hid hcv
  unfold rulV rulCells
  unfold rulCells zeroR at k0
  have K0 := Lib.hid k0
  have tok0 : True := trivial
  clear k0 hx hl hcx hcx2 hc1 hcv he hcl hset hq9
  go_enter Tryz.func31, Tryz.ntmps31
  go_wp2_with (first
    | (clear tok0; go_at_call 32; refine K0.out.mono ?_; rintro e w1 ⟨g, F, rfl, h1⟩; have H1 := Lib.hid h1; clear h1; have tok1 : True := trivial)
    | (clear tok1; go_at_call 30; refine (rr_words H1.out).mono ?_; rintro e w2 ⟨kk, rfl, h2, hw⟩; have yw := hw 8 (by decide); clear hw; have H2 := Lib.hid h2; clear h2; have tok2 : True := trivial)
    | (clear tok2; go_at_call 33; refine (rr_Keyword H2.out kNEWBALL HC1.out).mono ?_; rintro e w3 ⟨⟨bb, rfl⟩, h3⟩; clear yw; have H3 := Lib.hid h3; clear h3; have tok3 : True := trivial)
    | (clear tok3; go_at_call 34; refine (rr_number H3.out HCV.out).mono ?_; rintro e w4 ⟨rfl, h4⟩; obtain ⟨⟨u, y9⟩, yf9⟩ := h4.spot 9 (by decide); have H4 := Lib.hid (h4.set 9 _ HSET.out); clear h4; have tok4 : True := trivial)
    | (clear tok4; go_at_call 35; refine (rr_Close H4.out HCL.out).mono ?_; rintro e w9 ⟨rfl, h9⟩; clear u y9 yf9; have H9 := Lib.hid h9; clear h9; have tok9 : True := trivial))
  have ha := H9.out.below (Below.alloc (Below.refl w9.heap.size w9) (Nat.le_refl _) (.cells #[.int .i64 dl, .int .i64 dc, .int .i64 dk] 41))
  obtain ⟨y0, y1, y2, y3, y4, y5, y6, y7, y8, y9, y10, y11, y12, y13⟩ := Blk.fourteen (show Blk _ _ _ #[.string (S q9.name), .int .i64 q9.side, .int .i64 q9.inns, .int .i64 q9.overs, .int .i64 q9.balls, .int .i64 q9.quota, .int .i64 q9.wide, .int .i64 q9.noball, .bool q9.free, .int .i64 q9.newball, .int .i64 q9.follow, .int .i64 q9.reviews, .int .i64 q9.outside, .slice A n cp] from ha.kr)
  obtain ⟨z0, z1, z2, z3, z4, z5, z6, z7, z8, z9, z10, z11, z12, z13⟩ := Blk.fourteen (show Blk _ _ _ #[.string ⟨#[]⟩, .int .i64 0, .int .i64 0, .int .i64 0, .int .i64 0, .int .i64 0, .int .i64 0, .int .i64 0, .bool false, .int .i64 0, .int .i64 0, .int .i64 0, .int .i64 0, .slice none 0 0] from ha.k2)
  have zf0 := Blk.frozen (show Blk _ _ _ #[.string ⟨#[]⟩, .int .i64 0, .int .i64 0, .int .i64 0, .int .i64 0, .int .i64 0, .int .i64 0, .int .i64 0, .bool false, .int .i64 0, .int .i64 0, .int .i64 0, .int .i64 0, .slice none 0 0] from ha.k2) 0
  have zf1 := Blk.frozen (show Blk _ _ _ #[.string ⟨#[]⟩, .int .i64 0, .int .i64 0, .int .i64 0, .int .i64 0, .int .i64 0, .int .i64 0, .int .i64 0, .bool false, .int .i64 0, .int .i64 0, .int .i64 0, .int .i64 0, .slice none 0 0] from ha.k2) 1
  have zf2 := Blk.frozen (show Blk _ _ _ #[.string ⟨#[]⟩, .int .i64 0, .int .i64 0, .int .i64 0, .int .i64 0, .int .i64 0, .int .i64 0, .int .i64 0, .bool false, .int .i64 0, .int .i64 0, .int .i64 0, .int .i64 0, .slice none 0 0] from ha.k2) 2
  have zf3 := Blk.frozen (show Blk _ _ _ #[.string ⟨#[]⟩, .int .i64 0, .int .i64 0, .int .i64 0, .int .i64 0, .int .i64 0, .int .i64 0, .int .i64 0, .bool false, .int .i64 0, .int .i64 0, .int .i64 0, .int .i64 0, .slice none 0 0] from ha.k2) 3
  have zf4 := Blk.frozen (show Blk _ _ _ #[.string ⟨#[]⟩, .int .i64 0, .int .i64 0, .int .i64 0, .int .i64 0, .int .i64 0, .int .i64 0, .int .i64 0, .bool false, .int .i64 0, .int .i64 0, .int .i64 0, .int .i64 0, .slice none 0 0] from ha.k2) 4
  have zf5 := Blk.frozen (show Blk _ _ _ #[.string ⟨#[]⟩, .int .i64 0, .int .i64 0, .int .i64 0, .int .i64 0, .int .i64 0, .int .i64 0, .int .i64 0, .bool false, .int .i64 0, .int .i64 0, .int .i64 0, .int .i64 0, .slice none 0 0] from ha.k2) 5
  have zf6 := Blk.frozen (show Blk _ _ _ #[.string ⟨#[]⟩, .int .i64 0, .int .i64 0, .int .i64 0, .int .i64 0, .int .i64 0, .int .i64 0, .int .i64 0, .bool false, .int .i64 0, .int .i64 0, .int .i64 0, .int .i64 0, .slice none 0 0] from ha.k2) 6
  have zf7 := Blk.frozen (show Blk _ _ _ #[.string ⟨#[]⟩, .int .i64 0, .int .i64 0, .int .i64 0, .int .i64 0, .int .i64 0, .int .i64 0, .int .i64 0, .bool false, .int .i64 0, .int .i64 0, .int .i64 0, .int .i64 0, .slice none 0 0] from ha.k2) 7
  have zf8 := Blk.frozen (show Blk _ _ _ #[.string ⟨#[]⟩, .int .i64 0, .int .i64 0, .int .i64 0, .int .i64 0, .int .i64 0, .int .i64 0, .int .i64 0, .bool false, .int .i64 0, .int .i64 0, .int .i64 0, .int .i64 0, .slice none 0 0] from ha.k2) 8
  have zf9 := Blk.frozen (show Blk _ _ _ #[.string ⟨#[]⟩, .int .i64 0, .int .i64 0, .int .i64 0, .int .i64 0, .int .i64 0, .int .i64 0, .int .i64 0, .bool false, .int .i64 0, .int .i64 0, .int .i64 0, .int .i64 0, .slice none 0 0] from ha.k2) 9
  have zf10 := Blk.frozen (show Blk _ _ _ #[.string ⟨#[]⟩, .int .i64 0, .int .i64 0, .int .i64 0, .int .i64 0, .int .i64 0, .int .i64 0, .int .i64 0, .bool false, .int .i64 0, .int .i64 0, .int .i64 0, .int .i64 0, .slice none 0 0] from ha.k2) 10
  have zf11 := Blk.frozen (show Blk _ _ _ #[.string ⟨#[]⟩, .int .i64 0, .int .i64 0, .int .i64 0, .int .i64 0, .int .i64 0, .int .i64 0, .int .i64 0, .bool false, .int .i64 0, .int .i64 0, .int .i64 0, .int .i64 0, .slice none 0 0] from ha.k2) 11
  have zf12 := Blk.frozen (show Blk _ _ _ #[.string ⟨#[]⟩, .int .i64 0, .int .i64 0, .int .i64 0, .int .i64 0, .int .i64 0, .int .i64 0, .int .i64 0, .bool false, .int .i64 0, .int .i64 0, .int .i64 0, .int .i64 0, .slice none 0 0] from ha.k2) 12
  have zf13 := Blk.frozen (show Blk _ _ _ #[.string ⟨#[]⟩, .int .i64 0, .int .i64 0, .int .i64 0, .int .i64 0, .int .i64 0, .int .i64 0, .int .i64 0, .bool false, .int .i64 0, .int .i64 0, .int .i64 0, .int .i64 0, .slice none 0 0] from ha.k2) 13
  obtain ⟨d0, d1, d2, df0, df1, df2⟩ := Blk.three (show Blk _ _ _ #[.int .i64 0, .int .i64 0, .int .i64 0] from ha.k3)
  obtain ⟨x0, x1, x2, _⟩ := Blk.three (Blk.new w9 41 #[.int .i64 dl, .int .i64 dc, .int .i64 dk])
  have hlt9 := H9.out.cur.lt
  have hg9 := H9.out.hg
  have ne1 : ¬ (w9.heap.size = w.heap.size + 1 + 1) := by omega
  have ne2 : ¬ (w.heap.size + 1 + 1 = w9.heap.size) := by omega
  have ne3 : ¬ (w9.heap.size = w.heap.size + 1 + 1 + 1) := by omega
  have ne4 : ¬ (w.heap.size + 1 + 1 + 1 = w9.heap.size) := by omega
  have ne5 : ¬ (w.heap.size + 1 + 1 = w.heap.size + 1 + 1 + 1) := by omega
  have ne6 : ¬ (w.heap.size + 1 + 1 + 1 = w.heap.size + 1 + 1) := by omega
  clear ha hlt9 hg9
  go_region
  all_goals go_wp2_with fail
  all_goals (first
    | (rw [zero_chain (H9.out.below (Below.alloc (Below.refl w9.heap.size w9) (Nat.le_refl _) _)).k2]; exact rread_a H9.out HCL.out rfl rfl rfl rfl)
    | (have hzb := rread_zb H9.out (.cells #[.int .i64 dl, .int .i64 dc, .int .i64 dk] 41) (.int .i64 dl) (.int .i64 dc) (.int .i64 dk); unfold put3 at hzb; rw [zero_chain hzb]; exact rread_b H9.out HCL.out rfl rfl rfl rfl))
set_option maxRecDepth 100000 in
set_option maxHeartbeats 4000000 in
theorem rread_9 (q : Rul) (pv : Value) (x : Lin) (v : Value) (w : World) (hx : Sl 3 elFld w (· < w.heap.size) v x.fields) (hl : OkLin x) (hp : ∃ A n c, pv = .slice A n c) :
    Calls Tryz.prog 31 #[rulV q pv, .int .i64 9, .agg #[.int .i64 x.num, v]] w (RReadPost w (readR q 9 (Cur.start x)) pv) := by
  obtain ⟨A, n, cp, rfl⟩ := hp
  obtain ⟨Ax, cx, rfl, hcx, hcx2⟩ := hx.shape
  have k0 := rr_start (q := q) (pv := .slice A n cp) x _ hx hl
  obtain ⟨c1, hc1⟩ : ∃ c1, ((Cur.start x).keyword kFOLLOWON).1 = c1 := ⟨_, rfl⟩
  obtain ⟨⟨c', v⟩, hcv⟩ : ∃ y, y = c1.n := ⟨_, rfl⟩
  have he : readR q 9 (Cur.start x) = ({ q with follow := v }, c') := by
    have : readR q 9 (Cur.start x) = ({ q with follow := ((Cur.start x).keyword kFOLLOWON).1.n.2 }, ((Cur.start x).keyword kFOLLOWON).1.n.1) := rfl
    rw [this, hc1, ← hcv]
  rw [he]
  obtain ⟨q9, hq9⟩ : ∃ q9 : Rul, q9 = { q with follow := v } := ⟨_, rfl⟩
  rw [← hq9]
  obtain ⟨dl, dc, dk, b, hcl⟩ := close_shape c'.close
  have HCL := Lib.hid hcl
  have hset : (rulCells q (.slice A n cp)).setIfInBounds 10 (.int .i64 v) = rulCells q9 (.slice A n cp) := by rw [hq9]; rfl
  have HSET := Lib.hid hset
  have HC1 := Lib.hid hc1
  have HCV := Lib.hid hcv
  unfold rulV rulCells
  unfold rulCells zeroR at k0
  have K0 := Lib.hid k0
  have tok0 : True := trivial
  clear k0 hx hl hcx hcx2 hc1 hcv he hcl hset hq9
  go_enter Tryz.func31, Tryz.ntmps31
  go_wp2_with (first
    | (clear tok0; go_at_call 32; refine K0.out.mono ?_; rintro e w1 ⟨g, F, rfl, h1⟩; have H1 := Lib.hid h1; clear h1; have tok1 : True := trivial)
    | (clear tok1; go_at_call 30; refine (rr_words H1.out).mono ?_; rintro e w2 ⟨kk, rfl, h2, hw⟩; have yw := hw 9 (by decide); clear hw; have H2 := Lib.hid h2; clear h2; have tok2 : True := trivial)
    | (clear tok2; go_at_call 33; refine (rr_Keyword H2.out kFOLLOWON HC1.out).mono ?_; rintro e w3 ⟨⟨bb, rfl⟩, h3⟩; clear yw; have H3 := Lib.hid h3; clear h3; have tok3 : True := trivial)
    | (clear tok3; go_at_call 34; refine (rr_number H3.out HCV.out).mono ?_; rintro e w4 ⟨rfl, h4⟩; obtain ⟨⟨u, y10⟩, yf10⟩ := h4.spot 10 (by decide); have H4 := Lib.hid (h4.set 10 _ HSET.out); clear h4; have tok4 : True := trivial)
    | (clear tok4; go_at_call 35; refine (rr_Close H4.out HCL.out).mono ?_; rintro e w9 ⟨rfl, h9⟩; clear u y10 yf10; have H9 := Lib.hid h9; clear h9; have tok9 : True := trivial))
  have ha := H9.out.below (Below.alloc (Below.refl w9.heap.size w9) (Nat.le_refl _) (.cells #[.int .i64 dl, .int .i64 dc, .int .i64 dk] 41))
  obtain ⟨y0, y1, y2, y3, y4, y5, y6, y7, y8, y9, y10, y11, y12, y13⟩ := Blk.fourteen (show Blk _ _ _ #[.string (S q9.name), .int .i64 q9.side, .int .i64 q9.inns, .int .i64 q9.overs, .int .i64 q9.balls, .int .i64 q9.quota, .int .i64 q9.wide, .int .i64 q9.noball, .bool q9.free, .int .i64 q9.newball, .int .i64 q9.follow, .int .i64 q9.reviews, .int .i64 q9.outside, .slice A n cp] from ha.kr)
  obtain ⟨z0, z1, z2, z3, z4, z5, z6, z7, z8, z9, z10, z11, z12, z13⟩ := Blk.fourteen (show Blk _ _ _ #[.string ⟨#[]⟩, .int .i64 0, .int .i64 0, .int .i64 0, .int .i64 0, .int .i64 0, .int .i64 0, .int .i64 0, .bool false, .int .i64 0, .int .i64 0, .int .i64 0, .int .i64 0, .slice none 0 0] from ha.k2)
  have zf0 := Blk.frozen (show Blk _ _ _ #[.string ⟨#[]⟩, .int .i64 0, .int .i64 0, .int .i64 0, .int .i64 0, .int .i64 0, .int .i64 0, .int .i64 0, .bool false, .int .i64 0, .int .i64 0, .int .i64 0, .int .i64 0, .slice none 0 0] from ha.k2) 0
  have zf1 := Blk.frozen (show Blk _ _ _ #[.string ⟨#[]⟩, .int .i64 0, .int .i64 0, .int .i64 0, .int .i64 0, .int .i64 0, .int .i64 0, .int .i64 0, .bool false, .int .i64 0, .int .i64 0, .int .i64 0, .int .i64 0, .slice none 0 0] from ha.k2) 1
  have zf2 := Blk.frozen (show Blk _ _ _ #[.string ⟨#[]⟩, .int .i64 0, .int .i64 0, .int .i64 0, .int .i64 0, .int .i64 0, .int .i64 0, .int .i64 0, .bool false, .int .i64 0, .int .i64 0, .int .i64 0, .int .i64 0, .slice none 0 0] from ha.k2) 2
  have zf3 := Blk.frozen (show Blk _ _ _ #[.string ⟨#[]⟩, .int .i64 0, .int .i64 0, .int .i64 0, .int .i64 0, .int .i64 0, .int .i64 0, .int .i64 0, .bool false, .int .i64 0, .int .i64 0, .int .i64 0, .int .i64 0, .slice none 0 0] from ha.k2) 3
  have zf4 := Blk.frozen (show Blk _ _ _ #[.string ⟨#[]⟩, .int .i64 0, .int .i64 0, .int .i64 0, .int .i64 0, .int .i64 0, .int .i64 0, .int .i64 0, .bool false, .int .i64 0, .int .i64 0, .int .i64 0, .int .i64 0, .slice none 0 0] from ha.k2) 4
  have zf5 := Blk.frozen (show Blk _ _ _ #[.string ⟨#[]⟩, .int .i64 0, .int .i64 0, .int .i64 0, .int .i64 0, .int .i64 0, .int .i64 0, .int .i64 0, .bool false, .int .i64 0, .int .i64 0, .int .i64 0, .int .i64 0, .slice none 0 0] from ha.k2) 5
  have zf6 := Blk.frozen (show Blk _ _ _ #[.string ⟨#[]⟩, .int .i64 0, .int .i64 0, .int .i64 0, .int .i64 0, .int .i64 0, .int .i64 0, .int .i64 0, .bool false, .int .i64 0, .int .i64 0, .int .i64 0, .int .i64 0, .slice none 0 0] from ha.k2) 6
  have zf7 := Blk.frozen (show Blk _ _ _ #[.string ⟨#[]⟩, .int .i64 0, .int .i64 0, .int .i64 0, .int .i64 0, .int .i64 0, .int .i64 0, .int .i64 0, .bool false, .int .i64 0, .int .i64 0, .int .i64 0, .int .i64 0, .slice none 0 0] from ha.k2) 7
  have zf8 := Blk.frozen (show Blk _ _ _ #[.string ⟨#[]⟩, .int .i64 0, .int .i64 0, .int .i64 0, .int .i64 0, .int .i64 0, .int .i64 0, .int .i64 0, .bool false, .int .i64 0, .int .i64 0, .int .i64 0, .int .i64 0, .slice none 0 0] from ha.k2) 8
  have zf9 := Blk.frozen (show Blk _ _ _ #[.string ⟨#[]⟩, .int .i64 0, .int .i64 0, .int .i64 0, .int .i64 0, .int .i64 0, .int .i64 0, .int .i64 0, .bool false, .int .i64 0, .int .i64 0, .int .i64 0, .int .i64 0, .slice none 0 0] from ha.k2) 9
  have zf10 := Blk.frozen (show Blk _ _ _ #[.string ⟨#[]⟩, .int .i64 0, .int .i64 0, .int .i64 0, .int .i64 0, .int .i64 0, .int .i64 0, .int .i64 0, .bool false, .int .i64 0, .int .i64 0, .int .i64 0, .int .i64 0, .slice none 0 0] from ha.k2) 10
  have zf11 := Blk.frozen (show Blk _ _ _ #[.string ⟨#[]⟩, .int .i64 0, .int .i64 0, .int .i64 0, .int .i64 0, .int .i64 0, .int .i64 0, .int .i64 0, .bool false, .int .i64 0, .int .i64 0, .int .i64 0, .int .i64 0, .slice none 0 0] from ha.k2) 11
  have zf12 := Blk.frozen (show Blk _ _ _ #[.string ⟨#[]⟩, .int .i64 0, .int .i64 0, .int .i64 0, .int .i64 0, .int .i64 0, .int .i64 0, .int .i64 0, .bool false, .int .i64 0, .int .i64 0, .int .i64 0, .int .i64 0, .slice none 0 0] from ha.k2) 12
  have zf13 := Blk.frozen (show Blk _ _ _ #[.string ⟨#[]⟩, .int .i64 0, .int .i64 0, .int .i64 0, .int .i64 0, .int .i64 0, .int .i64 0, .int .i64 0, .bool false, .int .i64 0, .int .i64 0, .int .i64 0, .int .i64 0, .slice none 0 0] from ha.k2) 13
  obtain ⟨d0, d1, d2, df0, df1, df2⟩ := Blk.three (show Blk _ _ _ #[.int .i64 0, .int .i64 0, .int .i64 0] from ha.k3)
  obtain ⟨x0, x1, x2, _⟩ := Blk.three (Blk.new w9 41 #[.int .i64 dl, .int .i64 dc, .int .i64 dk])
  have hlt9 := H9.out.cur.lt
  have hg9 := H9.out.hg
  have ne1 : ¬ (w9.heap.size = w.heap.size + 1 + 1) := by omega
  have ne2 : ¬ (w.heap.size + 1 + 1 = w9.heap.size) := by omega
  have ne3 : ¬ (w9.heap.size = w.heap.size + 1 + 1 + 1) := by omega
  have ne4 : ¬ (w.heap.size + 1 + 1 + 1 = w9.heap.size) := by omega
  have ne5 : ¬ (w.heap.size + 1 + 1 = w.heap.size + 1 + 1 + 1) := by omega
  have ne6 : ¬ (w.heap.size + 1 + 1 + 1 = w.heap.size + 1 + 1) := by omega
  clear ha hlt9 hg9
  go_region
  all_goals go_wp2_with fail
  all_goals (first
    | (rw [zero_chain (H9.out.below (Below.alloc (Below.refl w9.heap.size w9) (Nat.le_refl _) _)).k2]; exact rread_a H9.out HCL.out rfl rfl rfl rfl)
    | (have hzb := rread_zb H9.out (.cells #[.int .i64 dl, .int .i64 dc, .int .i64 dk] 41) (.int .i64 dl) (.int .i64 dc) (.int .i64 dk); unfold put3 at hzb; rw [zero_chain hzb]; exact rread_b H9.out HCL.out rfl rfl rfl rfl))
set_option maxRecDepth 100000 in
set_option maxHeartbeats 4000000 in
theorem rread_10 (q : Rul) (pv : Value) (x : Lin) (v : Value) (w : World) (hx : Sl 3 elFld w (· < w.heap.size) v x.fields) (hl : OkLin x) (hp : ∃ A n c, pv = .slice A n c) :
    Calls Tryz.prog 31 #[rulV q pv, .int .i64 10, .agg #[.int .i64 x.num, v]] w (RReadPost w (readR q 10 (Cur.start x)) pv) := by
  obtain ⟨A, n, cp, rfl⟩ := hp
  obtain ⟨Ax, cx, rfl, hcx, hcx2⟩ := hx.shape
  have k0 := rr_start (q := q) (pv := .slice A n cp) x _ hx hl
  obtain ⟨c1, hc1⟩ : ∃ c1, ((Cur.start x).keyword kREVIEWS).1 = c1 := ⟨_, rfl⟩
  obtain ⟨⟨c', v⟩, hcv⟩ : ∃ y, y = c1.n := ⟨_, rfl⟩
  have he : readR q 10 (Cur.start x) = ({ q with reviews := v }, c') := by
    have : readR q 10 (Cur.start x) = ({ q with reviews := ((Cur.start x).keyword kREVIEWS).1.n.2 }, ((Cur.start x).keyword kREVIEWS).1.n.1) := rfl
    rw [this, hc1, ← hcv]
  rw [he]
  obtain ⟨q9, hq9⟩ : ∃ q9 : Rul, q9 = { q with reviews := v } := ⟨_, rfl⟩
  rw [← hq9]
  obtain ⟨dl, dc, dk, b, hcl⟩ := close_shape c'.close
  have HCL := Lib.hid hcl
  have hset : (rulCells q (.slice A n cp)).setIfInBounds 11 (.int .i64 v) = rulCells q9 (.slice A n cp) := by rw [hq9]; rfl
  have HSET := Lib.hid hset
  have HC1 := Lib.hid hc1
  have HCV := Lib.hid hcv
  unfold rulV rulCells
  unfold rulCells zeroR at k0
  have K0 := Lib.hid k0
  have tok0 : True := trivial
  clear k0 hx hl hcx hcx2 hc1 hcv he hcl hset hq9
  go_enter Tryz.func31, Tryz.ntmps31
  go_wp2_with (first
    | (clear tok0; go_at_call 32; refine K0.out.mono ?_; rintro e w1 ⟨g, F, rfl, h1⟩; have H1 := Lib.hid h1; clear h1; have tok1 : True := trivial)
    | (clear tok1; go_at_call 30; refine (rr_words H1.out).mono ?_; rintro e w2 ⟨kk, rfl, h2, hw⟩; have yw := hw 10 (by decide); clear hw; have H2 := Lib.hid h2; clear h2; have tok2 : True := trivial)
    | (clear tok2; go_at_call 33; refine (rr_Keyword H2.out kREVIEWS HC1.out).mono ?_; rintro e w3 ⟨⟨bb, rfl⟩, h3⟩; clear yw; have H3 := Lib.hid h3; clear h3; have tok3 : True := trivial)
    | (clear tok3; go_at_call 34; refine (rr_number H3.out HCV.out).mono ?_; rintro e w4 ⟨rfl, h4⟩; obtain ⟨⟨u, y11⟩, yf11⟩ := h4.spot 11 (by decide); have H4 := Lib.hid (h4.set 11 _ HSET.out); clear h4; have tok4 : True := trivial)
    | (clear tok4; go_at_call 35; refine (rr_Close H4.out HCL.out).mono ?_; rintro e w9 ⟨rfl, h9⟩; clear u y11 yf11; have H9 := Lib.hid h9; clear h9; have tok9 : True := trivial))
  have ha := H9.out.below (Below.alloc (Below.refl w9.heap.size w9) (Nat.le_refl _) (.cells #[.int .i64 dl, .int .i64 dc, .int .i64 dk] 41))
  obtain ⟨y0, y1, y2, y3, y4, y5, y6, y7, y8, y9, y10, y11, y12, y13⟩ := Blk.fourteen (show Blk _ _ _ #[.string (S q9.name), .int .i64 q9.side, .int .i64 q9.inns, .int .i64 q9.overs, .int .i64 q9.balls, .int .i64 q9.quota, .int .i64 q9.wide, .int .i64 q9.noball, .bool q9.free, .int .i64 q9.newball, .int .i64 q9.follow, .int .i64 q9.reviews, .int .i64 q9.outside, .slice A n cp] from ha.kr)
  obtain ⟨z0, z1, z2, z3, z4, z5, z6, z7, z8, z9, z10, z11, z12, z13⟩ := Blk.fourteen (show Blk _ _ _ #[.string ⟨#[]⟩, .int .i64 0, .int .i64 0, .int .i64 0, .int .i64 0, .int .i64 0, .int .i64 0, .int .i64 0, .bool false, .int .i64 0, .int .i64 0, .int .i64 0, .int .i64 0, .slice none 0 0] from ha.k2)
  have zf0 := Blk.frozen (show Blk _ _ _ #[.string ⟨#[]⟩, .int .i64 0, .int .i64 0, .int .i64 0, .int .i64 0, .int .i64 0, .int .i64 0, .int .i64 0, .bool false, .int .i64 0, .int .i64 0, .int .i64 0, .int .i64 0, .slice none 0 0] from ha.k2) 0
  have zf1 := Blk.frozen (show Blk _ _ _ #[.string ⟨#[]⟩, .int .i64 0, .int .i64 0, .int .i64 0, .int .i64 0, .int .i64 0, .int .i64 0, .int .i64 0, .bool false, .int .i64 0, .int .i64 0, .int .i64 0, .int .i64 0, .slice none 0 0] from ha.k2) 1
  have zf2 := Blk.frozen (show Blk _ _ _ #[.string ⟨#[]⟩, .int .i64 0, .int .i64 0, .int .i64 0, .int .i64 0, .int .i64 0, .int .i64 0, .int .i64 0, .bool false, .int .i64 0, .int .i64 0, .int .i64 0, .int .i64 0, .slice none 0 0] from ha.k2) 2
  have zf3 := Blk.frozen (show Blk _ _ _ #[.string ⟨#[]⟩, .int .i64 0, .int .i64 0, .int .i64 0, .int .i64 0, .int .i64 0, .int .i64 0, .int .i64 0, .bool false, .int .i64 0, .int .i64 0, .int .i64 0, .int .i64 0, .slice none 0 0] from ha.k2) 3
  have zf4 := Blk.frozen (show Blk _ _ _ #[.string ⟨#[]⟩, .int .i64 0, .int .i64 0, .int .i64 0, .int .i64 0, .int .i64 0, .int .i64 0, .int .i64 0, .bool false, .int .i64 0, .int .i64 0, .int .i64 0, .int .i64 0, .slice none 0 0] from ha.k2) 4
  have zf5 := Blk.frozen (show Blk _ _ _ #[.string ⟨#[]⟩, .int .i64 0, .int .i64 0, .int .i64 0, .int .i64 0, .int .i64 0, .int .i64 0, .int .i64 0, .bool false, .int .i64 0, .int .i64 0, .int .i64 0, .int .i64 0, .slice none 0 0] from ha.k2) 5
  have zf6 := Blk.frozen (show Blk _ _ _ #[.string ⟨#[]⟩, .int .i64 0, .int .i64 0, .int .i64 0, .int .i64 0, .int .i64 0, .int .i64 0, .int .i64 0, .bool false, .int .i64 0, .int .i64 0, .int .i64 0, .int .i64 0, .slice none 0 0] from ha.k2) 6
  have zf7 := Blk.frozen (show Blk _ _ _ #[.string ⟨#[]⟩, .int .i64 0, .int .i64 0, .int .i64 0, .int .i64 0, .int .i64 0, .int .i64 0, .int .i64 0, .bool false, .int .i64 0, .int .i64 0, .int .i64 0, .int .i64 0, .slice none 0 0] from ha.k2) 7
  have zf8 := Blk.frozen (show Blk _ _ _ #[.string ⟨#[]⟩, .int .i64 0, .int .i64 0, .int .i64 0, .int .i64 0, .int .i64 0, .int .i64 0, .int .i64 0, .bool false, .int .i64 0, .int .i64 0, .int .i64 0, .int .i64 0, .slice none 0 0] from ha.k2) 8
  have zf9 := Blk.frozen (show Blk _ _ _ #[.string ⟨#[]⟩, .int .i64 0, .int .i64 0, .int .i64 0, .int .i64 0, .int .i64 0, .int .i64 0, .int .i64 0, .bool false, .int .i64 0, .int .i64 0, .int .i64 0, .int .i64 0, .slice none 0 0] from ha.k2) 9
  have zf10 := Blk.frozen (show Blk _ _ _ #[.string ⟨#[]⟩, .int .i64 0, .int .i64 0, .int .i64 0, .int .i64 0, .int .i64 0, .int .i64 0, .int .i64 0, .bool false, .int .i64 0, .int .i64 0, .int .i64 0, .int .i64 0, .slice none 0 0] from ha.k2) 10
  have zf11 := Blk.frozen (show Blk _ _ _ #[.string ⟨#[]⟩, .int .i64 0, .int .i64 0, .int .i64 0, .int .i64 0, .int .i64 0, .int .i64 0, .int .i64 0, .bool false, .int .i64 0, .int .i64 0, .int .i64 0, .int .i64 0, .slice none 0 0] from ha.k2) 11
  have zf12 := Blk.frozen (show Blk _ _ _ #[.string ⟨#[]⟩, .int .i64 0, .int .i64 0, .int .i64 0, .int .i64 0, .int .i64 0, .int .i64 0, .int .i64 0, .bool false, .int .i64 0, .int .i64 0, .int .i64 0, .int .i64 0, .slice none 0 0] from ha.k2) 12
  have zf13 := Blk.frozen (show Blk _ _ _ #[.string ⟨#[]⟩, .int .i64 0, .int .i64 0, .int .i64 0, .int .i64 0, .int .i64 0, .int .i64 0, .int .i64 0, .bool false, .int .i64 0, .int .i64 0, .int .i64 0, .int .i64 0, .slice none 0 0] from ha.k2) 13
  obtain ⟨d0, d1, d2, df0, df1, df2⟩ := Blk.three (show Blk _ _ _ #[.int .i64 0, .int .i64 0, .int .i64 0] from ha.k3)
  obtain ⟨x0, x1, x2, _⟩ := Blk.three (Blk.new w9 41 #[.int .i64 dl, .int .i64 dc, .int .i64 dk])
  have hlt9 := H9.out.cur.lt
  have hg9 := H9.out.hg
  have ne1 : ¬ (w9.heap.size = w.heap.size + 1 + 1) := by omega
  have ne2 : ¬ (w.heap.size + 1 + 1 = w9.heap.size) := by omega
  have ne3 : ¬ (w9.heap.size = w.heap.size + 1 + 1 + 1) := by omega
  have ne4 : ¬ (w.heap.size + 1 + 1 + 1 = w9.heap.size) := by omega
  have ne5 : ¬ (w.heap.size + 1 + 1 = w.heap.size + 1 + 1 + 1) := by omega
  have ne6 : ¬ (w.heap.size + 1 + 1 + 1 = w.heap.size + 1 + 1) := by omega
  clear ha hlt9 hg9
  go_region
  all_goals go_wp2_with fail
  all_goals (first
    | (rw [zero_chain (H9.out.below (Below.alloc (Below.refl w9.heap.size w9) (Nat.le_refl _) _)).k2]; exact rread_a H9.out HCL.out rfl rfl rfl rfl)
    | (have hzb := rread_zb H9.out (.cells #[.int .i64 dl, .int .i64 dc, .int .i64 dk] 41) (.int .i64 dl) (.int .i64 dc) (.int .i64 dk); unfold put3 at hzb; rw [zero_chain hzb]; exact rread_b H9.out HCL.out rfl rfl rfl rfl))
set_option maxRecDepth 100000 in
set_option maxHeartbeats 4000000 in
theorem rread_11 (q : Rul) (pv : Value) (x : Lin) (v : Value) (w : World) (hx : Sl 3 elFld w (· < w.heap.size) v x.fields) (hl : OkLin x) (hp : ∃ A n c, pv = .slice A n c) :
    Calls Tryz.prog 31 #[rulV q pv, .int .i64 11, .agg #[.int .i64 x.num, v]] w (RReadPost w (readR q 11 (Cur.start x)) pv) := by
  obtain ⟨A, n, cp, rfl⟩ := hp
  obtain ⟨Ax, cx, rfl, hcx, hcx2⟩ := hx.shape
  have k0 := rr_start (q := q) (pv := .slice A n cp) x _ hx hl
  obtain ⟨c1, hc1⟩ : ∃ c1, ((Cur.start x).keyword kOUTSIDE).1 = c1 := ⟨_, rfl⟩
  obtain ⟨⟨c', v⟩, hcv⟩ : ∃ y, y = c1.n := ⟨_, rfl⟩
  have he : readR q 11 (Cur.start x) = ({ q with outside := v }, c') := by
    have : readR q 11 (Cur.start x) = ({ q with outside := ((Cur.start x).keyword kOUTSIDE).1.n.2 }, ((Cur.start x).keyword kOUTSIDE).1.n.1) := rfl
    rw [this, hc1, ← hcv]
  rw [he]
  obtain ⟨q9, hq9⟩ : ∃ q9 : Rul, q9 = { q with outside := v } := ⟨_, rfl⟩
  rw [← hq9]
  obtain ⟨dl, dc, dk, b, hcl⟩ := close_shape c'.close
  have HCL := Lib.hid hcl
  have hset : (rulCells q (.slice A n cp)).setIfInBounds 12 (.int .i64 v) = rulCells q9 (.slice A n cp) := by rw [hq9]; rfl
  have HSET := Lib.hid hset
  have HC1 := Lib.hid hc1
  have HCV := Lib.hid hcv
  unfold rulV rulCells
  unfold rulCells zeroR at k0
  have K0 := Lib.hid k0
  have tok0 : True := trivial
  clear k0 hx hl hcx hcx2 hc1 hcv he hcl hset hq9
  go_enter Tryz.func31, Tryz.ntmps31
  go_wp2_with (first
    | (clear tok0; go_at_call 32; refine K0.out.mono ?_; rintro e w1 ⟨g, F, rfl, h1⟩; have H1 := Lib.hid h1; clear h1; have tok1 : True := trivial)
    | (clear tok1; go_at_call 30; refine (rr_words H1.out).mono ?_; rintro e w2 ⟨kk, rfl, h2, hw⟩; have yw := hw 11 (by decide); clear hw; have H2 := Lib.hid h2; clear h2; have tok2 : True := trivial)
    | (clear tok2; go_at_call 33; refine (rr_Keyword H2.out kOUTSIDE HC1.out).mono ?_; rintro e w3 ⟨⟨bb, rfl⟩, h3⟩; clear yw; have H3 := Lib.hid h3; clear h3; have tok3 : True := trivial)
    | (clear tok3; go_at_call 34; refine (rr_number H3.out HCV.out).mono ?_; rintro e w4 ⟨rfl, h4⟩; obtain ⟨⟨u, y12⟩, yf12⟩ := h4.spot 12 (by decide); have H4 := Lib.hid (h4.set 12 _ HSET.out); clear h4; have tok4 : True := trivial)
    | (clear tok4; go_at_call 35; refine (rr_Close H4.out HCL.out).mono ?_; rintro e w9 ⟨rfl, h9⟩; clear u y12 yf12; have H9 := Lib.hid h9; clear h9; have tok9 : True := trivial))
  have ha := H9.out.below (Below.alloc (Below.refl w9.heap.size w9) (Nat.le_refl _) (.cells #[.int .i64 dl, .int .i64 dc, .int .i64 dk] 41))
  obtain ⟨y0, y1, y2, y3, y4, y5, y6, y7, y8, y9, y10, y11, y12, y13⟩ := Blk.fourteen (show Blk _ _ _ #[.string (S q9.name), .int .i64 q9.side, .int .i64 q9.inns, .int .i64 q9.overs, .int .i64 q9.balls, .int .i64 q9.quota, .int .i64 q9.wide, .int .i64 q9.noball, .bool q9.free, .int .i64 q9.newball, .int .i64 q9.follow, .int .i64 q9.reviews, .int .i64 q9.outside, .slice A n cp] from ha.kr)
  obtain ⟨z0, z1, z2, z3, z4, z5, z6, z7, z8, z9, z10, z11, z12, z13⟩ := Blk.fourteen (show Blk _ _ _ #[.string ⟨#[]⟩, .int .i64 0, .int .i64 0, .int .i64 0, .int .i64 0, .int .i64 0, .int .i64 0, .int .i64 0, .bool false, .int .i64 0, .int .i64 0, .int .i64 0, .int .i64 0, .slice none 0 0] from ha.k2)
  have zf0 := Blk.frozen (show Blk _ _ _ #[.string ⟨#[]⟩, .int .i64 0, .int .i64 0, .int .i64 0, .int .i64 0, .int .i64 0, .int .i64 0, .int .i64 0, .bool false, .int .i64 0, .int .i64 0, .int .i64 0, .int .i64 0, .slice none 0 0] from ha.k2) 0
  have zf1 := Blk.frozen (show Blk _ _ _ #[.string ⟨#[]⟩, .int .i64 0, .int .i64 0, .int .i64 0, .int .i64 0, .int .i64 0, .int .i64 0, .int .i64 0, .bool false, .int .i64 0, .int .i64 0, .int .i64 0, .int .i64 0, .slice none 0 0] from ha.k2) 1
  have zf2 := Blk.frozen (show Blk _ _ _ #[.string ⟨#[]⟩, .int .i64 0, .int .i64 0, .int .i64 0, .int .i64 0, .int .i64 0, .int .i64 0, .int .i64 0, .bool false, .int .i64 0, .int .i64 0, .int .i64 0, .int .i64 0, .slice none 0 0] from ha.k2) 2
  have zf3 := Blk.frozen (show Blk _ _ _ #[.string ⟨#[]⟩, .int .i64 0, .int .i64 0, .int .i64 0, .int .i64 0, .int .i64 0, .int .i64 0, .int .i64 0, .bool false, .int .i64 0, .int .i64 0, .int .i64 0, .int .i64 0, .slice none 0 0] from ha.k2) 3
  have zf4 := Blk.frozen (show Blk _ _ _ #[.string ⟨#[]⟩, .int .i64 0, .int .i64 0, .int .i64 0, .int .i64 0, .int .i64 0, .int .i64 0, .int .i64 0, .bool false, .int .i64 0, .int .i64 0, .int .i64 0, .int .i64 0, .slice none 0 0] from ha.k2) 4
  have zf5 := Blk.frozen (show Blk _ _ _ #[.string ⟨#[]⟩, .int .i64 0, .int .i64 0, .int .i64 0, .int .i64 0, .int .i64 0, .int .i64 0, .int .i64 0, .bool false, .int .i64 0, .int .i64 0, .int .i64 0, .int .i64 0, .slice none 0 0] from ha.k2) 5
  have zf6 := Blk.frozen (show Blk _ _ _ #[.string ⟨#[]⟩, .int .i64 0, .int .i64 0, .int .i64 0, .int .i64 0, .int .i64 0, .int .i64 0, .int .i64 0, .bool false, .int .i64 0, .int .i64 0, .int .i64 0, .int .i64 0, .slice none 0 0] from ha.k2) 6
  have zf7 := Blk.frozen (show Blk _ _ _ #[.string ⟨#[]⟩, .int .i64 0, .int .i64 0, .int .i64 0, .int .i64 0, .int .i64 0, .int .i64 0, .int .i64 0, .bool false, .int .i64 0, .int .i64 0, .int .i64 0, .int .i64 0, .slice none 0 0] from ha.k2) 7
  have zf8 := Blk.frozen (show Blk _ _ _ #[.string ⟨#[]⟩, .int .i64 0, .int .i64 0, .int .i64 0, .int .i64 0, .int .i64 0, .int .i64 0, .int .i64 0, .bool false, .int .i64 0, .int .i64 0, .int .i64 0, .int .i64 0, .slice none 0 0] from ha.k2) 8
  have zf9 := Blk.frozen (show Blk _ _ _ #[.string ⟨#[]⟩, .int .i64 0, .int .i64 0, .int .i64 0, .int .i64 0, .int .i64 0, .int .i64 0, .int .i64 0, .bool false, .int .i64 0, .int .i64 0, .int .i64 0, .int .i64 0, .slice none 0 0] from ha.k2) 9
  have zf10 := Blk.frozen (show Blk _ _ _ #[.string ⟨#[]⟩, .int .i64 0, .int .i64 0, .int .i64 0, .int .i64 0, .int .i64 0, .int .i64 0, .int .i64 0, .bool false, .int .i64 0, .int .i64 0, .int .i64 0, .int .i64 0, .slice none 0 0] from ha.k2) 10
  have zf11 := Blk.frozen (show Blk _ _ _ #[.string ⟨#[]⟩, .int .i64 0, .int .i64 0, .int .i64 0, .int .i64 0, .int .i64 0, .int .i64 0, .int .i64 0, .bool false, .int .i64 0, .int .i64 0, .int .i64 0, .int .i64 0, .slice none 0 0] from ha.k2) 11
  have zf12 := Blk.frozen (show Blk _ _ _ #[.string ⟨#[]⟩, .int .i64 0, .int .i64 0, .int .i64 0, .int .i64 0, .int .i64 0, .int .i64 0, .int .i64 0, .bool false, .int .i64 0, .int .i64 0, .int .i64 0, .int .i64 0, .slice none 0 0] from ha.k2) 12
  have zf13 := Blk.frozen (show Blk _ _ _ #[.string ⟨#[]⟩, .int .i64 0, .int .i64 0, .int .i64 0, .int .i64 0, .int .i64 0, .int .i64 0, .int .i64 0, .bool false, .int .i64 0, .int .i64 0, .int .i64 0, .int .i64 0, .slice none 0 0] from ha.k2) 13
  obtain ⟨d0, d1, d2, df0, df1, df2⟩ := Blk.three (show Blk _ _ _ #[.int .i64 0, .int .i64 0, .int .i64 0] from ha.k3)
  obtain ⟨x0, x1, x2, _⟩ := Blk.three (Blk.new w9 41 #[.int .i64 dl, .int .i64 dc, .int .i64 dk])
  have hlt9 := H9.out.cur.lt
  have hg9 := H9.out.hg
  have ne1 : ¬ (w9.heap.size = w.heap.size + 1 + 1) := by omega
  have ne2 : ¬ (w.heap.size + 1 + 1 = w9.heap.size) := by omega
  have ne3 : ¬ (w9.heap.size = w.heap.size + 1 + 1 + 1) := by omega
  have ne4 : ¬ (w.heap.size + 1 + 1 + 1 = w9.heap.size) := by omega
  have ne5 : ¬ (w.heap.size + 1 + 1 = w.heap.size + 1 + 1 + 1) := by omega
  have ne6 : ¬ (w.heap.size + 1 + 1 + 1 = w.heap.size + 1 + 1) := by omega
  clear ha hlt9 hg9
  go_region
  all_goals go_wp2_with fail
  all_goals (first
    | (rw [zero_chain (H9.out.below (Below.alloc (Below.refl w9.heap.size w9) (Nat.le_refl _) _)).k2]; exact rread_a H9.out HCL.out rfl rfl rfl rfl)
    | (have hzb := rread_zb H9.out (.cells #[.int .i64 dl, .int .i64 dc, .int .i64 dk] 41) (.int .i64 dl) (.int .i64 dc) (.int .i64 dk); unfold put3 at hzb; rw [zero_chain hzb]; exact rread_b H9.out HCL.out rfl rfl rfl rfl))
end Go.Proofs.YtglkejlimeakbaaGreatDoor

namespace Go.Proofs.YtglkejlimeakbaaGreatDoor
open Go.RowKit

/-! A region that draws its order, some of whose operations are not wanted. -/
structure FreeG (P : Program) (ops : Array Oper) (V : Tab) (G : World → Prop) (needs : Nat → List Nat) (init : List Nat) (N : Nat) : Prop where
  back : ∀ (i : Nat) (o : Oper), ops[i]? = some o → ∀ e ∈ o.after, e.on < i
  dst : ∀ (i : Nat) (o : Oper), ops[i]? = some o → ∃ d, o.dst = some d ∧ d < N
  need : ∀ (i : Nat) (o : Oper), ops[i]? = some o → ∀ d ∈ needs i, d ∈ init ∨ ∃ e ∈ o.after, Region.binds .any e = true ∧ ∃ p, ops[e.on]? = some p ∧ p.dst = some d
  sV : ∀ d w w' v, V d w v → Below w.heap.size w w' → V d w' v
  sG : ∀ w w', G w → Below w.heap.size w w' → G w'
  step : ∀ (i : Nat) (o : Oper), ops[i]? = some o → ∀ a w, G w → (∀ x ∈ needs i, Holds V a w x) → (Region.wanted o (yielded ops a.tmps) = true ∧ Meets P V o a w) ∨ (Region.wanted o (yielded ops a.tmps) = false ∧ ∀ d, o.dst = some d → V d w undef)
section
variable {P : Program} {ops : Array Oper} {V : Tab} {G : World → Prop} {needs : Nat → List Nat} {init : List Nat} {N : Nat} {Q : Exit → Act → World → Prop} {a0 : Act} {w0 : World}
end
/-- The operations of a region of a function's text. -/
def findR6 (n : Nat) : Code → Option (Array Oper)
  | .region id ops _ => if id = n then some ops else none
  | .seq a b => match findR6 n a with
    | some x => some x
    | none => findR6 n b
  | .cond _ a b => match findR6 n a with
    | some x => some x
    | none => findR6 n b
  | .block _ c => findR6 n c
  | .loop c => findR6 n c
  | .scope c => findR6 n c
  | _ => none
def needG (ops : Array Oper) (needs : List (List Nat)) (init : List Nat) : Bool := (List.range ops.size).all fun i => match ops[i]? with
  | some o => (needs.getD i []).all fun d => init.contains d || o.after.toList.any fun e => Region.binds .any e && (match ops[e.on]? with | some p => p.dst == some d | none => false)
  | none => true
theorem needG_of {ops : Array Oper} {needs : List (List Nat)} {init : List Nat} (h : needG ops needs init = true) : ∀ (i : Nat) (o : Oper), ops[i]? = some o → ∀ d ∈ needs.getD i [], d ∈ init ∨ ∃ e ∈ o.after, Region.binds .any e = true ∧ ∃ p, ops[e.on]? = some p ∧ p.dst = some d := by
  intro i o ho d hd
  have := List.all_eq_true.1 h i (List.mem_range.2 (Array.getElem?_eq_some_iff.1 ho).1)
  rw [ho] at this
  have := List.all_eq_true.1 this d hd
  rcases Bool.or_eq_true_iff.1 this with h1 | h1
  · exact .inl (by simpa using h1)
  · obtain ⟨e, he, h2⟩ := List.any_eq_true.1 h1
    rw [Bool.and_eq_true] at h2
    refine .inr ⟨e, Array.mem_toList_iff.1 he, h2.1, ?_⟩
    cases hp : ops[e.on]? with
    | none => rw [hp] at h2; cases h2.2
    | some p => rw [hp] at h2; exact ⟨p, rfl, by simpa using h2.2⟩
theorem opG_of {ops : Array Oper} {i : Nat} {o : Oper} {x : Op} {d : Option Tmp} (h : (ops[i]?).map (fun o => (o.op, o.dst)) = some (x, d)) (ho : ops[i]? = some o) : o.op = x ∧ o.dst = d := by
  rw [ho] at h
  simpa using h
theorem free_not {ops : Array Oper} {o : Oper} (h : o.guard = none) {t : Array Value} : Region.wanted o (yielded ops t) = true := by unfold Region.wanted; rw [h]
theorem guardG_of {ops : Array Oper} {i : Nat} {o : Oper} (h : (ops[i]?).map (·.guard) = some none) (ho : ops[i]? = some o) : o.guard = none := by
  rw [ho] at h
  simpa using h
/-- What a list of slots says. -/
def tabV (tab : List (Nat × Value)) : Tab := fun d _ v => v = (tab.lookup d).getD undef
theorem fg_tmp {tab : List (Nat × Value)} {a : Act} {w : World} {l : List Nat} (d : Nat) (v : Value) (hn : ∀ x ∈ l, Holds (tabV tab) a w x) (hd : l.contains d = true) (hv : (tab.lookup d).getD undef = v) : a.tmps[d]? = some v := by
  obtain ⟨u, h1, h2⟩ := hn d (by simpa using hd)
  have h2 : u = _ := h2
  rw [h1, h2, hv]
theorem fg_val {tab : List (Nat × Value)} {a : Act} {w : World} {l : List Nat} (d : Nat) (v : Value) (hn : ∀ x ∈ l, Holds (tabV tab) a w x) (hd : l.contains d = true) (hv : (tab.lookup d).getD undef = v) : a.eval (.tmp d) = v :=
  eval_tmp (fg_tmp d v hn hd hv)
theorem fg_put {tab : List (Nat × Value)} {w : World} {o : Oper} {d0 : Nat} {v : Value} (hd : o.dst = some d0) (hv : v = (tab.lookup d0).getD undef) : ∀ d, o.dst = some d → tabV tab d w v := by
  intro d h
  rw [hd] at h
  obtain rfl := Option.some.inj h
  exact hv
/-- The frame with some slots put anew. -/
def updM : List (Option Value) → List Value → List Value
  | none :: m, x :: l => x :: updM m l
  | some v :: m, _ :: l => v :: updM m l
  | _, _ => []
theorem updM_get : ∀ (m : List (Option Value)) (l : List Value) (i : Nat), m.length = l.length → (updM m l)[i]? = (l[i]?).map fun x => ((m[i]?).getD none).getD x
  | [], [], _, _ => by simp [updM]
  | none :: m, x :: l, 0, _ => by simp [updM]
  | some v :: m, x :: l, 0, _ => by simp [updM]
  | none :: m, x :: l, i + 1, h => by
    rw [updM, List.getElem?_cons_succ, List.getElem?_cons_succ, List.getElem?_cons_succ, updM_get m l i (by simpa using h)]
  | some v :: m, x :: l, i + 1, h => by
    rw [updM, List.getElem?_cons_succ, List.getElem?_cons_succ, List.getElem?_cons_succ, updM_get m l i (by simpa using h)]
  | [], _ :: _, _, h => by simp at h
  | _ :: _, [], _, h => by simp at h
def maskOf (tab : List (Nat × Value)) (dl : List Nat) : Nat → Nat → List (Option Value)
  | _, 0 => []
  | k, n + 1 => (bif dl.contains k then some ((tab.lookup k).getD undef) else none) :: maskOf tab dl (k + 1) n
theorem maskOf_len (tab : List (Nat × Value)) (dl : List Nat) : ∀ n k, (maskOf tab dl k n).length = n
  | 0, _ => rfl
  | n + 1, k => by rw [maskOf, List.length_cons, maskOf_len tab dl n]
theorem maskOf_get (tab : List (Nat × Value)) (dl : List Nat) : ∀ (n k i : Nat), i < n → (maskOf tab dl k n)[i]? = some (bif dl.contains (k + i) then some ((tab.lookup (k + i)).getD undef) else none)
  | 0, _, _, h => by omega
  | n + 1, k, 0, _ => by rw [maskOf]; simp
  | n + 1, k, i + 1, h => by rw [maskOf, List.getElem?_cons_succ, maskOf_get tab dl n (k + 1) i (by omega), show k + 1 + i = k + (i + 1) by omega]
def dstIn (ops : Array Oper) (dl : List Nat) : Bool := ops.toList.all (fun o => match o.dst with | some d => dl.contains d | none => true) && dl.all fun d => ops.toList.any fun o => o.dst == some d
end Go.Proofs.YtglkejlimeakbaaGreatDoor

namespace Go.Proofs.YtglkejlimeakbaaGreatDoor
open Go.RowKit

section
variable {P : Program} {ops : Array Oper} {Inv : Array Bool → Act → World → Prop} {Q : Exit → Act → World → Prop}
theorem all_listedB (hback : ∀ (i : Nat) (o : Oper), ops[i]? = some o → ∀ e ∈ o.after, Region.binds .any e = true → e.on < i) {listed : Array Bool} (hr : Region.ready .any ops listed = []) (hsz : listed.size = ops.size) : ∀ i, i < ops.size → listed.getD i false = true := by
  intro i
  induction i using Nat.strongRecOn with
  | ind i ih =>
    intro hi
    cases hl : listed.getD i false with
    | true => rfl
    | false =>
      exfalso
      have h2 : listed.getD i true = false := by
        have hlt : i < listed.size := by omega
        simp [hlt] at hl ⊢; exact hl
      have ho : ops[i]? = some ops[i] := Array.getElem?_eq_getElem hi
      have : i ∈ Region.ready .any ops listed := mem_ready.2 ⟨h2, _, ho, fun e he hb => ih e.on (hback i _ ho e he hb) (by have := hback i _ ho e he hb; omega)⟩
      rw [hr] at this
      cases this
theorem listed_full (hback : ∀ (i : Nat) (o : Oper), ops[i]? = some o → ∀ e ∈ o.after, Region.binds .any e = true → e.on < i) {listed : Array Bool} (hr : Region.ready .any ops listed = []) (hsz : listed.size = ops.size) : listed = Array.replicate ops.size true := by
  refine Array.ext_getElem? fun i => ?_
  rcases Nat.lt_or_ge i ops.size with h | h
  · have := all_listedB hback hr hsz i h
    have hlt : i < listed.size := by omega
    simp [hlt] at this
    simp [h, hlt, this]
  · rw [Array.getElem?_eq_none (by omega), Array.getElem?_eq_none (by simpa using h)]
theorem wpAny_inv (hback : ∀ (i : Nat) (o : Oper), ops[i]? = some o → ∀ e ∈ o.after, Region.binds .any e = true → e.on < i)
    (step : ∀ (listed : Array Bool) (i : Nat) (o : Oper) (a : Act) (w : World), Inv listed a w → ops[i]? = some o → listed[i]? = some false → (∀ e ∈ o.after, Region.binds .any e = true → listed.getD e.on false = true) →
      Region.wanted o (yielded ops a.tmps) = true ∧ ∀ K Q', (∀ a' w', Inv (listed.setIfInBounds i true) a' w' → K a' w') → o.wp P a w K Q')
    (fin : ∀ a w, Inv (Array.replicate ops.size true) a w → Q .normal a w) :
    ∀ (fuel : Nat) (listed : Array Bool) (a : Act) (w : World), listed.size = ops.size → listed.toList.count false ≤ fuel → Inv listed a w → wpAny P .any ops Q fuel listed a w := by
  intro fuel
  induction fuel with
  | zero =>
    intro listed a w hsz hc h
    have hr : Region.ready .any ops listed = [] := by
      cases hr : Region.ready .any ops listed with
      | nil => rfl
      | cons j t =>
        exfalso
        have hj : j ∈ Region.ready .any ops listed := by rw [hr]; simp
        obtain ⟨h1, o, ho, _⟩ := mem_ready.1 hj
        have hlt : j < listed.size := by have := (Array.getElem?_eq_some_iff.1 ho).1; omega
        have h2 : listed[j]? = some false := by
          rw [Array.getElem?_eq_getElem hlt]; simp [hlt] at h1; rw [h1]
        have : false ∈ listed.toList := Array.mem_toList_iff.2 (Array.mem_of_getElem? h2)
        have := List.count_pos_iff.2 this
        omega
    exact ⟨hr, fin a w (by rw [← listed_full hback hr hsz]; exact h)⟩
  | succ fuel ih =>
    intro listed a w hsz hc h
    refine ⟨fun hr => fin a w (by rw [← listed_full hback hr hsz]; exact h), fun i hi => ?_⟩
    obtain ⟨h1, o, ho, hall⟩ := mem_ready.1 hi
    have hlt : i < listed.size := by have := (Array.getElem?_eq_some_iff.1 ho).1; omega
    have h2 : listed[i]? = some false := by
      rw [Array.getElem?_eq_getElem hlt]; simp [hlt] at h1; rw [h1]
    have hcnt := count_set listed.toList i (by rw [Array.getElem?_toList]; exact h2)
    obtain ⟨hw, hs⟩ := step listed i o a w h ho h2 hall
    unfold wpOp
    rw [ho]
    dsimp only
    rw [hw, if_pos rfl]
    exact .inl (hs _ _ fun a' w' h' => ih _ _ _ (by simpa using hsz) (by rw [Array.toList_setIfInBounds]; omega) h')
theorem wp_region_inv {ops' : Array Oper} {id : Nat} {a0 : Act} {w0 : World} (he : ops = ops') (hm : P.follows .mixedOrders = true) (hback : ∀ (i : Nat) (o : Oper), ops'[i]? = some o → ∀ e ∈ o.after, Region.binds .any e = true → e.on < i)
    (h0 : Inv (Array.replicate ops'.size false) a0 w0.drew)
    (step : ∀ (listed : Array Bool) (i : Nat) (o : Oper) (a : Act) (w : World), Inv listed a w → ops'[i]? = some o → listed[i]? = some false → (∀ e ∈ o.after, Region.binds .any e = true → listed.getD e.on false = true) →
      Region.wanted o (yielded ops' a.tmps) = true ∧ ∀ K Q', (∀ a' w', Inv (listed.setIfInBounds i true) a' w' → K a' w') → o.wp P a w K Q')
    (fin : ∀ a w, Inv (Array.replicate ops'.size true) a w → Q .normal a w) : (Code.region id ops true).wp P Q a0 w0 := by
  subst he
  exact wp_region_any hm (wpAny_inv hback step fin _ _ _ _ (by simp) (by simp) h0)
end
def backV (ops : Array Oper) : Bool := (List.range ops.size).all fun i => match ops[i]? with
  | some o => o.after.toList.all fun e => !Region.binds .any e || decide (e.on < i)
  | none => true
theorem backV_of {ops : Array Oper} (h : backV ops = true) : ∀ (i : Nat) (o : Oper), ops[i]? = some o → ∀ e ∈ o.after, Region.binds .any e = true → e.on < i := by
  intro i o ho e he hb
  have := List.all_eq_true.1 h i (List.mem_range.2 (Array.getElem?_eq_some_iff.1 ho).1)
  rw [ho] at this
  have h2 := List.all_eq_true.1 this e (Array.mem_toList_iff.2 he)
  rw [hb] at h2
  simpa using h2
/-- An allocation as an operation. -/
theorem wp_alloc {P : Program} {o : Oper} {a : Act} {w : World} {t : TypeId} {cells : Array Value} {K : Act → World → Prop} {Q : Exit → Act → World → Prop} (ho : o.op = .alloc t)
    (hr : (Instr.alloc t true (.tuple #[])).run P w = .ok (.pointer (some ⟨w.heap.size, 0, none⟩)) (w.alloc (.cells cells t))) (h : K (a.put o.dst (.pointer (some ⟨w.heap.size, 0, none⟩))) (w.alloc (.cells cells t))) : o.wp P a w K Q := by
  unfold Oper.wp execOp
  simp only [ho, Sem.run_bind, hr, Result.andThen_ok, Sem.run_pure]
  exact h
/-- A store as an operation. -/
theorem wp_store {P : Program} {o : Oper} {a : Act} {w w' : World} {t : TypeId} {x y : Operand} {K : Act → World → Prop} {Q : Exit → Act → World → Prop} {u : Unit} (ho : o.op = .store t x y) (hd : o.dst = none)
    (hr : (Instr.storeAt t (a.eval x) (a.eval y)).run P w = .ok u w') (h : K a w') : o.wp P a w K Q := by
  unfold Oper.wp execOp
  simp only [ho, Sem.run_bind, hr, Result.andThen_ok, Sem.run_pure]
  first
    | exact h
    | (show K (a.put o.dst _) w'; rw [hd]; exact h)
    | (simp only [Oper.upon, hd]; exact h)
end Go.Proofs.YtglkejlimeakbaaGreatDoor

namespace Go.Proofs.YtglkejlimeakbaaGreatDoor
open Go.RowKit

/-- What stands in the slots while such a region runs; the slots of sp are left out. -/
structure RI (ops : Array Oper) (tab : List (Nat × Value)) (sp : List Nat) (l0 : List Value) (wr : World) (listed : Array Bool) (a : Act) (w : World) : Prop where
  size : a.tmps.size = l0.length
  dfr : a.defers = []
  bel : Below wr.heap.size wr w
  done : ∀ (i : Nat) (o : Oper) (d : Nat), ops[i]? = some o → listed.getD i false = true → o.dst = some d → sp.contains d = false → a.tmps[d]? = some ((tab.lookup d).getD undef)
  keep : ∀ k, (∀ (i : Nat) (o : Oper), ops[i]? = some o → o.dst ≠ some k) → a.tmps[k]? = l0[k]?
section
variable {ops : Array Oper} {tab : List (Nat × Value)} {sp : List Nat} {l0 : List Value} {wr : World} {listed : Array Bool} {a : Act} {w w' : World}
theorem getD_same {i j : Nat} (h : i ≠ j) : (listed.setIfInBounds i true).getD j false = listed.getD j false := getD_set_ne false h
theorem getD_set_at {i : Nat} (h : i < listed.size) : (listed.setIfInBounds i true).getD i false = true := by simp [h]
theorem RI.start (l0 : List Value) (wr : World) : RI ops tab sp l0 wr (Array.replicate ops.size false) ⟨l0.toArray, []⟩ wr.drew :=
  ⟨by simp, rfl, Below.drew (Below.refl _ _), fun i o d ho hl => by
    have hlt := (Array.getElem?_eq_some_iff.1 ho).1
    simp [hlt] at hl, fun k _ => by simp⟩
theorem RI.put {i : Nat} {o : Oper} {d : Nat} {v : Value} (h : RI ops tab sp l0 wr listed a w) (ho : ops[i]? = some o) (hd : o.dst = some d) (hN : d < l0.length) (hb : Below wr.heap.size wr w') (hv : sp.contains d = false → v = (tab.lookup d).getD undef) :
    RI ops tab sp l0 wr (listed.setIfInBounds i true) (a.put o.dst v) w' := by
  rw [hd]
  refine ⟨by unfold Act.put; simpa using h.size, h.dfr, hb, fun j p x hj hl hx hs => ?_, fun k hk => ?_⟩
  · rw [put_get]
    by_cases hdx : d = x
    · subst hdx
      rw [if_pos ⟨rfl, by rw [h.size]; exact hN⟩, hv hs]
    · rw [if_neg (fun e => hdx e.1)]
      by_cases hji : j = i
      · subst hji
        rw [ho] at hj; obtain rfl := Option.some.inj hj
        exact absurd (Option.some.inj (hd.symm.trans hx)) hdx
      · exact h.done j p x hj (by rw [getD_same (Ne.symm hji)] at hl; exact hl) hx hs
  · rw [put_get, if_neg (fun e => hk i o ho (by rw [hd, e.1]))]
    exact h.keep k hk
theorem RI.store {i : Nat} {o : Oper} (h : RI ops tab sp l0 wr listed a w) (ho : ops[i]? = some o) (hd : o.dst = none) (hb : Below wr.heap.size wr w') : RI ops tab sp l0 wr (listed.setIfInBounds i true) a w' := by
  refine ⟨h.size, h.dfr, hb, fun j p x hj hl hx hs => ?_, h.keep⟩
  by_cases hji : j = i
  · subst hji
    rw [ho] at hj; obtain rfl := Option.some.inj hj
    rw [hd] at hx; cases hx
  · exact h.done j p x hj (by rw [getD_same (Ne.symm hji)] at hl; exact hl) hx hs
/-- What an operation needs lies in its slots. -/
theorem RI.needs {needs : List (List Nat)} {init : List Nat} {i : Nat} {o : Oper} (h : RI ops tab sp l0 wr listed a w) (hn : needG ops needs init = true) (ho : ops[i]? = some o) (hall : ∀ e ∈ o.after, Region.binds .any e = true → listed.getD e.on false = true)
    (hi : ∀ d ∈ init, l0[d]? = some ((tab.lookup d).getD undef) ∧ ∀ (i : Nat) (o : Oper), ops[i]? = some o → o.dst ≠ some d) : ∀ x ∈ needs.getD i [], sp.contains x = false → Holds (tabV tab) a w x := by
  intro x hx hs
  rcases needG_of hn i o ho x hx with hx | ⟨e, he, hbi, p, hp, hpd⟩
  · exact ⟨_, by rw [h.keep x (hi x hx).2]; exact (hi x hx).1, rfl⟩
  · exact ⟨_, h.done e.on p x hp (hall e he hbi) hpd hs, rfl⟩
end
def notDst (ops : Array Oper) (k : Nat) : Bool := ops.toList.all fun o => !(o.dst == some k)
theorem notDst_of {ops : Array Oper} {k : Nat} (h : notDst ops k = true) : ∀ (i : Nat) (o : Oper), ops[i]? = some o → o.dst ≠ some k := by
  intro i o ho e
  have := List.all_eq_true.1 h o (Array.mem_toList_iff.2 (Array.mem_of_getElem? ho))
  rw [e] at this
  simp at this
/-- What an operation waits for. -/
def waitsB (ops : Array Oper) (i j : Nat) : Bool := match ops[i]? with
  | some o => o.after.toList.any fun e => Region.binds .any e && decide (e.on = j)
  | none => true
theorem waitsB_of {ops : Array Oper} {i j : Nat} {o : Oper} {listed : Array Bool} (h : waitsB ops i j = true) (ho : ops[i]? = some o) (hall : ∀ e ∈ o.after, Region.binds .any e = true → listed.getD e.on false = true) : listed.getD j false = true := by
  unfold waitsB at h
  rw [ho] at h
  obtain ⟨e, he, h2⟩ := List.any_eq_true.1 h
  rw [Bool.and_eq_true, decide_eq_true_eq] at h2
  rw [← h2.2]
  exact hall e (Array.mem_toList_iff.1 he) h2.1
theorem load_rulZ {w : World} {g : Nat} {x0 x1 x2 x3 x4 x5 x6 x7 x8 x9 x10 x11 x12 x13 : Value} (h : Blk w g 25 #[x0, x1, x2, x3, x4, x5, x6, x7, x8, x9, x10, x11, x12, x13]) : (Instr.loadAt 25 (.pointer (some ⟨g, 0, none⟩))).run Tryz.prog w = .ok (.agg #[x0, x1, x2, x3, x4, x5, x6, x7, x8, x9, x10, x11, x12, x13]) w := by
  have c0 := h.cell 0
  have c1 := h.cell 1
  have c2 := h.cell 2
  have c3 := h.cell 3
  have c4 := h.cell 4
  have c5 := h.cell 5
  have c6 := h.cell 6
  have c7 := h.cell 7
  have c8 := h.cell 8
  have c9 := h.cell 9
  have c10 := h.cell 10
  have c11 := h.cell 11
  have c12 := h.cell 12
  have c13 := h.cell 13
  simp only [List.getElem?_toArray, List.getElem?_cons_zero, List.getElem?_cons_succ] at c0 c1 c2 c3 c4 c5 c6 c7 c8 c9 c10 c11 c12 c13
  simp [go_sem, c0, c1, c2, c3, c4, c5, c6, c7, c8, c9, c10, c11, c12, c13]
theorem load_linZ {w : World} {b o : Nat} {x y : Value} (h0 : w.cell? ⟨b, o, none⟩ = some x) (h1 : w.cell? ⟨b, o + 1, none⟩ = some y) : (Instr.loadAt 56 (.pointer (some ⟨b, o, none⟩))).run Tryz.prog w = .ok (.agg #[x, y]) w := by
  simp [go_sem, h0, h1]
theorem alloc_rul (w : World) : (Instr.alloc 25 true (.tuple #[])).run Tryz.prog w = .ok (.pointer (some ⟨w.heap.size, 0, none⟩)) (w.alloc (.cells #[.string ⟨#[]⟩, .int .i64 0, .int .i64 0, .int .i64 0, .int .i64 0, .int .i64 0, .int .i64 0, .int .i64 0, .bool false, .int .i64 0, .int .i64 0, .int .i64 0, .int .i64 0, .slice none 0 0] 25)) := by
  simp [go_sem]
theorem alloc_dia (w : World) : (Instr.alloc 41 true (.tuple #[])).run Tryz.prog w = .ok (.pointer (some ⟨w.heap.size, 0, none⟩)) (w.alloc (.cells #[.int .i64 0, .int .i64 0, .int .i64 0] 41)) := by
  simp [go_sem]
theorem store_dia {w : World} {g : Nat} {y0 y1 y2 x0 x1 x2 : Value} (h : Blk w g 41 #[y0, y1, y2]) (hx : ∃ a b c, x0 = .int .i64 a ∧ x1 = .int .i64 b ∧ x2 = .int .i64 c) : ∃ w', (Instr.storeAt 41 (.pointer (some ⟨g, 0, none⟩)) (.agg #[x0, x1, x2])).run Tryz.prog w = .ok () w' ∧ Blk w' g 41 #[x0, x1, x2] ∧ Only g w w' := by
  obtain ⟨a, b, c, rfl, rfl, rfl⟩ := hx
  have c0 := h.cell 0
  have c1 := h.cell 1
  have c2 := h.cell 2
  have f0 := h.frozen 0
  have f1 := h.frozen 1
  have f2 := h.frozen 2
  simp only [List.getElem?_toArray, List.getElem?_cons_zero, List.getElem?_cons_succ] at c0 c1 c2
  refine ⟨((w.setCell ⟨g, 0, none⟩ (.int .i64 a)).setCell ⟨g, 1, none⟩ (.int .i64 b)).setCell ⟨g, 2, none⟩ (.int .i64 c), ?_, ((h.set_ 0 _).set_ 1 _).set_ 2 _, (((Only.refl g w).setCell (p := ⟨g, 0, none⟩) (.inl rfl) _).setCell (p := ⟨g, 1, none⟩) (.inl rfl) _).setCell (p := ⟨g, 2, none⟩) (.inl rfl) _⟩
  simp [go_sem, c0, c1, c2, f0, f1, f2]
set_option maxHeartbeats 2000000 in
theorem store_rul {w : World} {g : Nat} {q' : Rul} (h : Blk w g 25 #[.string ⟨#[]⟩, .int .i64 0, .int .i64 0, .int .i64 0, .int .i64 0, .int .i64 0, .int .i64 0, .int .i64 0, .bool false, .int .i64 0, .int .i64 0, .int .i64 0, .int .i64 0, .slice none 0 0]) : ∃ w', (Instr.storeAt 25 (.pointer (some ⟨g, 0, none⟩)) (.agg #[.string (S q'.name), .int .i64 q'.side, .int .i64 q'.inns, .int .i64 q'.overs, .int .i64 q'.balls, .int .i64 q'.quota, .int .i64 q'.wide, .int .i64 q'.noball, .bool q'.free, .int .i64 q'.newball, .int .i64 q'.follow, .int .i64 q'.reviews, .int .i64 q'.outside, .slice none 0 0])).run Tryz.prog w = .ok () w' ∧ Blk w' g 25 #[.string (S q'.name), .int .i64 q'.side, .int .i64 q'.inns, .int .i64 q'.overs, .int .i64 q'.balls, .int .i64 q'.quota, .int .i64 q'.wide, .int .i64 q'.noball, .bool q'.free, .int .i64 q'.newball, .int .i64 q'.follow, .int .i64 q'.reviews, .int .i64 q'.outside, .slice none 0 0] ∧ Only g w w' := by
  have c0 := h.cell 0
  have c1 := h.cell 1
  have c2 := h.cell 2
  have c3 := h.cell 3
  have c4 := h.cell 4
  have c5 := h.cell 5
  have c6 := h.cell 6
  have c7 := h.cell 7
  have c8 := h.cell 8
  have c9 := h.cell 9
  have c10 := h.cell 10
  have c11 := h.cell 11
  have c12 := h.cell 12
  have c13 := h.cell 13
  have f0 := h.frozen 0
  have f1 := h.frozen 1
  have f2 := h.frozen 2
  have f3 := h.frozen 3
  have f4 := h.frozen 4
  have f5 := h.frozen 5
  have f6 := h.frozen 6
  have f7 := h.frozen 7
  have f8 := h.frozen 8
  have f9 := h.frozen 9
  have f10 := h.frozen 10
  have f11 := h.frozen 11
  have f12 := h.frozen 12
  have f13 := h.frozen 13
  simp only [List.getElem?_toArray, List.getElem?_cons_zero, List.getElem?_cons_succ] at c0 c1 c2 c3 c4 c5 c6 c7 c8 c9 c10 c11 c12 c13
  have hb := ((((((((((((((h.set_ 0 (.string (S q'.name))).set_ 1 (.int .i64 q'.side)).set_ 2 (.int .i64 q'.inns)).set_ 3 (.int .i64 q'.overs)).set_ 4 (.int .i64 q'.balls)).set_ 5 (.int .i64 q'.quota)).set_ 6 (.int .i64 q'.wide)).set_ 7 (.int .i64 q'.noball)).set_ 8 (.bool q'.free)).set_ 9 (.int .i64 q'.newball)).set_ 10 (.int .i64 q'.follow)).set_ 11 (.int .i64 q'.reviews)).set_ 12 (.int .i64 q'.outside)).set_ 13 (.slice none 0 0))
  have hb2 : Blk (((((((((((((((w.setCell ⟨g, 0, none⟩ (.string (S q'.name))).setCell ⟨g, 1, none⟩ (.int .i64 q'.side)).setCell ⟨g, 2, none⟩ (.int .i64 q'.inns)).setCell ⟨g, 3, none⟩ (.int .i64 q'.overs)).setCell ⟨g, 4, none⟩ (.int .i64 q'.balls)).setCell ⟨g, 5, none⟩ (.int .i64 q'.quota)).setCell ⟨g, 6, none⟩ (.int .i64 q'.wide)).setCell ⟨g, 7, none⟩ (.int .i64 q'.noball)).setCell ⟨g, 8, none⟩ (.bool q'.free)).setCell ⟨g, 9, none⟩ (.int .i64 q'.newball)).setCell ⟨g, 10, none⟩ (.int .i64 q'.follow)).setCell ⟨g, 11, none⟩ (.int .i64 q'.reviews)).setCell ⟨g, 12, none⟩ (.int .i64 q'.outside)).setCell ⟨g, 13, none⟩ (.slice none 0 0))) g 25 #[.string (S q'.name), .int .i64 q'.side, .int .i64 q'.inns, .int .i64 q'.overs, .int .i64 q'.balls, .int .i64 q'.quota, .int .i64 q'.wide, .int .i64 q'.noball, .bool q'.free, .int .i64 q'.newball, .int .i64 q'.follow, .int .i64 q'.reviews, .int .i64 q'.outside, .slice none 0 0] := Eq.mp (congrArg (Blk _ g 25) (by kernel_rfl)) hb
  refine ⟨((((((((((((((w.setCell ⟨g, 0, none⟩ (.string (S q'.name))).setCell ⟨g, 1, none⟩ (.int .i64 q'.side)).setCell ⟨g, 2, none⟩ (.int .i64 q'.inns)).setCell ⟨g, 3, none⟩ (.int .i64 q'.overs)).setCell ⟨g, 4, none⟩ (.int .i64 q'.balls)).setCell ⟨g, 5, none⟩ (.int .i64 q'.quota)).setCell ⟨g, 6, none⟩ (.int .i64 q'.wide)).setCell ⟨g, 7, none⟩ (.int .i64 q'.noball)).setCell ⟨g, 8, none⟩ (.bool q'.free)).setCell ⟨g, 9, none⟩ (.int .i64 q'.newball)).setCell ⟨g, 10, none⟩ (.int .i64 q'.follow)).setCell ⟨g, 11, none⟩ (.int .i64 q'.reviews)).setCell ⟨g, 12, none⟩ (.int .i64 q'.outside)).setCell ⟨g, 13, none⟩ (.slice none 0 0)), ?_, hb2, (((((((((((((((Only.refl g w).setCell (p := ⟨g, 0, none⟩) (.inl rfl) _).setCell (p := ⟨g, 1, none⟩) (.inl rfl) _).setCell (p := ⟨g, 2, none⟩) (.inl rfl) _).setCell (p := ⟨g, 3, none⟩) (.inl rfl) _).setCell (p := ⟨g, 4, none⟩) (.inl rfl) _).setCell (p := ⟨g, 5, none⟩) (.inl rfl) _).setCell (p := ⟨g, 6, none⟩) (.inl rfl) _).setCell (p := ⟨g, 7, none⟩) (.inl rfl) _).setCell (p := ⟨g, 8, none⟩) (.inl rfl) _).setCell (p := ⟨g, 9, none⟩) (.inl rfl) _).setCell (p := ⟨g, 10, none⟩) (.inl rfl) _).setCell (p := ⟨g, 11, none⟩) (.inl rfl) _).setCell (p := ⟨g, 12, none⟩) (.inl rfl) _).setCell (p := ⟨g, 13, none⟩) (.inl rfl) _)⟩
  clear hb hb2
  simp [go_sem, c0, c1, c2, c3, c4, c5, c6, c7, c8, c9, c10, c11, c12, c13, f0, f1, f2, f3, f4, f5, f6, f7, f8, f9, f10, f11, f12, f13]
noncomputable def q13Ops : Array Oper := ((Tryz.f8.body).bind (findR6 13)).getD #[]
def q13Needs : List (List Nat) := [[6], [7], [4], [7], [54, 55], [56], [52, 53, 57], [58], [51], [51], [51], [], [], [9, 59], [10, 60], [61]]
theorem q13_size : q13Ops.size = 16 := by kernel_rfl
def q13Tab (q q' : Rul) (k : Nat) (b o : Nat) (n c : Nat) (xn : Int) (fv : Value) (dl dc dk : Int) (bd : Bool) (G : Nat) : List (Nat × Value) := [(4, .slice (some ⟨b, o, none⟩) n c), (6, .pointer (some ⟨G, 0, none⟩)), (7, .int .i64 (k : Int)), (52, .agg #[.string (S q.name), .int .i64 q.side, .int .i64 q.inns, .int .i64 q.overs, .int .i64 q.balls, .int .i64 q.quota, .int .i64 q.wide, .int .i64 q.noball, .bool q.free, .int .i64 q.newball, .int .i64 q.follow, .int .i64 q.reviews, .int .i64 q.outside, .slice none 0 0]), (53, .int .i64 (k : Int)), (54, .slice (some ⟨b, o, none⟩) n c), (55, .int .i64 (k : Int)), (56, .pointer (some ⟨b, o + k * 2, none⟩)), (57, .agg #[.int .i64 xn, fv]), (58, .tuple #[.agg #[.string (S q'.name), .int .i64 q'.side, .int .i64 q'.inns, .int .i64 q'.overs, .int .i64 q'.balls, .int .i64 q'.quota, .int .i64 q'.wide, .int .i64 q'.noball, .bool q'.free, .int .i64 q'.newball, .int .i64 q'.follow, .int .i64 q'.reviews, .int .i64 q'.outside, .slice none 0 0], .agg #[.int .i64 dl, .int .i64 dc, .int .i64 dk], .bool bd]), (51, .tuple #[.agg #[.string (S q'.name), .int .i64 q'.side, .int .i64 q'.inns, .int .i64 q'.overs, .int .i64 q'.balls, .int .i64 q'.quota, .int .i64 q'.wide, .int .i64 q'.noball, .bool q'.free, .int .i64 q'.newball, .int .i64 q'.follow, .int .i64 q'.reviews, .int .i64 q'.outside, .slice none 0 0], .agg #[.int .i64 dl, .int .i64 dc, .int .i64 dk], .bool bd]), (59, .agg #[.string (S q'.name), .int .i64 q'.side, .int .i64 q'.inns, .int .i64 q'.overs, .int .i64 q'.balls, .int .i64 q'.quota, .int .i64 q'.wide, .int .i64 q'.noball, .bool q'.free, .int .i64 q'.newball, .int .i64 q'.follow, .int .i64 q'.reviews, .int .i64 q'.outside, .slice none 0 0]), (60, .agg #[.int .i64 dl, .int .i64 dc, .int .i64 dk]), (61, .bool bd), (9, undef), (10, undef), (11, .bool bd)]
def q13TabE (q q' : Rul) (k : Nat) (b o : Nat) (n c : Nat) (xn : Int) (fv : Value) (dl dc dk : Int) (bd : Bool) (G : Nat) (b9 b10 : Nat) : List (Nat × Value) := [(4, .slice (some ⟨b, o, none⟩) n c), (6, .pointer (some ⟨G, 0, none⟩)), (7, .int .i64 (k : Int)), (52, .agg #[.string (S q.name), .int .i64 q.side, .int .i64 q.inns, .int .i64 q.overs, .int .i64 q.balls, .int .i64 q.quota, .int .i64 q.wide, .int .i64 q.noball, .bool q.free, .int .i64 q.newball, .int .i64 q.follow, .int .i64 q.reviews, .int .i64 q.outside, .slice none 0 0]), (53, .int .i64 (k : Int)), (54, .slice (some ⟨b, o, none⟩) n c), (55, .int .i64 (k : Int)), (56, .pointer (some ⟨b, o + k * 2, none⟩)), (57, .agg #[.int .i64 xn, fv]), (58, .tuple #[.agg #[.string (S q'.name), .int .i64 q'.side, .int .i64 q'.inns, .int .i64 q'.overs, .int .i64 q'.balls, .int .i64 q'.quota, .int .i64 q'.wide, .int .i64 q'.noball, .bool q'.free, .int .i64 q'.newball, .int .i64 q'.follow, .int .i64 q'.reviews, .int .i64 q'.outside, .slice none 0 0], .agg #[.int .i64 dl, .int .i64 dc, .int .i64 dk], .bool bd]), (51, .tuple #[.agg #[.string (S q'.name), .int .i64 q'.side, .int .i64 q'.inns, .int .i64 q'.overs, .int .i64 q'.balls, .int .i64 q'.quota, .int .i64 q'.wide, .int .i64 q'.noball, .bool q'.free, .int .i64 q'.newball, .int .i64 q'.follow, .int .i64 q'.reviews, .int .i64 q'.outside, .slice none 0 0], .agg #[.int .i64 dl, .int .i64 dc, .int .i64 dk], .bool bd]), (59, .agg #[.string (S q'.name), .int .i64 q'.side, .int .i64 q'.inns, .int .i64 q'.overs, .int .i64 q'.balls, .int .i64 q'.quota, .int .i64 q'.wide, .int .i64 q'.noball, .bool q'.free, .int .i64 q'.newball, .int .i64 q'.follow, .int .i64 q'.reviews, .int .i64 q'.outside, .slice none 0 0]), (60, .agg #[.int .i64 dl, .int .i64 dc, .int .i64 dk]), (61, .bool bd), (9, .pointer (some ⟨b9, 0, none⟩)), (10, .pointer (some ⟨b10, 0, none⟩)), (11, .bool bd)]
def q13Mask (q q' : Rul) (k : Nat) (b o : Nat) (n c : Nat) (xn : Int) (fv : Value) (dl dc dk : Int) (bd : Bool) (G : Nat) (b9 b10 : Nat) : List (Option Value) := none :: none :: none :: none :: none :: none :: none :: none :: none :: some (.pointer (some ⟨b9, 0, none⟩)) :: some (.pointer (some ⟨b10, 0, none⟩)) :: some (.bool bd) :: none :: none :: none :: none :: none :: none :: none :: none :: none :: none :: none :: none :: none :: none :: none :: none :: none :: none :: none :: none :: none :: none :: none :: none :: none :: none :: none :: none :: none :: none :: none :: none :: none :: none :: none :: none :: none :: none :: none :: some (.tuple #[.agg #[.string (S q'.name), .int .i64 q'.side, .int .i64 q'.inns, .int .i64 q'.overs, .int .i64 q'.balls, .int .i64 q'.quota, .int .i64 q'.wide, .int .i64 q'.noball, .bool q'.free, .int .i64 q'.newball, .int .i64 q'.follow, .int .i64 q'.reviews, .int .i64 q'.outside, .slice none 0 0], .agg #[.int .i64 dl, .int .i64 dc, .int .i64 dk], .bool bd]) :: some (.agg #[.string (S q.name), .int .i64 q.side, .int .i64 q.inns, .int .i64 q.overs, .int .i64 q.balls, .int .i64 q.quota, .int .i64 q.wide, .int .i64 q.noball, .bool q.free, .int .i64 q.newball, .int .i64 q.follow, .int .i64 q.reviews, .int .i64 q.outside, .slice none 0 0]) :: some (.int .i64 (k : Int)) :: some (.slice (some ⟨b, o, none⟩) n c) :: some (.int .i64 (k : Int)) :: some (.pointer (some ⟨b, o + k * 2, none⟩)) :: some (.agg #[.int .i64 xn, fv]) :: some (.tuple #[.agg #[.string (S q'.name), .int .i64 q'.side, .int .i64 q'.inns, .int .i64 q'.overs, .int .i64 q'.balls, .int .i64 q'.quota, .int .i64 q'.wide, .int .i64 q'.noball, .bool q'.free, .int .i64 q'.newball, .int .i64 q'.follow, .int .i64 q'.reviews, .int .i64 q'.outside, .slice none 0 0], .agg #[.int .i64 dl, .int .i64 dc, .int .i64 dk], .bool bd]) :: some (.agg #[.string (S q'.name), .int .i64 q'.side, .int .i64 q'.inns, .int .i64 q'.overs, .int .i64 q'.balls, .int .i64 q'.quota, .int .i64 q'.wide, .int .i64 q'.noball, .bool q'.free, .int .i64 q'.newball, .int .i64 q'.follow, .int .i64 q'.reviews, .int .i64 q'.outside, .slice none 0 0]) :: some (.agg #[.int .i64 dl, .int .i64 dc, .int .i64 dk]) :: some (.bool bd) :: none :: none :: none :: none :: none :: none :: none :: none :: none :: none :: none :: none :: none :: none :: none :: none :: none :: none :: none :: none :: none :: none :: none :: none :: none :: none :: none :: none :: none :: none :: none :: none :: none :: none :: none :: none :: none :: none :: none :: none :: none :: none :: none :: none :: none :: none :: none :: none :: none :: none :: none :: none :: none :: []
/-- The region's state: the slots; the two boxes, before and behind their stores. -/
structure I13 (q q' : Rul) (k : Nat) (b o : Nat) (n c : Nat) (xn : Int) (fv : Value) (dl dc dk : Int) (bd : Bool) (G : Nat) (l : List Value) (wr : World) (listed : Array Bool) (a : Act) (w : World) : Prop where
  ri : RI q13Ops (q13Tab q q' k b o n c xn fv dl dc dk bd G) [9, 10] l wr listed a w
  m13 : listed.getD 13 false = true → listed.getD 11 false = true
  m14 : listed.getD 14 false = true → listed.getD 12 false = true
  x9 : listed.getD 11 false = true → ∃ g, a.tmps[9]? = some (.pointer (some ⟨g, 0, none⟩)) ∧ wr.heap.size ≤ g ∧ (listed.getD 13 false = true → Blk w g 25 #[.string (S q'.name), .int .i64 q'.side, .int .i64 q'.inns, .int .i64 q'.overs, .int .i64 q'.balls, .int .i64 q'.quota, .int .i64 q'.wide, .int .i64 q'.noball, .bool q'.free, .int .i64 q'.newball, .int .i64 q'.follow, .int .i64 q'.reviews, .int .i64 q'.outside, .slice none 0 0]) ∧ (listed.getD 13 false = false → Blk w g 25 #[.string ⟨#[]⟩, .int .i64 0, .int .i64 0, .int .i64 0, .int .i64 0, .int .i64 0, .int .i64 0, .int .i64 0, .bool false, .int .i64 0, .int .i64 0, .int .i64 0, .int .i64 0, .slice none 0 0])
  x10 : listed.getD 12 false = true → ∃ g, a.tmps[10]? = some (.pointer (some ⟨g, 0, none⟩)) ∧ wr.heap.size ≤ g ∧ (listed.getD 14 false = true → Blk w g 41 #[.int .i64 dl, .int .i64 dc, .int .i64 dk]) ∧ (listed.getD 14 false = false → Blk w g 41 #[.int .i64 0, .int .i64 0, .int .i64 0])
section
variable {q q' : Rul} {k b o n c : Nat} {xn : Int} {fv : Value} {dl dc dk : Int} {bd : Bool} {G : Nat} {l : List Value} {wr : World} {listed : Array Bool} {a : Act} {w : World}
theorem I13.g9 (h : I13 q q' k b o n c xn fv dl dc dk bd G l wr listed a w) (h1 : listed.getD 11 false = true) : ∃ g cs, a.tmps[9]? = some (.pointer (some ⟨g, 0, none⟩)) ∧ wr.heap.size ≤ g ∧ Blk w g 25 cs := by
  obtain ⟨g, e1, e2, e3, e4⟩ := h.x9 h1
  cases hb : listed.getD 13 false
  · exact ⟨g, _, e1, e2, e4 hb⟩
  · exact ⟨g, _, e1, e2, e3 hb⟩
theorem I13.g10 (h : I13 q q' k b o n c xn fv dl dc dk bd G l wr listed a w) (h1 : listed.getD 12 false = true) : ∃ g cs, a.tmps[10]? = some (.pointer (some ⟨g, 0, none⟩)) ∧ wr.heap.size ≤ g ∧ Blk w g 41 cs := by
  obtain ⟨g, e1, e2, e3, e4⟩ := h.x10 h1
  cases hb : listed.getD 14 false
  · exact ⟨g, _, e1, e2, e4 hb⟩
  · exact ⟨g, _, e1, e2, e3 hb⟩
/-- Behind an operation that touches neither box. -/
theorem I13.next {i : Nat} {o' : Oper} {d : Nat} {v : Value} {w' : World} (h : I13 q q' k b o n c xn fv dl dc dk bd G l wr listed a w) (hl : l.length = 115) (ho : q13Ops[i]? = some o') (hd : o'.dst = some d) (hN : d < 115) (h9 : d ≠ 9) (h10 : d ≠ 10) (hi : i ≠ 11 ∧ i ≠ 12 ∧ i ≠ 13 ∧ i ≠ 14)
    (hb : Below w.heap.size w w') (hv : v = ((q13Tab q q' k b o n c xn fv dl dc dk bd G).lookup d).getD undef) : I13 q q' k b o n c xn fv dl dc dk bd G l wr (listed.setIfInBounds i true) (a.put o'.dst v) w' := by
  have hz := h.ri.bel.size
  refine ⟨h.ri.put ho hd (by omega) (h.ri.bel.trans (hb.mono hz)) (fun _ => hv), ?_, ?_, ?_, ?_⟩
  · rw [getD_same hi.2.2.1, getD_same hi.1]; exact h.m13
  · rw [getD_same hi.2.2.2, getD_same hi.2.1]; exact h.m14
  · rw [getD_same hi.1, getD_same hi.2.2.1]
    intro h1
    obtain ⟨g, e1, e2, e3, e4⟩ := h.x9 h1
    exact ⟨g, by rw [hd, put_get, if_neg (fun e => h9 e.1)]; exact e1, e2, fun e => (e3 e).below hb (e3 e).lt, fun e => (e4 e).below hb (e4 e).lt⟩
  · rw [getD_same hi.2.1, getD_same hi.2.2.2]
    intro h1
    obtain ⟨g, e1, e2, e3, e4⟩ := h.x10 h1
    exact ⟨g, by rw [hd, put_get, if_neg (fun e => h10 e.1)]; exact e1, e2, fun e => (e3 e).below hb (e3 e).lt, fun e => (e4 e).below hb (e4 e).lt⟩
theorem I13.a9 {o' : Oper} (h : I13 q q' k b o n c xn fv dl dc dk bd G l wr listed a w) (hl : l.length = 115) (ho : q13Ops[11]? = some o') (hd : o'.dst = some 9) (hf : listed[11]? = some false) :
    I13 q q' k b o n c xn fv dl dc dk bd G l wr (listed.setIfInBounds 11 true) (a.put o'.dst (.pointer (some ⟨w.heap.size, 0, none⟩))) (w.alloc (.cells #[.string ⟨#[]⟩, .int .i64 0, .int .i64 0, .int .i64 0, .int .i64 0, .int .i64 0, .int .i64 0, .int .i64 0, .bool false, .int .i64 0, .int .i64 0, .int .i64 0, .int .i64 0, .slice none 0 0] 25)) := by
  have hb : Below w.heap.size w (w.alloc (.cells #[.string ⟨#[]⟩, .int .i64 0, .int .i64 0, .int .i64 0, .int .i64 0, .int .i64 0, .int .i64 0, .int .i64 0, .bool false, .int .i64 0, .int .i64 0, .int .i64 0, .int .i64 0, .slice none 0 0] 25)) := Below.alloc (Below.refl _ _) (Nat.le_refl _) _
  have hz := h.ri.bel.size
  have hlt := (Array.getElem?_eq_some_iff.1 hf).1
  have h11 : listed.getD 11 false = false := by rw [Array.getD_eq_getD_getElem?, hf]; rfl
  have h13 : listed.getD 13 false = false := by
    cases e : listed.getD 13 false
    · rfl
    · rw [h.m13 e] at h11; cases h11
  refine ⟨h.ri.put ho hd (by omega) (h.ri.bel.trans (hb.mono hz)) (fun e => by simp at e), ?_, ?_, ?_, ?_⟩
  · intro _; exact getD_set_at hlt
  · rw [getD_same (by decide), getD_same (by decide)]; exact h.m14
  · rw [getD_same (i := 11) (j := 13) (by decide)]
    intro _
    refine ⟨w.heap.size, by rw [hd, put_get, if_pos ⟨rfl, by rw [h.ri.size, hl]; decide⟩], hz, fun e => (by rw [h13] at e; cases e), fun _ => Blk.new _ _ _⟩
  · rw [getD_same (i := 11) (j := 12) (by decide), getD_same (i := 11) (j := 14) (by decide)]
    intro h1
    obtain ⟨g, e1, e2, e3, e4⟩ := h.x10 h1
    exact ⟨g, by rw [hd, put_get, if_neg (fun e => by cases e.1)]; exact e1, e2, fun e => (e3 e).below hb (e3 e).lt, fun e => (e4 e).below hb (e4 e).lt⟩
theorem I13.a10 {o' : Oper} (h : I13 q q' k b o n c xn fv dl dc dk bd G l wr listed a w) (hl : l.length = 115) (ho : q13Ops[12]? = some o') (hd : o'.dst = some 10) (hf : listed[12]? = some false) :
    I13 q q' k b o n c xn fv dl dc dk bd G l wr (listed.setIfInBounds 12 true) (a.put o'.dst (.pointer (some ⟨w.heap.size, 0, none⟩))) (w.alloc (.cells #[.int .i64 0, .int .i64 0, .int .i64 0] 41)) := by
  have hb : Below w.heap.size w (w.alloc (.cells #[.int .i64 0, .int .i64 0, .int .i64 0] 41)) := Below.alloc (Below.refl _ _) (Nat.le_refl _) _
  have hz := h.ri.bel.size
  have hlt := (Array.getElem?_eq_some_iff.1 hf).1
  have h12 : listed.getD 12 false = false := by rw [Array.getD_eq_getD_getElem?, hf]; rfl
  have h14 : listed.getD 14 false = false := by
    cases e : listed.getD 14 false
    · rfl
    · rw [h.m14 e] at h12; cases h12
  refine ⟨h.ri.put ho hd (by omega) (h.ri.bel.trans (hb.mono hz)) (fun e => by simp at e), ?_, ?_, ?_, ?_⟩
  · rw [getD_same (by decide), getD_same (by decide)]; exact h.m13
  · intro _; exact getD_set_at hlt
  · rw [getD_same (i := 12) (j := 11) (by decide), getD_same (i := 12) (j := 13) (by decide)]
    intro h1
    obtain ⟨g, e1, e2, e3, e4⟩ := h.x9 h1
    exact ⟨g, by rw [hd, put_get, if_neg (fun e => by cases e.1)]; exact e1, e2, fun e => (e3 e).below hb (e3 e).lt, fun e => (e4 e).below hb (e4 e).lt⟩
  · rw [getD_same (i := 12) (j := 14) (by decide)]
    intro _
    refine ⟨w.heap.size, by rw [hd, put_get, if_pos ⟨rfl, by rw [h.ri.size, hl]; decide⟩], hz, fun e => (by rw [h14] at e; cases e), fun _ => Blk.new _ _ _⟩
theorem blk_apart {g g' : Nat} {cs cs' : Array Value} (h : Blk w g 25 cs) (h' : Blk w g' 41 cs') : g ≠ g' := by
  rintro rfl
  unfold Blk at h h'
  rw [h] at h'
  injection h' with h'
  injection h' with _ h'
  exact absurd h' (by decide)
theorem I13.s9 {o' : Oper} {g : Nat} {w' : World} (h : I13 q q' k b o n c xn fv dl dc dk bd G l wr listed a w) (ho : q13Ops[13]? = some o') (hd : o'.dst = none) (hf : listed[13]? = some false) (h11 : listed.getD 11 false = true) (hg : a.tmps[9]? = some (.pointer (some ⟨g, 0, none⟩))) (hgz : wr.heap.size ≤ g)
    (hbl : Blk w' g 25 #[.string (S q'.name), .int .i64 q'.side, .int .i64 q'.inns, .int .i64 q'.overs, .int .i64 q'.balls, .int .i64 q'.quota, .int .i64 q'.wide, .int .i64 q'.noball, .bool q'.free, .int .i64 q'.newball, .int .i64 q'.follow, .int .i64 q'.reviews, .int .i64 q'.outside, .slice none 0 0]) (hon : Only g w w') : I13 q q' k b o n c xn fv dl dc dk bd G l wr (listed.setIfInBounds 13 true) a w' := by
  have hlt := (Array.getElem?_eq_some_iff.1 hf).1
  obtain ⟨g', cs, e1, e2, e3⟩ := h.g9 h11
  have hgg : g' = g := by rw [e1] at hg; injection hg with hg; injection hg with hg; injection hg with hg; injection hg
  subst hgg
  refine ⟨h.ri.store ho hd (h.ri.bel.trans (hon.below hgz h.ri.bel.size)), ?_, ?_, ?_, ?_⟩
  · intro _; rw [getD_same (by decide)]; exact h11
  · rw [getD_same (by decide), getD_same (by decide)]; exact h.m14
  · rw [getD_same (i := 13) (j := 11) (by decide)]
    intro _
    refine ⟨g', e1, hgz, fun _ => hbl, fun e => (by rw [getD_set_at hlt] at e; cases e)⟩
  · rw [getD_same (i := 13) (j := 12) (by decide), getD_same (i := 13) (j := 14) (by decide)]
    intro h1
    obtain ⟨g2, u1, u2, u3, u4⟩ := h.x10 h1
    exact ⟨g2, u1, u2, fun e => (u3 e).grown hon (fun e' => blk_apart e3 (u3 e) (Option.some.inj e')), fun e => (u4 e).grown hon (fun e' => blk_apart e3 (u4 e) (Option.some.inj e'))⟩
theorem I13.s10 {o' : Oper} {g : Nat} {w' : World} (h : I13 q q' k b o n c xn fv dl dc dk bd G l wr listed a w) (ho : q13Ops[14]? = some o') (hd : o'.dst = none) (hf : listed[14]? = some false) (h12 : listed.getD 12 false = true) (hg : a.tmps[10]? = some (.pointer (some ⟨g, 0, none⟩))) (hgz : wr.heap.size ≤ g)
    (hbl : Blk w' g 41 #[.int .i64 dl, .int .i64 dc, .int .i64 dk]) (hon : Only g w w') : I13 q q' k b o n c xn fv dl dc dk bd G l wr (listed.setIfInBounds 14 true) a w' := by
  have hlt := (Array.getElem?_eq_some_iff.1 hf).1
  obtain ⟨g', cs, e1, e2, e3⟩ := h.g10 h12
  have hgg : g' = g := by rw [e1] at hg; injection hg with hg; injection hg with hg; injection hg with hg; injection hg
  subst hgg
  refine ⟨h.ri.store ho hd (h.ri.bel.trans (hon.below hgz h.ri.bel.size)), ?_, ?_, ?_, ?_⟩
  · rw [getD_same (by decide), getD_same (by decide)]; exact h.m13
  · intro _; rw [getD_same (by decide)]; exact h12
  · rw [getD_same (i := 14) (j := 11) (by decide), getD_same (i := 14) (j := 13) (by decide)]
    intro h1
    obtain ⟨g2, u1, u2, u3, u4⟩ := h.x9 h1
    exact ⟨g2, u1, u2, fun e => (u3 e).grown hon (fun e' => blk_apart (u3 e) e3 (Option.some.inj e').symm), fun e => (u4 e).grown hon (fun e' => blk_apart (u4 e) e3 (Option.some.inj e').symm)⟩
  · rw [getD_same (i := 14) (j := 12) (by decide)]
    intro _
    refine ⟨g', e1, hgz, fun _ => hbl, fun e => (by rw [getD_set_at hlt] at e; cases e)⟩
end
theorem fg_valX {tab : List (Nat × Value)} {a : Act} {w : World} (d : Nat) (v : Value) (h : Holds (tabV tab) a w d) (hv : (tab.lookup d).getD undef = v) : a.eval (.tmp d) = v := by
  obtain ⟨u, h1, h2⟩ := h
  have h2 : u = _ := h2
  rw [eval_tmp h1, h2, hv]
/-- The frame behind a region, slot by slot. -/
theorem frame_of {ops : Array Oper} {tab : List (Nat × Value)} {dl : List Nat} {mask : List (Option Value)} {N : Nat} {l : List Value} {a : Act} (hsz : a.tmps.size = l.length) (hN : l.length = N) (hdl : dstIn ops dl = true) (hmk : mask = maskOf tab dl 0 N)
    (hdone : ∀ (i : Nat) (o : Oper) (d : Nat), ops[i]? = some o → o.dst = some d → a.tmps[d]? = some ((tab.lookup d).getD undef)) (hkeep : ∀ k, (∀ (i : Nat) (o : Oper), ops[i]? = some o → o.dst ≠ some k) → a.tmps[k]? = l[k]?) : a.tmps = (updM mask l).toArray := by
  refine Array.ext_getElem? fun k => ?_
  have hml : mask.length = l.length := by rw [hmk, maskOf_len, hN]
  have eT : (updM mask l).toArray[k]? = (updM mask l)[k]? := by simp
  rw [eT, updM_get _ _ _ hml]
  unfold dstIn at hdl
  rw [Bool.and_eq_true] at hdl
  rcases Nat.lt_or_ge k l.length with hlt | hge
  · have hmg : mask[k]? = some (bif dl.contains k then some ((tab.lookup k).getD undef) else none) := by rw [hmk, maskOf_get _ _ _ _ _ (by omega), Nat.zero_add]
    rw [hmg, List.getElem?_eq_getElem hlt]
    cases hc : dl.contains k
    · have hk := hkeep k fun i o ho e => by
        have h1 := List.all_eq_true.1 hdl.1 o (Array.mem_toList_iff.2 (Array.mem_of_getElem? ho))
        rw [e] at h1
        dsimp only at h1
        rw [hc] at h1; cases h1
      rw [hk, List.getElem?_eq_getElem hlt]
      rfl
    · have h1 := List.all_eq_true.1 hdl.2 k (by simpa using hc)
      obtain ⟨o, ho, h2⟩ := List.any_eq_true.1 h1
      have h2 : o.dst = some k := by simpa using h2
      obtain ⟨i, hi⟩ := List.mem_iff_getElem?.1 ho
      rw [Array.getElem?_toList] at hi
      rw [hdone i o k hi h2]
      rfl
  · rw [Array.getElem?_eq_none (by omega), (List.getElem?_eq_none hge : l[k]? = none)]
    rfl
set_option maxRecDepth 100000 in
set_option maxHeartbeats 4000000 in
theorem q13_step (q q' : Rul) (k : Nat) (b o : Nat) (n c : Nat) (xn : Int) (fv : Value) (dl dc dk : Int) (bd : Bool) (G : Nat) (l : List Value) (wr : World) (hl : l.length = 115) (h4 : l[4]? = some (.slice (some ⟨b, o, none⟩) n c)) (h6 : l[6]? = some (.pointer (some ⟨G, 0, none⟩))) (h7 : l[7]? = some (.int .i64 (k : Int)))
    (hG : Blk wr G 25 #[.string (S q.name), .int .i64 q.side, .int .i64 q.inns, .int .i64 q.overs, .int .i64 q.balls, .int .i64 q.quota, .int .i64 q.wide, .int .i64 q.noball, .bool q.free, .int .i64 q.newball, .int .i64 q.follow, .int .i64 q.reviews, .int .i64 q.outside, .slice none 0 0]) (hb0 : b < wr.heap.size) (hc0 : wr.cell? ⟨b, o + k * 2, none⟩ = some (.int .i64 xn)) (hc1 : wr.cell? ⟨b, o + k * 2 + 1, none⟩ = some fv) (hkn : k < n) (hkz : (k : Int) < (n : Int))
    (hcall : ∀ W, Below wr.heap.size wr W → Calls Tryz.prog 31 #[.agg #[.string (S q.name), .int .i64 q.side, .int .i64 q.inns, .int .i64 q.overs, .int .i64 q.balls, .int .i64 q.quota, .int .i64 q.wide, .int .i64 q.noball, .bool q.free, .int .i64 q.newball, .int .i64 q.follow, .int .i64 q.reviews, .int .i64 q.outside, .slice none 0 0], .int .i64 (k : Int), .agg #[.int .i64 xn, fv]] W fun e W' => e = .returned (.tuple #[.agg #[.string (S q'.name), .int .i64 q'.side, .int .i64 q'.inns, .int .i64 q'.overs, .int .i64 q'.balls, .int .i64 q'.quota, .int .i64 q'.wide, .int .i64 q'.noball, .bool q'.free, .int .i64 q'.newball, .int .i64 q'.follow, .int .i64 q'.reviews, .int .i64 q'.outside, .slice none 0 0], .agg #[.int .i64 dl, .int .i64 dc, .int .i64 dk], .bool bd]) ∧ Below W.heap.size W W') :
    ∀ (listed : Array Bool) (i : Nat) (o' : Oper) (a : Act) (W : World), I13 q q' k b o n c xn fv dl dc dk bd G l wr listed a W → q13Ops[i]? = some o' → listed[i]? = some false → (∀ e ∈ o'.after, Region.binds .any e = true → listed.getD e.on false = true) →
      Region.wanted o' (yielded q13Ops a.tmps) = true ∧ ∀ K Q', (∀ a' w', I13 q q' k b o n c xn fv dl dc dk bd G l wr (listed.setIfInBounds i true) a' w' → K a' w') → o'.wp Tryz.prog a W K Q' := by
  intro listed i o' a W hI ho hf hall
  have hini : ∀ d ∈ ([4, 6, 7] : List Nat), l[d]? = some (((q13Tab q q' k b o n c xn fv dl dc dk bd G).lookup d).getD undef) ∧ ∀ (i : Nat) (o : Oper), q13Ops[i]? = some o → o.dst ≠ some d := by
    intro d hd
    simp only [List.mem_cons, List.not_mem_nil, or_false] at hd
    rcases hd with rfl | rfl | rfl
    · exact ⟨h4, notDst_of (by kernel_rfl)⟩
    · exact ⟨h6, notDst_of (by kernel_rfl)⟩
    · exact ⟨h7, notDst_of (by kernel_rfl)⟩
  have hn0 : ∀ x, (q13Needs.getD i []).contains x = true → ([9, 10] : List Nat).contains x = false → Holds (tabV (q13Tab q q' k b o n c xn fv dl dc dk bd G)) a W x := fun x hx hs => hI.ri.needs (needs := q13Needs) (init := [4, 6, 7]) (by kernel_rfl) ho hall hini x (by simpa using hx) hs
  have hlt : i < 16 := by rw [← q13_size]; exact (Array.getElem?_eq_some_iff.1 ho).1
  have hcase : i = 0 ∨ i = 1 ∨ i = 2 ∨ i = 3 ∨ i = 4 ∨ i = 5 ∨ i = 6 ∨ i = 7 ∨ i = 8 ∨ i = 9 ∨ i = 10 ∨ i = 11 ∨ i = 12 ∨ i = 13 ∨ i = 14 ∨ i = 15 := by omega
  rcases hcase with rfl | rfl | rfl | rfl | rfl | rfl | rfl | rfl | rfl | rfl | rfl | rfl | rfl | rfl | rfl | rfl
  · have hop := opG_of (x := .load 25 (.tmp 6)) (d := some 52) (by kernel_rfl) ho
    obtain ⟨h1, h2⟩ := hop
    refine ⟨free_not (guardG_of (by kernel_rfl) ho), fun K Q' hK => ?_⟩
    have hn : ∀ x ∈ q13Needs.getD 0 [], Holds (tabV (q13Tab q q' k b o n c xn fv dl dc dk bd G)) a W x := fun x hx => hI.ri.needs (needs := q13Needs) (init := [4, 6, 7]) (by kernel_rfl) ho hall hini x hx (by revert x; decide)
    have hm : Meets Tryz.prog (tabV (q13Tab q q' k b o n c xn fv dl dc dk bd G)) o' a W := meets_load h1 (fg_val 6 (.pointer (some ⟨G, 0, none⟩)) hn (by kernel_rfl) rfl) (load_rulZ (hG.below hI.ri.bel hG.lt)) (fg_put h2 rfl)
    exact hm 52 h2 K Q' fun v w' hb hv => hK _ _ (hI.next hl ho h2 (by decide) (by decide) (by decide) (by decide) hb hv)
  · have hop := opG_of (x := .move (.tmp 7)) (d := some 53) (by kernel_rfl) ho
    obtain ⟨h1, h2⟩ := hop
    refine ⟨free_not (guardG_of (by kernel_rfl) ho), fun K Q' hK => ?_⟩
    have hn : ∀ x ∈ q13Needs.getD 1 [], Holds (tabV (q13Tab q q' k b o n c xn fv dl dc dk bd G)) a W x := fun x hx => hI.ri.needs (needs := q13Needs) (init := [4, 6, 7]) (by kernel_rfl) ho hall hini x hx (by revert x; decide)
    have hm : Meets Tryz.prog (tabV (q13Tab q q' k b o n c xn fv dl dc dk bd G)) o' a W := meets_move (.inl h1) fun d hd => by rw [h2] at hd; obtain rfl := Option.some.inj hd; exact (fg_val 7 (.int .i64 (k : Int)) hn (by kernel_rfl) rfl)
    exact hm 53 h2 K Q' fun v w' hb hv => hK _ _ (hI.next hl ho h2 (by decide) (by decide) (by decide) (by decide) hb hv)
  · have hop := opG_of (x := .move (.tmp 4)) (d := some 54) (by kernel_rfl) ho
    obtain ⟨h1, h2⟩ := hop
    refine ⟨free_not (guardG_of (by kernel_rfl) ho), fun K Q' hK => ?_⟩
    have hn : ∀ x ∈ q13Needs.getD 2 [], Holds (tabV (q13Tab q q' k b o n c xn fv dl dc dk bd G)) a W x := fun x hx => hI.ri.needs (needs := q13Needs) (init := [4, 6, 7]) (by kernel_rfl) ho hall hini x hx (by revert x; decide)
    have hm : Meets Tryz.prog (tabV (q13Tab q q' k b o n c xn fv dl dc dk bd G)) o' a W := meets_move (.inl h1) fun d hd => by rw [h2] at hd; obtain rfl := Option.some.inj hd; exact (fg_val 4 (.slice (some ⟨b, o, none⟩) n c) hn (by kernel_rfl) rfl)
    exact hm 54 h2 K Q' fun v w' hb hv => hK _ _ (hI.next hl ho h2 (by decide) (by decide) (by decide) (by decide) hb hv)
  · have hop := opG_of (x := .move (.tmp 7)) (d := some 55) (by kernel_rfl) ho
    obtain ⟨h1, h2⟩ := hop
    refine ⟨free_not (guardG_of (by kernel_rfl) ho), fun K Q' hK => ?_⟩
    have hn : ∀ x ∈ q13Needs.getD 3 [], Holds (tabV (q13Tab q q' k b o n c xn fv dl dc dk bd G)) a W x := fun x hx => hI.ri.needs (needs := q13Needs) (init := [4, 6, 7]) (by kernel_rfl) ho hall hini x hx (by revert x; decide)
    have hm : Meets Tryz.prog (tabV (q13Tab q q' k b o n c xn fv dl dc dk bd G)) o' a W := meets_move (.inl h1) fun d hd => by rw [h2] at hd; obtain rfl := Option.some.inj hd; exact (fg_val 7 (.int .i64 (k : Int)) hn (by kernel_rfl) rfl)
    exact hm 55 h2 K Q' fun v w' hb hv => hK _ _ (hI.next hl ho h2 (by decide) (by decide) (by decide) (by decide) hb hv)
  · have hop := opG_of (x := .indexAddr 51 (.tmp 54) (.tmp 55)) (d := some 56) (by kernel_rfl) ho
    obtain ⟨h1, h2⟩ := hop
    refine ⟨free_not (guardG_of (by kernel_rfl) ho), fun K Q' hK => ?_⟩
    have hn : ∀ x ∈ q13Needs.getD 4 [], Holds (tabV (q13Tab q q' k b o n c xn fv dl dc dk bd G)) a W x := fun x hx => hI.ri.needs (needs := q13Needs) (init := [4, 6, 7]) (by kernel_rfl) ho hall hini x hx (by revert x; decide)
    have hm : Meets Tryz.prog (tabV (q13Tab q q' k b o n c xn fv dl dc dk bd G)) o' a W := meets_value (v := .pointer (some ⟨b, o + k * 2, none⟩)) (by have e54 := (fg_val 54 (.slice (some ⟨b, o, none⟩) n c) hn (by kernel_rfl) rfl); have e55 := (fg_val 55 (.int .i64 (k : Int)) hn (by kernel_rfl) rfl); unfold execOp; simp only [h1, e54, e55]; simp [go_sem, BigFrame.eval_const, hkn, hkz]) (fg_put h2 rfl)
    exact hm 56 h2 K Q' fun v w' hb hv => hK _ _ (hI.next hl ho h2 (by decide) (by decide) (by decide) (by decide) hb hv)
  · have hop := opG_of (x := .load 56 (.tmp 56)) (d := some 57) (by kernel_rfl) ho
    obtain ⟨h1, h2⟩ := hop
    refine ⟨free_not (guardG_of (by kernel_rfl) ho), fun K Q' hK => ?_⟩
    have hn : ∀ x ∈ q13Needs.getD 5 [], Holds (tabV (q13Tab q q' k b o n c xn fv dl dc dk bd G)) a W x := fun x hx => hI.ri.needs (needs := q13Needs) (init := [4, 6, 7]) (by kernel_rfl) ho hall hini x hx (by revert x; decide)
    have hm : Meets Tryz.prog (tabV (q13Tab q q' k b o n c xn fv dl dc dk bd G)) o' a W := meets_load h1 (fg_val 56 (.pointer (some ⟨b, o + k * 2, none⟩)) hn (by kernel_rfl) rfl) (load_linZ ((hI.ri.bel.cell (p := ⟨b, o + k * 2, none⟩) hb0).trans hc0) ((hI.ri.bel.cell (p := ⟨b, o + k * 2 + 1, none⟩) hb0).trans hc1)) (fg_put h2 rfl)
    exact hm 57 h2 K Q' fun v w' hb hv => hK _ _ (hI.next hl ho h2 (by decide) (by decide) (by decide) (by decide) hb hv)
  · have hop := opG_of (x := .call { callee := .value (.func 31), args := #[.tmp 52, .tmp 53, .tmp 57], argTypes := #[25, 3, 56] }) (d := some 58) (by kernel_rfl) ho
    obtain ⟨h1, h2⟩ := hop
    refine ⟨free_not (guardG_of (by kernel_rfl) ho), fun K Q' hK => ?_⟩
    have hn : ∀ x ∈ q13Needs.getD 6 [], Holds (tabV (q13Tab q q' k b o n c xn fv dl dc dk bd G)) a W x := fun x hx => hI.ri.needs (needs := q13Needs) (init := [4, 6, 7]) (by kernel_rfl) ho hall hini x hx (by revert x; decide)
    have hm : Meets Tryz.prog (tabV (q13Tab q q' k b o n c xn fv dl dc dk bd G)) o' a W := by
      refine meets_call (args := #[.agg #[.string (S q.name), .int .i64 q.side, .int .i64 q.inns, .int .i64 q.overs, .int .i64 q.balls, .int .i64 q.quota, .int .i64 q.wide, .int .i64 q.noball, .bool q.free, .int .i64 q.newball, .int .i64 q.follow, .int .i64 q.reviews, .int .i64 q.outside, .slice none 0 0], .int .i64 (k : Int), .agg #[.int .i64 xn, fv]]) h1 rfl rfl (by have e52 := (fg_val 52 (.agg #[.string (S q.name), .int .i64 q.side, .int .i64 q.inns, .int .i64 q.overs, .int .i64 q.balls, .int .i64 q.quota, .int .i64 q.wide, .int .i64 q.noball, .bool q.free, .int .i64 q.newball, .int .i64 q.follow, .int .i64 q.reviews, .int .i64 q.outside, .slice none 0 0]) hn (by kernel_rfl) rfl); have e53 := (fg_val 53 (.int .i64 (k : Int)) hn (by kernel_rfl) rfl); have e57 := (fg_val 57 (.agg #[.int .i64 xn, fv]) hn (by kernel_rfl) rfl); simp [e52, e53, e57]) Tryz.func31 (by kernel_rfl) (by kernel_rfl) fun d hd => ?_
      refine (hcall W hI.ri.bel).mono ?_
      rintro e W2 ⟨rfl, hb2⟩
      exact ⟨_, rfl, hb2, fg_put h2 rfl d hd⟩
    exact hm 58 h2 K Q' fun v w' hb hv => hK _ _ (hI.next hl ho h2 (by decide) (by decide) (by decide) (by decide) hb hv)
  · have hop := opG_of (x := .move (.tmp 58)) (d := some 51) (by kernel_rfl) ho
    obtain ⟨h1, h2⟩ := hop
    refine ⟨free_not (guardG_of (by kernel_rfl) ho), fun K Q' hK => ?_⟩
    have hn : ∀ x ∈ q13Needs.getD 7 [], Holds (tabV (q13Tab q q' k b o n c xn fv dl dc dk bd G)) a W x := fun x hx => hI.ri.needs (needs := q13Needs) (init := [4, 6, 7]) (by kernel_rfl) ho hall hini x hx (by revert x; decide)
    have hm : Meets Tryz.prog (tabV (q13Tab q q' k b o n c xn fv dl dc dk bd G)) o' a W := meets_move (.inl h1) fun d hd => by rw [h2] at hd; obtain rfl := Option.some.inj hd; exact (fg_val 58 (.tuple #[.agg #[.string (S q'.name), .int .i64 q'.side, .int .i64 q'.inns, .int .i64 q'.overs, .int .i64 q'.balls, .int .i64 q'.quota, .int .i64 q'.wide, .int .i64 q'.noball, .bool q'.free, .int .i64 q'.newball, .int .i64 q'.follow, .int .i64 q'.reviews, .int .i64 q'.outside, .slice none 0 0], .agg #[.int .i64 dl, .int .i64 dc, .int .i64 dk], .bool bd]) hn (by kernel_rfl) rfl)
    exact hm 51 h2 K Q' fun v w' hb hv => hK _ _ (hI.next hl ho h2 (by decide) (by decide) (by decide) (by decide) hb hv)
  · have hop := opG_of (x := .extract (.tmp 51) 0) (d := some 59) (by kernel_rfl) ho
    obtain ⟨h1, h2⟩ := hop
    refine ⟨free_not (guardG_of (by kernel_rfl) ho), fun K Q' hK => ?_⟩
    have hn : ∀ x ∈ q13Needs.getD 8 [], Holds (tabV (q13Tab q q' k b o n c xn fv dl dc dk bd G)) a W x := fun x hx => hI.ri.needs (needs := q13Needs) (init := [4, 6, 7]) (by kernel_rfl) ho hall hini x hx (by revert x; decide)
    have hm : Meets Tryz.prog (tabV (q13Tab q q' k b o n c xn fv dl dc dk bd G)) o' a W := meets_value (v := .agg #[.string (S q'.name), .int .i64 q'.side, .int .i64 q'.inns, .int .i64 q'.overs, .int .i64 q'.balls, .int .i64 q'.quota, .int .i64 q'.wide, .int .i64 q'.noball, .bool q'.free, .int .i64 q'.newball, .int .i64 q'.follow, .int .i64 q'.reviews, .int .i64 q'.outside, .slice none 0 0]) (by have e51 := (fg_val 51 (.tuple #[.agg #[.string (S q'.name), .int .i64 q'.side, .int .i64 q'.inns, .int .i64 q'.overs, .int .i64 q'.balls, .int .i64 q'.quota, .int .i64 q'.wide, .int .i64 q'.noball, .bool q'.free, .int .i64 q'.newball, .int .i64 q'.follow, .int .i64 q'.reviews, .int .i64 q'.outside, .slice none 0 0], .agg #[.int .i64 dl, .int .i64 dc, .int .i64 dk], .bool bd]) hn (by kernel_rfl) rfl); unfold execOp; simp only [h1, e51]; simp [go_sem, BigFrame.eval_const]) (fg_put h2 rfl)
    exact hm 59 h2 K Q' fun v w' hb hv => hK _ _ (hI.next hl ho h2 (by decide) (by decide) (by decide) (by decide) hb hv)
  · have hop := opG_of (x := .extract (.tmp 51) 1) (d := some 60) (by kernel_rfl) ho
    obtain ⟨h1, h2⟩ := hop
    refine ⟨free_not (guardG_of (by kernel_rfl) ho), fun K Q' hK => ?_⟩
    have hn : ∀ x ∈ q13Needs.getD 9 [], Holds (tabV (q13Tab q q' k b o n c xn fv dl dc dk bd G)) a W x := fun x hx => hI.ri.needs (needs := q13Needs) (init := [4, 6, 7]) (by kernel_rfl) ho hall hini x hx (by revert x; decide)
    have hm : Meets Tryz.prog (tabV (q13Tab q q' k b o n c xn fv dl dc dk bd G)) o' a W := meets_value (v := .agg #[.int .i64 dl, .int .i64 dc, .int .i64 dk]) (by have e51 := (fg_val 51 (.tuple #[.agg #[.string (S q'.name), .int .i64 q'.side, .int .i64 q'.inns, .int .i64 q'.overs, .int .i64 q'.balls, .int .i64 q'.quota, .int .i64 q'.wide, .int .i64 q'.noball, .bool q'.free, .int .i64 q'.newball, .int .i64 q'.follow, .int .i64 q'.reviews, .int .i64 q'.outside, .slice none 0 0], .agg #[.int .i64 dl, .int .i64 dc, .int .i64 dk], .bool bd]) hn (by kernel_rfl) rfl); unfold execOp; simp only [h1, e51]; simp [go_sem, BigFrame.eval_const]) (fg_put h2 rfl)
    exact hm 60 h2 K Q' fun v w' hb hv => hK _ _ (hI.next hl ho h2 (by decide) (by decide) (by decide) (by decide) hb hv)
  · have hop := opG_of (x := .extract (.tmp 51) 2) (d := some 61) (by kernel_rfl) ho
    obtain ⟨h1, h2⟩ := hop
    refine ⟨free_not (guardG_of (by kernel_rfl) ho), fun K Q' hK => ?_⟩
    have hn : ∀ x ∈ q13Needs.getD 10 [], Holds (tabV (q13Tab q q' k b o n c xn fv dl dc dk bd G)) a W x := fun x hx => hI.ri.needs (needs := q13Needs) (init := [4, 6, 7]) (by kernel_rfl) ho hall hini x hx (by revert x; decide)
    have hm : Meets Tryz.prog (tabV (q13Tab q q' k b o n c xn fv dl dc dk bd G)) o' a W := meets_value (v := .bool bd) (by have e51 := (fg_val 51 (.tuple #[.agg #[.string (S q'.name), .int .i64 q'.side, .int .i64 q'.inns, .int .i64 q'.overs, .int .i64 q'.balls, .int .i64 q'.quota, .int .i64 q'.wide, .int .i64 q'.noball, .bool q'.free, .int .i64 q'.newball, .int .i64 q'.follow, .int .i64 q'.reviews, .int .i64 q'.outside, .slice none 0 0], .agg #[.int .i64 dl, .int .i64 dc, .int .i64 dk], .bool bd]) hn (by kernel_rfl) rfl); unfold execOp; simp only [h1, e51]; simp [go_sem, BigFrame.eval_const]) (fg_put h2 rfl)
    exact hm 61 h2 K Q' fun v w' hb hv => hK _ _ (hI.next hl ho h2 (by decide) (by decide) (by decide) (by decide) hb hv)
  · have hop := opG_of (x := .alloc 25) (d := some 9) (by kernel_rfl) ho
    obtain ⟨h1, h2⟩ := hop
    refine ⟨free_not (guardG_of (by kernel_rfl) ho), fun K Q' hK => ?_⟩
    exact wp_alloc h1 (alloc_rul W) (hK _ _ (hI.a9 hl ho h2 hf))
  · have hop := opG_of (x := .alloc 41) (d := some 10) (by kernel_rfl) ho
    obtain ⟨h1, h2⟩ := hop
    refine ⟨free_not (guardG_of (by kernel_rfl) ho), fun K Q' hK => ?_⟩
    exact wp_alloc h1 (alloc_dia W) (hK _ _ (hI.a10 hl ho h2 hf))
  · have hop := opG_of (x := .store 25 (.tmp 9) (.tmp 59)) (d := none) (by kernel_rfl) ho
    obtain ⟨h1, h2⟩ := hop
    refine ⟨free_not (guardG_of (by kernel_rfl) ho), fun K Q' hK => ?_⟩
    have w1 := waitsB_of (j := 11) (by kernel_rfl) ho hall
    have hx := hn0 59 (by kernel_rfl) rfl
    have ex := fg_valX 59 (.agg #[.string (S q'.name), .int .i64 q'.side, .int .i64 q'.inns, .int .i64 q'.overs, .int .i64 q'.balls, .int .i64 q'.quota, .int .i64 q'.wide, .int .i64 q'.noball, .bool q'.free, .int .i64 q'.newball, .int .i64 q'.follow, .int .i64 q'.reviews, .int .i64 q'.outside, .slice none 0 0]) hx rfl
    obtain ⟨g, e1, e2, e3, e4⟩ := hI.x9 w1
    have h13 : listed.getD 13 false = false := by rw [Array.getD_eq_getD_getElem?, hf]; rfl
    obtain ⟨w', hr, hbl, hon⟩ := store_rul (q' := q') (e4 h13)
    have eg : a.eval (.tmp 9) = .pointer (some ⟨g, 0, none⟩) := eval_tmp e1
    exact wp_store h1 h2 (by rw [eg, ex]; exact hr) (hK _ _ (hI.s9 ho h2 hf w1 e1 e2 hbl hon))
  · have hop := opG_of (x := .store 41 (.tmp 10) (.tmp 60)) (d := none) (by kernel_rfl) ho
    obtain ⟨h1, h2⟩ := hop
    refine ⟨free_not (guardG_of (by kernel_rfl) ho), fun K Q' hK => ?_⟩
    have w1 := waitsB_of (j := 12) (by kernel_rfl) ho hall
    have hx := hn0 60 (by kernel_rfl) rfl
    have ex := fg_valX 60 (.agg #[.int .i64 dl, .int .i64 dc, .int .i64 dk]) hx rfl
    obtain ⟨g, e1, e2, e3, e4⟩ := hI.x10 w1
    have h13 : listed.getD 14 false = false := by rw [Array.getD_eq_getD_getElem?, hf]; rfl
    obtain ⟨w', hr, hbl, hon⟩ := store_dia (x0 := .int .i64 dl) (x1 := .int .i64 dc) (x2 := .int .i64 dk) (e4 h13) ⟨_, _, _, rfl, rfl, rfl⟩
    have eg : a.eval (.tmp 10) = .pointer (some ⟨g, 0, none⟩) := eval_tmp e1
    exact wp_store h1 h2 (by rw [eg, ex]; exact hr) (hK _ _ (hI.s10 ho h2 hf w1 e1 e2 hbl hon))
  · have hop := opG_of (x := .assign (.tmp 61)) (d := some 11) (by kernel_rfl) ho
    obtain ⟨h1, h2⟩ := hop
    refine ⟨free_not (guardG_of (by kernel_rfl) ho), fun K Q' hK => ?_⟩
    have hn : ∀ x ∈ q13Needs.getD 15 [], Holds (tabV (q13Tab q q' k b o n c xn fv dl dc dk bd G)) a W x := fun x hx => hI.ri.needs (needs := q13Needs) (init := [4, 6, 7]) (by kernel_rfl) ho hall hini x hx (by revert x; decide)
    have hm : Meets Tryz.prog (tabV (q13Tab q q' k b o n c xn fv dl dc dk bd G)) o' a W := meets_move (.inr h1) fun d hd => by rw [h2] at hd; obtain rfl := Option.some.inj hd; exact (fg_val 61 (.bool bd) hn (by kernel_rfl) rfl)
    exact hm 11 h2 K Q' fun v w' hb hv => hK _ _ (hI.next hl ho h2 (by decide) (by decide) (by decide) (by decide) hb hv)

set_option maxRecDepth 100000 in
set_option maxHeartbeats 2000000 in
theorem q13_region {ops : Array Oper} {id : Nat} {Q : Exit → Act → World → Prop} (q q' : Rul) (k : Nat) (b o : Nat) (n c : Nat) (xn : Int) (fv : Value) (dl dc dk : Int) (bd : Bool) (G : Nat) (l : List Value) (wr : World) (he : ops = q13Ops) (hl : l.length = 115) (h4 : l[4]? = some (.slice (some ⟨b, o, none⟩) n c)) (h6 : l[6]? = some (.pointer (some ⟨G, 0, none⟩))) (h7 : l[7]? = some (.int .i64 (k : Int)))
    (hG : Blk wr G 25 #[.string (S q.name), .int .i64 q.side, .int .i64 q.inns, .int .i64 q.overs, .int .i64 q.balls, .int .i64 q.quota, .int .i64 q.wide, .int .i64 q.noball, .bool q.free, .int .i64 q.newball, .int .i64 q.follow, .int .i64 q.reviews, .int .i64 q.outside, .slice none 0 0]) (hb0 : b < wr.heap.size) (hc0 : wr.cell? ⟨b, o + k * 2, none⟩ = some (.int .i64 xn)) (hc1 : wr.cell? ⟨b, o + k * 2 + 1, none⟩ = some fv) (hkn : k < n) (hkz : (k : Int) < (n : Int))
    (hcall : ∀ W, Below wr.heap.size wr W → Calls Tryz.prog 31 #[.agg #[.string (S q.name), .int .i64 q.side, .int .i64 q.inns, .int .i64 q.overs, .int .i64 q.balls, .int .i64 q.quota, .int .i64 q.wide, .int .i64 q.noball, .bool q.free, .int .i64 q.newball, .int .i64 q.follow, .int .i64 q.reviews, .int .i64 q.outside, .slice none 0 0], .int .i64 (k : Int), .agg #[.int .i64 xn, fv]] W fun e W' => e = .returned (.tuple #[.agg #[.string (S q'.name), .int .i64 q'.side, .int .i64 q'.inns, .int .i64 q'.overs, .int .i64 q'.balls, .int .i64 q'.quota, .int .i64 q'.wide, .int .i64 q'.noball, .bool q'.free, .int .i64 q'.newball, .int .i64 q'.follow, .int .i64 q'.reviews, .int .i64 q'.outside, .slice none 0 0], .agg #[.int .i64 dl, .int .i64 dc, .int .i64 dk], .bool bd]) ∧ Below W.heap.size W W')
    (fin : ∀ b9 b10 w, Below wr.heap.size wr w → wr.heap.size ≤ b9 → wr.heap.size ≤ b10 → Blk w b9 25 #[.string (S q'.name), .int .i64 q'.side, .int .i64 q'.inns, .int .i64 q'.overs, .int .i64 q'.balls, .int .i64 q'.quota, .int .i64 q'.wide, .int .i64 q'.noball, .bool q'.free, .int .i64 q'.newball, .int .i64 q'.follow, .int .i64 q'.reviews, .int .i64 q'.outside, .slice none 0 0] → Blk w b10 41 #[.int .i64 dl, .int .i64 dc, .int .i64 dk] → Q .normal ⟨(updM (q13Mask q q' k b o n c xn fv dl dc dk bd G b9 b10) l).toArray, []⟩ w) :
    (Code.region id ops true).wp Tryz.prog Q ⟨l.toArray, []⟩ wr := by
  have hz : q13Ops.size = 16 := q13_size
  refine wp_region_inv (Inv := I13 q q' k b o n c xn fv dl dc dk bd G l wr) he (by kernel_rfl) (backV_of (by kernel_rfl)) ⟨RI.start l wr, ?_, ?_, ?_, ?_⟩ (q13_step q q' k b o n c xn fv dl dc dk bd G l wr hl h4 h6 h7 hG hb0 hc0 hc1 hkn hkz hcall) ?_
  · intro e; rw [hz] at e; cases e
  · intro e; rw [hz] at e; cases e
  · intro e; rw [hz] at e; cases e
  · intro e; rw [hz] at e; cases e
  · intro a w hI
    have hall : ∀ i, i < q13Ops.size → (Array.replicate q13Ops.size true).getD i false = true := fun i hi => by simp [hi]
    obtain ⟨b9, e1, e2, e3, _⟩ := hI.x9 (hall 11 (by rw [hz]; decide))
    obtain ⟨b10, u1, u2, u3, _⟩ := hI.x10 (hall 12 (by rw [hz]; decide))
    have hfr : a.tmps = (updM (q13Mask q q' k b o n c xn fv dl dc dk bd G b9 b10) l).toArray := by
      refine frame_of (ops := q13Ops) (tab := q13TabE q q' k b o n c xn fv dl dc dk bd G b9 b10) (dl := [52, 53, 54, 55, 56, 57, 58, 51, 59, 60, 61, 9, 10, 11]) (N := 115) hI.ri.size hl (by kernel_rfl) rfl (fun i o' d ho hd => ?_) hI.ri.keep
      by_cases h9 : d = 9
      · subst h9; exact e1
      by_cases h10 : d = 10
      · subst h10; exact u1
      have hdn := hI.ri.done i o' d ho (hall i (Array.getElem?_eq_some_iff.1 ho).1) hd (by simp [h9, h10])
      rw [hdn]
      have hmem : d ∈ ([52, 53, 54, 55, 56, 57, 58, 51, 59, 60, 61, 9, 10, 11] : List Nat) := by
        have hdl : dstIn q13Ops [52, 53, 54, 55, 56, 57, 58, 51, 59, 60, 61, 9, 10, 11] = true := by kernel_rfl
        unfold dstIn at hdl
        rw [Bool.and_eq_true] at hdl
        have h1 := List.all_eq_true.1 hdl.1 o' (Array.mem_toList_iff.2 (Array.mem_of_getElem? ho))
        rw [hd] at h1
        simpa using h1
      simp only [List.mem_cons, List.not_mem_nil, or_false] at hmem
      clear hdn
      rcases hmem with rfl | rfl | rfl | rfl | rfl | rfl | rfl | rfl | rfl | rfl | rfl | rfl | rfl | rfl
      all_goals first | rfl | exact absurd rfl h9 | exact absurd rfl h10
    obtain ⟨tm, df⟩ := a
    have hdf : df = [] := hI.ri.dfr
    dsimp only at hfr
    subst hfr hdf
    exact fin b9 b10 w hI.ri.bel e2 u2 (e3 (hall 13 (by rw [hz]; decide))) (u3 (hall 14 (by rw [hz]; decide)))
end Go.Proofs.YtglkejlimeakbaaGreatDoor

namespace Go.Proofs.YtglkejlimeakbaaGreatDoor
open Go.RowKit

/-- How the reference hands back what was read of a quoted string. -/
def rqV (q : List UInt8 × Nat × Bool) : Value := if q.2.2 then .tuple #[.string (S q.1), .int .i64 q.2.1, .int .i64 (-1)] else .tuple #[.string ⟨#[]⟩, .int .i64 0, .int .i64 q.2.1]
theorem rq_ok {q : List UInt8 × Nat × Bool} (x : List UInt8) (m : Nat) {n : Int} (h : q = (x, m, true)) (hn : n = m) : Ending.returned (.tuple #[.string (S x), .int .i64 n, .int .i64 (-1)]) = .returned (rqV q) := by rw [h, hn]; rfl
theorem rq_bad {q : List UInt8 × Nat × Bool} (m : Nat) {n : Int} (h : q = ([], m, false)) (hn : n = m) : Ending.returned (.tuple #[.string ⟨#[]⟩, .int .i64 0, .int .i64 n]) = .returned (rqV q) := by rw [h, hn]; rfl
theorem printedB_iff (c : UInt8) : printedB c = true ↔ (32 ≤ (c.toNat : Int) ∧ (c.toNat : Int) ≤ 126) := by
  unfold printedB
  simp only [Bool.and_eq_true, decide_eq_true_eq, UInt8.le_iff_toNat_le]
  have e1 : (32 : UInt8).toNat = 32 := rfl
  have e2 : (126 : UInt8).toNat = 126 := rfl
  omega
set_option maxRecDepth 100000 in
set_option maxHeartbeats 1000000 in
theorem ref_quoted (s : ByteArray) (i : Nat) (w : World) (hi : i < s.size) (hs : s.size ≤ 140737488351232) :
    Calls Tryz.prog 111 #[.string s, .int .i64 i] w fun e w' => e = .returned (rqV (quotedAt s (i + 1) [])) ∧ w' = w := by
  obtain ⟨q, hq⟩ : ∃ q, q = quotedAt s (i + 1) [] := ⟨_, rfl⟩
  rw [← hq]
  have HQ := Lib.hid hq
  clear hq
  go_enter Tryz.func111, Tryz.ntmps111
  go_wp2
  go_loop [1, 7] (fun j v => ∃ (k : Nat) (acc : List UInt8), k ≤ s.size ∧ j = .int .i64 k ∧ v = .string (S acc) ∧ acc.length ≤ k ∧ Hid (quotedAt s k acc = q))
    (fun j _ => s.size - (intOf j).toNat)
  case atStart => exact ⟨i + 1, [], by omega, by go_num, rfl, by simp, HQ.out.symm⟩
  case round =>
    obtain ⟨k, acc, hk, rfl, rfl, hacc, hqk⟩ := hrel
    by_cases hlt : k < s.size
    · by_cases h32 : (s[k].toNat : Int) < 32
      · have hp : printedB s[k] = false := by rw [Bool.eq_false_iff]; intro h; have := (printedB_iff _).1 h; omega
        have hc : s[k] ≠ 34 := by intro e; rw [e] at h32; revert h32; decide
        have HN := Lib.hid (quoted_bad s k acc hlt hc hp)
        clear hp hc
        go_wp2
        go_ret3
        exact ⟨rq_bad k (by rw [← hqk.out, HN.out]) rfl, rfl⟩
      · by_cases h126 : (126 : Int) < (s[k].toNat : Int)
        · have hp : printedB s[k] = false := by rw [Bool.eq_false_iff]; intro h; have := (printedB_iff _).1 h; omega
          have hc : s[k] ≠ 34 := by intro e; rw [e] at h126; revert h126; decide
          have HN := Lib.hid (quoted_bad s k acc hlt hc hp)
          clear hp hc
          go_wp2
          go_ret3
          exact ⟨rq_bad k (by rw [← hqk.out, HN.out]) rfl, rfl⟩
        · have hp : printedB s[k] = true := (printedB_iff _).2 (by omega)
          have d1 : decide ((s[k].toNat : Int) < 32) = false := decide_eq_false h32
          have d2 : decide ((126 : Int) < (s[k].toNat : Int)) = false := decide_eq_false h126
          have Hp := Lib.hid hp
          clear hp h32 h126
          by_cases hc : s[k] = 34
          · have c34 : ((s[k].toNat : Int) == 34) = true := by rw [hc]; rfl
            by_cases h2 : k + 1 < s.size
            · have e2 : decide ((s.size : Int) ≤ (k : Int) + 1) = false := decide_eq_false (by omega)
              by_cases hd : s[k + 1] = 34
              · have d34 : ((s[k + 1].toNat : Int) != 34) = false := by rw [hd]; rfl
                have hone := S_one s (k + 1) h2
                rw [hd] at hone
                have HN := Lib.hid (quoted_two s k acc hlt hc h2 hd)
                have a1 := fun W => run_string_add_sum (P := Tryz.prog) W (S acc) (s.extract (k + 1) (k + 1 + 1)) (by rw [S_size, hone, S_size]; simp; omega)
                have HO := Lib.hid hone
                have hi1 : (k : Int) + 1 + 1 ≤ (s.size : Int) := by omega
                clear hc hd hone
                go_wp2
                go_round
                case rel => exact ⟨k + 2, acc ++ [34], by omega, by go_num, by rw [HO.out, S_app], by simp; omega, by unfold Hid; rw [← HN.out]; exact hqk.out⟩
                case measure => simp [intOf]; omega
              · have d34 : ((s[k + 1].toNat : Int) != 34) = true := by rw [bne_iff_ne]; exact fun e => hd (byte_eq 34 e)
                have HN := Lib.hid (quoted_close s k acc hlt hc h2 hd)
                clear hc hd
                go_wp2
                go_ret3
                exact ⟨rq_ok acc (k + 1) (by rw [← hqk.out, HN.out]) (by omega), rfl⟩
            · have e2 : decide ((s.size : Int) ≤ (k : Int) + 1) = true := decide_eq_true (by omega)
              have HN := Lib.hid (quoted_last s k acc hlt hc (by omega))
              clear hc
              go_wp2
              go_ret3
              exact ⟨rq_ok acc (k + 1) (by rw [← hqk.out, HN.out]) (by omega), rfl⟩
          · have c34 : ((s[k].toNat : Int) == 34) = false := beq_eq_false_iff_ne.2 fun e => hc (byte_eq 34 e)
            have hone := S_one s k hlt
            have HN := Lib.hid (quoted_step s k acc hlt hc Hp.out)
            have a1 := fun W => run_string_add_sum (P := Tryz.prog) W (S acc) (s.extract k (k + 1)) (by rw [S_size, hone, S_size]; simp; omega)
            have HO := Lib.hid hone
            have hi1 : (k : Int) + 1 ≤ (s.size : Int) := by omega
            clear hc hone
            go_wp2
            go_round
            case rel => exact ⟨k + 1, acc ++ [s[k]], by omega, by go_num, by rw [HO.out, S_app], by simp; omega, by unfold Hid; rw [← HN.out]; exact hqk.out⟩
            case measure => simp [intOf]; omega
    · have HN := Lib.hid (quoted_end s k acc (by omega))
      go_wp2
      go_ret3
      exact ⟨rq_bad s.size (by rw [← hqk.out, HN.out]) rfl, rfl⟩
end Go.Proofs.YtglkejlimeakbaaGreatDoor

namespace Go.Proofs.YtglkejlimeakbaaGreatDoor
open Go.RowKit

/-- The reference hands back the index of the wrong byte, -1 if there is none. -/
def RFieldsPost (w : World) (q : List Fld × Nat) (e : Ending) (w' : World) : Prop :=
  ∃ v, e = .returned (.tuple #[v, .int .i64 ((q.2 : Int) - 1)]) ∧ Sl 3 elFld w' (fun b => w.heap.size ≤ b ∧ b < w'.heap.size) v q.1 ∧ Below w.heap.size w w'
theorem rfields_done {w w' : World} {q : List Fld × Nat} {v : Value} {n : Int} (x : List Fld) (m : Nat) (h : q = (x, m)) (hv : Sl 3 elFld w' (fun b => w.heap.size ≤ b ∧ b < w'.heap.size) v x) (hn : n = (m : Int) - 1) (hb : Below w.heap.size w w') :
    RFieldsPost w q (.returned (.tuple #[v, .int .i64 n])) w' := ⟨v, by rw [h, hn], by rw [h]; exact hv, hb⟩
theorem fieldsAt_after {s : ByteArray} {k : Nat} {out : List Fld} (h : k < s.size) (hc : whiteB s[k] = true ∨ s[k] = 59) : fieldsAt s k true out = fieldsAt s k false out := by
  rw [fieldsAt_cons s k true out h, fieldsAt_cons s k false out h]
  rcases hc with hc | hc
  · rw [if_pos hc, if_pos hc]
  · split
    · rfl
    · first | rfl | (rw [if_pos hc]; done) | (simp [hc])
theorem fieldsAt_stop {s : ByteArray} {k : Nat} {out : List Fld} (h : k < s.size) (h1 : whiteB s[k] = false) (h2 : s[k] ≠ 59) : fieldsAt s k true out = ([], k + 1) := by
  rw [fieldsAt_cons s k true out h, if_neg (by rw [h1]; simp), if_neg h2, if_pos rfl]
theorem wordLen_zero {s : ByteArray} {k : Nat} (h : k < s.size) (hw : wordB s[k] = false) : k = k + wordLen s k := by
  unfold wordLen
  rw [drop_cons s k h]
  simp [hw]
set_option maxRecDepth 100000 in
set_option maxHeartbeats 4000000 in
theorem ref_fields (s : ByteArray) (w : World) (hs : s.size ≤ 1000000) :
    Calls Tryz.prog 68 #[.string s] w (RFieldsPost w (fieldsS s.data.toList)) := by
  obtain ⟨q, hq⟩ : ∃ q, q = fieldsS s.data.toList := ⟨_, rfl⟩
  rw [← hq]
  have HQ := Lib.hid hq
  clear hq
  go_enter Tryz.func68, Tryz.ntmps68
  go_wp2
  go_loopw [4, 5] (fun v j wr => ∃ (k : Nat) (out : List Fld), k ≤ s.size ∧ j = .int .i64 k ∧ OwnSl 3 elFld 87 w.heap.size wr v out ∧ out.length ≤ k ∧ Hid (fieldsAt s k false out = q) ∧ Below w.heap.size w wr)
    (fun _ j _ => s.size - (intOf j).toNat)
  case atStart => exact ⟨0, [], by omega, by go_num, OwnSl.nil _, by simp, (fieldsAt_zero s).trans HQ.out.symm, Below.refl _ _⟩
  case round =>
    obtain ⟨k, out, hk, rfl, hown, hout, hqk, hbel⟩ := hrel
    have hbs := hbel.size
    by_cases hlt : k < s.size
    · have hat := Lib.hid (fieldsAt_cons s k false out hlt)
      by_cases h59 : s[k] = 59
      · have c59 : ((s[k].toNat : Int) != 59) = false := by rw [h59]; rfl
        have hw : whiteB s[k] = false := by rw [h59]; decide
        have H59 := Lib.hid h59
        have Hw := Lib.hid hw
        clear h59 hw
        go_wp2
        go_ret2
        exact rfields_done out 0 (by rw [← hqk.out, hat.out, if_neg (by rw [Hw.out]; simp), if_pos H59.out]) (hown.sl elFld_good) rfl hbel
      · have c59 : ((s[k].toNat : Int) != 59) = true := by rw [bne_iff_ne]; exact fun e => h59 (byte_eq 59 e)
        have H59 := Lib.hid h59
        clear h59
        cases hw : whiteB s[k]
        · have Hw := Lib.hid hw
          by_cases h34 : s[k] = 34
          · have c34 : ((s[k].toNat : Int) == 34) = true := by rw [h34]; rfl
            have H34 := Lib.hid h34
            clear h34
            have HL := Lib.hid (quotedAt_len s (k + 1) [] hlt)
            obtain ⟨p, hp⟩ : ∃ p, p = quotedAt s (k + 1) [] := ⟨_, rfl⟩
            have HP := Lib.hid hp
            clear hp
            have hcq : ∀ W, Calls Tryz.prog 111 #[.string s, .int .i64 k] W fun e w' => e = .returned (rqV p) ∧ w' = W := by
              intro W; rw [HP.out]; exact ref_quoted s k W hlt (by omega)
            obtain ⟨px, pn, pb⟩ := p
            have hpl : pn ≤ s.size ∧ (pb = true → k + 2 ≤ pn) := by
              have h1 := HL.out
              rw [← HP.out] at h1
              exact ⟨h1.2.1, h1.2.2⟩
            cases pb
            · have hcq' : ∀ W, Calls Tryz.prog 111 #[.string s, .int .i64 k] W fun e w' => e = .returned (.tuple #[.string ⟨#[]⟩, .int .i64 0, .int .i64 pn]) ∧ W = w' := fun W => (hcq W).mono fun _ _ h => ⟨h.1, h.2.symm⟩
              have HCQ := Lib.hid hcq'
              clear hcq hcq'
              go_wp2_with (first | (go_at_call 110; refine (ref_white _ _).mono ?_; rintro e w' ⟨rfl, rfl⟩) | (go_at_call 111; refine (HCQ.out _).mono ?_; rintro e w2 ⟨rfl, rfl⟩))
              go_ret2
              exact rfields_done [] (pn + 1) (by rw [← hqk.out, hat.out, if_neg (by rw [Hw.out]; simp), if_neg H59.out, if_neg (by simp), if_pos H34.out, ← HP.out]; rfl) (Sl.nil _ _) (by omega) hbel
            · have hpn := hpl.2 rfl
              have hpl1 := hpl.1
              have hcq' : ∀ W, Calls Tryz.prog 111 #[.string s, .int .i64 k] W fun e w' => e = .returned (.tuple #[.string (S px), .int .i64 pn, .int .i64 (-1)]) ∧ W = w' := fun W => (hcq W).mono fun _ _ h => ⟨h.1, h.2.symm⟩
              have HCQ := Lib.hid hcq'
              have hnx : fieldsAt s pn true (out ++ [⟨px, (k : Int) + 1, true⟩]) = q := by
                rw [← hqk.out, hat.out, if_neg (by rw [Hw.out]; simp), if_neg H59.out, if_neg (by simp), if_pos H34.out, ← HP.out]; rfl
              clear hcq hcq' hpl
              by_cases hps : pn < s.size
              · by_cases hn59 : s[pn] = 59
                · have n59 : ((s[pn].toNat : Int) != 59) = false := by rw [hn59]; rfl
                  have hnw : whiteB s[pn] = false := by rw [hn59]; decide
                  rw [fieldsAt_after hps (.inr hn59)] at hnx
                  have HNX := Lib.hid hnx
                  have HNW := Lib.hid hnw
                  clear hn59 hnw hnx
                  go_wp2_with (first | (have _t := tokW; go_at_call 110; refine (ref_white _ _).mono ?_; rintro e w' ⟨rfl, rfl⟩; rw [HNW.out]) | (go_at_call 110; refine (ref_white _ _).mono ?_; rintro e w' ⟨rfl, rfl⟩; rw [Hw.out]; have tokW : True := trivial) | (go_at_call 111; refine (HCQ.out _).mono ?_; rintro e w2 ⟨rfl, rfl⟩) | (at_builtin; refine wpList_append_sl _ rfl (.tmp 59) (.tmp 64) _ rfl E_fld elFld_good w.heap.size _ out rfl (hown.alloc elFld_good _) ⟨wr.heap.size, 0, none⟩ 1 [.string (S px), .int .i64 ((k : Int) + 1), .bool true] rfl ⟨px, (k : Int) + 1, true⟩ rfl (cells_new _ _ _ _) (oneCells rfl) rfl (by simp only [maxLen]; omega) (by omega) (by simp; omega) ?_; intro v1 w1 hown1 hg1 hat1))
                  have hb1 := below_own (hbel.alloc hbs _) (hown.alloc elFld_good _) hg1 (Nat.le_refl _) (by simp; omega)
                  go_roundw
                  case rel => exact ⟨pn, _, hpl1, rfl, hown1, by simp; omega, HNX.out, hb1⟩
                  case measure => simp [intOf]; omega
                · have n59 : ((s[pn].toNat : Int) != 59) = true := by rw [bne_iff_ne]; exact fun e => hn59 (byte_eq 59 e)
                  cases hnw : whiteB s[pn]
                  · have HN := Lib.hid (fieldsAt_stop (out := out ++ [⟨px, (k : Int) + 1, true⟩]) hps hnw hn59)
                    have HNX := Lib.hid hnx
                    have HNW := Lib.hid hnw
                    clear hn59 hnx
                    go_wp2_with (first | (have _t := tokW; go_at_call 110; refine (ref_white _ _).mono ?_; rintro e w' ⟨rfl, rfl⟩; rw [HNW.out]) | (go_at_call 110; refine (ref_white _ _).mono ?_; rintro e w' ⟨rfl, rfl⟩; rw [Hw.out]; have tokW : True := trivial) | (go_at_call 111; refine (HCQ.out _).mono ?_; rintro e w2 ⟨rfl, rfl⟩))
                    go_ret2
                    exact rfields_done [] (pn + 1) (by rw [← HNX.out, HN.out]) (Sl.nil _ _) (by omega) hbel
                  · rw [fieldsAt_after hps (.inl hnw)] at hnx
                    have HNX := Lib.hid hnx
                    have HNW := Lib.hid hnw
                    clear hn59 hnx
                    go_wp2_with (first | (have _t := tokW; go_at_call 110; refine (ref_white _ _).mono ?_; rintro e w' ⟨rfl, rfl⟩; rw [HNW.out]) | (go_at_call 110; refine (ref_white _ _).mono ?_; rintro e w' ⟨rfl, rfl⟩; rw [Hw.out]; have tokW : True := trivial) | (go_at_call 111; refine (HCQ.out _).mono ?_; rintro e w2 ⟨rfl, rfl⟩) | (at_builtin; refine wpList_append_sl _ rfl (.tmp 59) (.tmp 64) _ rfl E_fld elFld_good w.heap.size _ out rfl (hown.alloc elFld_good _) ⟨wr.heap.size, 0, none⟩ 1 [.string (S px), .int .i64 ((k : Int) + 1), .bool true] rfl ⟨px, (k : Int) + 1, true⟩ rfl (cells_new _ _ _ _) (oneCells rfl) rfl (by simp only [maxLen]; omega) (by omega) (by simp; omega) ?_; intro v1 w1 hown1 hg1 hat1))
                    have hb1 := below_own (hbel.alloc hbs _) (hown.alloc elFld_good _) hg1 (Nat.le_refl _) (by simp; omega)
                    go_roundw
                    case rel => exact ⟨pn, _, hpl1, rfl, hown1, by simp; omega, HNX.out, hb1⟩
                    case measure => simp [intOf]; omega
              · have hpe : fieldsAt s pn true (out ++ [⟨px, (k : Int) + 1, true⟩]) = fieldsAt s pn false (out ++ [⟨px, (k : Int) + 1, true⟩]) := by rw [fieldsAt_end s pn true _ (by omega), fieldsAt_end s pn false _ (by omega)]
                rw [hpe] at hnx
                have HNX := Lib.hid hnx
                clear hnx hpe
                go_wp2_with (first | (go_at_call 110; refine (ref_white _ _).mono ?_; rintro e w' ⟨rfl, rfl⟩; rw [Hw.out]) | (go_at_call 111; refine (HCQ.out _).mono ?_; rintro e w2 ⟨rfl, rfl⟩) | (at_builtin; refine wpList_append_sl _ rfl (.tmp 59) (.tmp 64) _ rfl E_fld elFld_good w.heap.size _ out rfl (hown.alloc elFld_good _) ⟨wr.heap.size, 0, none⟩ 1 [.string (S px), .int .i64 ((k : Int) + 1), .bool true] rfl ⟨px, (k : Int) + 1, true⟩ rfl (cells_new _ _ _ _) (oneCells rfl) rfl (by simp only [maxLen]; omega) (by omega) (by simp; omega) ?_; intro v1 w1 hown1 hg1 hat1))
                have hb1 := below_own (hbel.alloc hbs _) (hown.alloc elFld_good _) hg1 (Nat.le_refl _) (by simp; omega)
                go_roundw
                case rel => exact ⟨pn, _, hpl1, rfl, hown1, by simp; omega, HNX.out, hb1⟩
                case measure => simp [intOf]; omega
          · have c34 : ((s[k].toNat : Int) == 34) = false := beq_eq_false_iff_ne.2 fun e => h34 (byte_eq 34 e)
            have H34 := Lib.hid h34
            clear h34
            go_wp2_with (go_at_call 110; refine (ref_white _ _).mono ?_; rintro e w' ⟨rfl, rfl⟩; rw [Hw.out])
            go_loop [5] (fun x => ∃ j : Nat, k ≤ j ∧ j ≤ s.size ∧ x = .int .i64 j ∧ Hid (j - k ≤ wordLen s k)) (fun x => s.size - (intOf x).toNat)
            case atStart => exact ⟨k, Nat.le_refl _, hk, rfl, by unfold Hid; omega⟩
            case round =>
              obtain ⟨j, hkj, hjs, rfl, hjw⟩ := hrel
              by_cases hjl : j < s.size
              · cases hwb : wordB s[j]
                · have hst := Lib.hid (word_stop s k j hkj hjl hjw.out hwb)
                  have hhd := Lib.hid ((head_drop s j).trans (dif_pos hjl))
                  have HWB := Lib.hid hwb
                  have hj0 := Lib.hid (wordLen_zero hjl hwb)
                  clear hwb
                  by_cases hsp : whiteB s[j] = true ∨ s[j] = 59
                  · have hjk : ¬ j = k := by
                      rintro rfl
                      rcases hsp with h | h
                      · have hw2 := Hw.out; rw [h] at hw2; cases hw2
                      · exact H59.out h
                    have hj34 : s[j] ≠ 34 := by
                      rcases hsp with h | h
                      · intro e; rw [e] at h; revert h; decide
                      · rw [h]; decide
                    have hnx : fieldsAt s j false (out ++ [⟨(s.extract k j).data.toList, (k : Int) + 1, false⟩]) = q := by
                      rw [← hqk.out, fieldsAt_word s k out j hlt Hw.out H59.out H34.out hst.out hjk (by rw [hhd.out]; exact fun e => hj34 (Option.some.inj e)), word_text s k j hst.out]
                    have HNX := Lib.hid hnx
                    have hkj' : k < j := by omega
                    have hn59 : s[j] = 59 ∨ s[j] ≠ 59 := Classical.em _
                    clear hnx hj34 hjk
                    cases hwj : whiteB s[j]
                    · have h59j : s[j] = 59 := by
                        rcases hsp with h | h
                        · rw [hwj] at h; cases h
                        · exact h
                      have n59 : ((s[j].toNat : Int) != 59) = false := by rw [h59j]; rfl
                      have HWJ := Lib.hid hwj
                      clear hsp hn59 h59j
                      go_wp2_with (first | (go_at_call 110; refine (ref_white _ _).mono ?_; rintro e w' ⟨rfl, rfl⟩; rw [HWJ.out]) | (go_at_call 112; refine (ref_wordByte _ _).mono ?_; rintro e w' ⟨rfl, rfl⟩; rw [HWB.out]) | (at_builtin; refine wpList_append_sl _ rfl (.tmp 97) (.tmp 105) _ rfl E_fld elFld_good w.heap.size _ out rfl (hown.alloc elFld_good _) ⟨wr.heap.size, 0, none⟩ 1 [.string (s.extract k j), .int .i64 ((k : Int) + 1), .bool false] rfl ⟨(s.extract k j).data.toList, (k : Int) + 1, false⟩ rfl (cells_new _ _ _ _) (oneCells rfl) rfl (by simp only [maxLen]; omega) (by omega) (by simp; omega) ?_; intro v1 w1 hown1 hg1 hat1))
                      have hb1 := below_own (hbel.alloc hbs _) (hown.alloc elFld_good _) hg1 (Nat.le_refl _) (by simp; omega)
                      go_roundw
                      case rel => exact ⟨j, _, hjs, rfl, hown1, by simp; omega, HNX.out, hb1⟩
                      case measure => simp [intOf]; omega
                    · have HWJ := Lib.hid hwj
                      clear hsp hn59
                      go_wp2_with (first | (go_at_call 110; refine (ref_white _ _).mono ?_; rintro e w' ⟨rfl, rfl⟩; rw [HWJ.out]) | (go_at_call 112; refine (ref_wordByte _ _).mono ?_; rintro e w' ⟨rfl, rfl⟩; rw [HWB.out]) | (at_builtin; refine wpList_append_sl _ rfl (.tmp 97) (.tmp 105) _ rfl E_fld elFld_good w.heap.size _ out rfl (hown.alloc elFld_good _) ⟨wr.heap.size, 0, none⟩ 1 [.string (s.extract k j), .int .i64 ((k : Int) + 1), .bool false] rfl ⟨(s.extract k j).data.toList, (k : Int) + 1, false⟩ rfl (cells_new _ _ _ _) (oneCells rfl) rfl (by simp only [maxLen]; omega) (by omega) (by simp; omega) ?_; intro v1 w1 hown1 hg1 hat1))
                      have hb1 := below_own (hbel.alloc hbs _) (hown.alloc elFld_good _) hg1 (Nat.le_refl _) (by simp; omega)
                      go_roundw
                      case rel => exact ⟨j, _, hjs, rfl, hown1, by simp; omega, HNX.out, hb1⟩
                      case measure => simp [intOf]; omega
                  · have hw2 : whiteB s[j] = false := by rw [Bool.eq_false_iff]; exact fun h => hsp (.inl h)
                    have h592 : s[j] ≠ 59 := fun h => hsp (.inr h)
                    have n59 : ((s[j].toNat : Int) != 59) = true := by rw [bne_iff_ne]; exact fun e => h592 (byte_eq 59 e)
                    have hfin : q = ([], j + 1) := by
                      by_cases hb : j = k ∨ s[j] = 34
                      · rw [← hqk.out]
                        refine fieldsAt_word_bad s k out j hlt Hw.out H59.out H34.out hst.out ?_
                        rcases hb with hb | hb
                        · exact .inl hb
                        · exact .inr (by rw [hhd.out, hb])
                      · have hjk : ¬ j = k := fun h => hb (.inl h)
                        have hj34 : s[j] ≠ 34 := fun h => hb (.inr h)
                        rw [← hqk.out, fieldsAt_word s k out j hlt Hw.out H59.out H34.out hst.out hjk (by rw [hhd.out]; exact fun e => hj34 (Option.some.inj e))]
                        exact fieldsAt_word_bad s j _ j hjl hw2 h592 hj34 hj0.out (.inl rfl)
                    have HF := Lib.hid hfin
                    have HWJ := Lib.hid hw2
                    clear hfin hw2 h592 hsp
                    go_wp2_with (first | (go_at_call 110; refine (ref_white _ _).mono ?_; rintro e w' ⟨rfl, rfl⟩; rw [HWJ.out]) | (go_at_call 112; refine (ref_wordByte _ _).mono ?_; rintro e w' ⟨rfl, rfl⟩; rw [HWB.out]))
                    go_ret2
                    exact rfields_done [] (j + 1) HF.out (Sl.nil _ _) (by omega) hbel
                · have hnx := Lib.hid (word_next s k j hkj hjl hjw.out hwb)
                  have HWB := Lib.hid hwb
                  clear hwb
                  go_wp2_with (go_at_call 112; refine (ref_wordByte _ _).mono ?_; rintro e w' ⟨rfl, rfl⟩; rw [HWB.out])
                  go_round
                  case rel => exact ⟨j + 1, by omega, by omega, by go_num, hnx.out⟩
                  case measure => simp [intOf]; omega
              · obtain rfl : j = s.size := by omega
                have hst := Lib.hid (word_full s k hk hjw.out)
                have hhd := Lib.hid ((head_drop s s.size).trans (dif_neg (by omega)))
                have hnx : fieldsAt s s.size false (out ++ [⟨(s.extract k s.size).data.toList, (k : Int) + 1, false⟩]) = q := by
                  rw [← hqk.out, fieldsAt_word s k out s.size hlt Hw.out H59.out H34.out hst.out (by omega) (by rw [hhd.out]; simp), word_text s k s.size hst.out]
                have HNX := Lib.hid hnx
                clear hnx
                go_wp2_with (at_builtin; refine wpList_append_sl _ rfl (.tmp 97) (.tmp 105) _ rfl E_fld elFld_good w.heap.size _ out rfl (hown.alloc elFld_good _) ⟨wr.heap.size, 0, none⟩ 1 [.string (s.extract k s.size), .int .i64 ((k : Int) + 1), .bool false] rfl ⟨(s.extract k s.size).data.toList, (k : Int) + 1, false⟩ rfl (cells_new _ _ _ _) (oneCells rfl) rfl (by simp only [maxLen]; omega) (by omega) (by simp; omega) ?_; intro v1 w1 hown1 hg1 hat1)
                have hb1 := below_own (hbel.alloc hbs _) (hown.alloc elFld_good _) hg1 (Nat.le_refl _) (by simp; omega)
                go_roundw
                case rel => exact ⟨s.size, _, Nat.le_refl _, rfl, hown1, by simp; omega, HNX.out, hb1⟩
                case measure => simp [intOf]; omega
        · have Hw := Lib.hid hw
          go_wp2_with (go_at_call 110; refine (ref_white _ _).mono ?_; rintro e w' ⟨rfl, rfl⟩; rw [Hw.out])
          go_roundw
          case rel => exact ⟨k + 1, out, by omega, by go_num, hown, by omega, by unfold Hid; rw [← hqk.out, hat.out, if_pos Hw.out], hbel⟩
          case measure => simp [intOf]; omega
    · go_wp2
      go_ret2
      exact rfields_done out 0 (by rw [← hqk.out, fieldsAt_end s k false out (by omega)]) (hown.sl elFld_good) rfl hbel
end Go.Proofs.YtglkejlimeakbaaGreatDoor

namespace Go.Proofs.YtglkejlimeakbaaGreatDoor

def stepU (p : List UInt8) (n : Int) (out : List Lin) (ds : List Dia) : List Lin × List Dia :=
  if 1000 < p.length then (out, ds ++ [⟨n, 1001, 9⟩])
  else if (fieldsS p).2 ≠ 0 then (out, ds ++ [⟨n, (fieldsS p).2, 4⟩])
  else if (fieldsS p).1 ≠ [] then (out ++ [⟨n, (fieldsS p).1⟩], ds) else (out, ds)
def splitU : List (List UInt8) → Int → List Lin → List Dia → List Lin × List Dia
  | [], _, out, ds => (out, ds)
  | p :: ps, n, out, ds => splitU ps (n + 1) (stepU p n out ds).1 (stepU p n out ds).2
theorem take50 (ds : List Dia) (x : Dia) : (if (ds.take 50).length < 50 then ds.take 50 ++ [x] else ds.take 50) = (ds ++ [x]).take 50 := by
  by_cases h : ds.length < 50
  · rw [List.take_of_length_le (by omega), if_pos h, List.take_of_length_le (by simp; omega)]
  · rw [if_neg (by simp; omega), List.take_append_of_le_length (by omega)]
theorem splitF_U : ∀ (ps : List (List UInt8)) (n : Int) (out : List Lin) (ds : List Dia), splitF ps n out (ds.take 50) = ((splitU ps n out ds).1, (splitU ps n out ds).2.take 50) := by
  intro ps
  induction ps with
  | nil => intro n out ds; rfl
  | cons p ps ih =>
    intro n out ds
    rw [splitF, splitU]
    unfold stepU
    split
    · rw [take50, ih]
    · split
      · rw [take50, ih]
      · split
        · rw [ih]
        · rw [ih]
theorem splitS_U {l : List UInt8} (h : ¬ 262144 < l.length) : splitS l = ((splitU (pieces 10 l) 1 [] []).1, (splitU (pieces 10 l) 1 [] []).2.take 50) := by
  unfold splitS
  rw [if_neg h]
  exact splitF_U _ 1 [] []
theorem pieces_none : ∀ (l : List UInt8), (10 : UInt8) ∉ l → pieces 10 l = [l] := by
  intro l
  induction l with
  | nil => intro _; rfl
  | cons b l ih =>
    intro h
    rw [pieces, if_neg (fun e => h (by simp [e])), ih (fun hm => h (by simp [hm]))]
/-- Where the loop over the bytes of a source stands: index k, the line began at st. -/
def SpInv (s : ByteArray) (k st : Nat) (n : Int) (out : List Lin) (ds : List Dia) (res : List Lin × List Dia) : Prop :=
  (k ≤ s.size ∧ st ≤ k ∧ (∀ j (h : j < s.size), st ≤ j → j < k → s[j] ≠ 10) ∧ splitU (pieces 10 (s.data.toList.drop st)) n out ds = res) ∨ (k = s.size + 1 ∧ (out, ds) = res)
theorem SpInv.start (s : ByteArray) : SpInv s 0 0 1 [] [] (splitU (pieces 10 s.data.toList) 1 [] []) := .inl ⟨Nat.zero_le _, Nat.le_refl _, fun j _ _ h => absurd h (by omega), rfl⟩
theorem SpInv.next {s : ByteArray} {k st : Nat} {n : Int} {out : List Lin} {ds : List Dia} {res : List Lin × List Dia} (h : SpInv s k st n out ds res) (hk : k < s.size) (hc : s[k] ≠ 10) : SpInv s (k + 1) st n out ds res := by
  rcases h with ⟨_, h2, h3, h4⟩ | ⟨h1, _⟩
  · refine .inl ⟨hk, by omega, fun j hj h5 h6 => ?_, h4⟩
    by_cases e : j = k
    · subst e; exact hc
    · exact h3 j hj h5 (by omega)
  · omega
theorem SpInv.line {s : ByteArray} {k st : Nat} {n : Int} {out : List Lin} {ds : List Dia} {res : List Lin × List Dia} (h : SpInv s k st n out ds res) (hk : k ≤ s.size) (hc : k = s.size ∨ ∃ h : k < s.size, s[k] = 10) :
    st ≤ k ∧ SpInv s (k + 1) (k + 1) (n + 1) (stepU (s.extract st k).data.toList n out ds).1 (stepU (s.extract st k).data.toList n out ds).2 res := by
  rcases h with ⟨_, h2, h3, h4⟩ | ⟨h1, _⟩
  · refine ⟨h2, ?_⟩
    have hx : (s.extract st k).data.toList = (s.data.toList.drop st).take (k - st) := by rw [Lib.extract_data]
    have hno : (10 : UInt8) ∉ (s.extract st k).data.toList := by
      rw [hx]
      intro hm
      obtain ⟨i, hi⟩ := List.mem_iff_getElem?.1 hm
      have hlt := (List.getElem?_eq_some_iff.1 hi).1
      rw [List.getElem?_take] at hi
      split at hi
      · rename_i hik
        rw [List.getElem?_drop] at hi
        have hsz : st + i < s.size := by omega
        have := h3 (st + i) hsz (by omega) (by omega)
        have e : s.data.toList[st + i]? = some s[st + i] := by
          rw [List.getElem?_eq_getElem (by simpa using hsz)]; rfl
        rw [e] at hi
        exact this (Option.some.inj hi)
      · cases hi
    by_cases hke : k = s.size
    · right
      refine ⟨by omega, ?_⟩
      have hall : (s.extract st k).data.toList = s.data.toList.drop st := by rw [hx, List.take_of_length_le (by simp; omega)]
      rw [hall] at hno ⊢
      rw [pieces_none _ hno, splitU, splitU] at h4
      exact h4
    · rcases hc with hc | ⟨hlt, hc⟩
      · exact absurd hc hke
      · left
        refine ⟨by omega, Nat.le_refl _, fun j _ h5 h6 => by omega, ?_⟩
        have hsp : s.data.toList.drop st = (s.extract st k).data.toList ++ 10 :: s.data.toList.drop (k + 1) := by
          rw [hx]
          have e1 : (s.data.toList.drop st).drop (k - st) = 10 :: s.data.toList.drop (k + 1) := by
            rw [List.drop_drop, show st + (k - st) = k from by omega, drop_cons s k hlt, hc]
          rw [← e1, List.take_append_drop]
        rw [hsp, pieces_line _ _ hno, splitU] at h4
        exact h4
  · omega
theorem SpInv.done {s : ByteArray} {k st : Nat} {n : Int} {out : List Lin} {ds : List Dia} {res : List Lin × List Dia} (h : SpInv s k st n out ds res) (hk : s.size < k) : (out, ds) = res := by
  rcases h with ⟨h1, _⟩ | ⟨_, h⟩
  · omega
  · exact h
end Go.Proofs.YtglkejlimeakbaaGreatDoor

namespace Go.Proofs.YtglkejlimeakbaaGreatDoor
open Go.RowKit

set_option maxRecDepth 100000 in
set_option maxHeartbeats 4000000 in
theorem ref_SplitN (s : ByteArray) (w : World) (hs : s.size ≤ 140737488351232) :
    Calls Tryz.prog 29 #[.string s] w (SplitPostN w (splitS s.data.toList)) := by
  obtain ⟨q, hq⟩ : ∃ q, q = splitS s.data.toList := ⟨_, rfl⟩
  rw [← hq]
  have hL : s.data.toList.length = s.size := by simp
  by_cases hbig : (262144 : Int) < (s.size : Int)
  · have hq2 : q = ([], [⟨1, 1, 9⟩]) := by rw [hq, splitS, if_pos (by rw [hL]; omega)]
    have HQ := Lib.hid hq2
    clear hq hq2 hL
    go_enter Tryz.func29, Tryz.ntmps29
    go_wp2
    go_ret2
    rw [HQ.out]
    exact split_doneN (Sl.nil _ _) (Sl.fresh1 w _ [.int .i64 1, .int .i64 1, .int .i64 9] _ _ rfl (by simp) rfl) ((Below.refl _ _).alloc (Nat.le_refl _) _) (fun e => by cases e)
  · rw [splitS_U (by rw [hL]; omega)] at hq
    have hst := SpInv.start s
    obtain ⟨res, hres⟩ : ∃ r, r = splitU (pieces 10 s.data.toList) 1 [] [] := ⟨_, rfl⟩
    rw [← hres] at hq hst
    have HQ := Lib.hid hq
    have HST := Lib.hid hst
    clear hq hst hres hL
    have hsz : s.size ≤ 262144 := by omega
    go_enter Tryz.func29, Tryz.ntmps29
    go_wp2
    go_loopw [4, 5, 6, 7, 8] (fun v d nn ss i wr => ∃ (k st n : Nat) (out : List Lin) (ds : List Dia), k ≤ s.size + 1 ∧ st ≤ k ∧ n ≤ k + 1 ∧ i = .int .i64 k ∧ ss = .int .i64 st ∧ nn = .int .i64 n ∧ SplitInvN w.heap.size w wr v d out ds ∧ out.length ≤ k ∧ ds.length ≤ k ∧ Hid (SpInv s k st n out ds res))
      (fun _ _ _ _ i _ => s.size + 1 - (intOf i).toNat)
    case atStart => exact ⟨0, 0, 1, [], [], by omega, by omega, by omega, rfl, rfl, rfl, ⟨⟨OwnG.nil _, OwnSl.nil _, Below.refl _ _, Nat.le_refl _⟩, fun _ => rfl⟩, by simp, by simp, HST.out⟩
    case round =>
      obtain ⟨k, st, n, out, ds, hk, hstk, hn, rfl, rfl, rfl, hinv, hout, hds, hsp⟩ := hrel
      have hzr := hinv.hz
      obtain ⟨Ad, cd, hvd, hcd, hcd'⟩ := (OwnSl.sl elDia_good hinv.hd).shape
      subst hvd
      by_cases hle : k ≤ s.size
      · by_cases hgo : ∃ h : k < s.size, s[k] ≠ 10
        · obtain ⟨hlt, h10⟩ := hgo
          have c10 : ((s[k].toNat : Int) != 10) = true := by rw [bne_iff_ne]; exact fun e => h10 (byte_eq 10 e)
          have HN := Lib.hid (hsp.out.next hlt h10)
          clear h10
          go_wp2
          go_roundw
          case rel => exact ⟨k + 1, st, n, out, ds, by omega, by omega, by omega, by go_num, rfl, rfl, hinv, by omega, by omega, HN.out⟩
          case measure => simp [intOf]; omega
        · have hc : k = s.size ∨ ∃ h : k < s.size, s[k] = 10 := by
            by_cases h : k < s.size
            · exact .inr ⟨h, Classical.byContradiction fun e => hgo ⟨h, e⟩⟩
            · exact .inl (by omega)
          obtain ⟨hst2, hln⟩ := hsp.out.line hle hc
          have hps : (s.extract st k).size ≤ 262144 := by simp; omega
          have hpl : (s.extract st k).data.toList.length = (s.extract st k).size := by rw [Array.length_toList]; rfl
          have hfd := fun W => ref_fields (s.extract st k) W (by omega)
          clear hgo
          rcases hc with hke | ⟨hlt, h10⟩
          · have hge : ¬ (k : Int) < (s.size : Int) := by omega
            clear hke
            go_wp2_with fail
            generalize s.extract st k = P at *
            obtain ⟨⟨fl, col⟩, hfc⟩ : ∃ fc, fc = fieldsS P.data.toList := ⟨_, rfl⟩
            have hfl := fieldsS_len P.data.toList
            have hlk := hln
            unfold stepU at hlk
            rw [← hfc] at hfd hfl hlk
            rw [hpl] at hfl hlk
            obtain ⟨bad, hbd⟩ : ∃ b : Int, b = (col : Int) - 1 := ⟨_, rfl⟩
            have hcall : Calls Tryz.prog 68 #[.string P] wr fun e w2 => ∃ A2 c2, e = .returned (.tuple #[.slice A2 fl.length c2, .int .i64 bad]) ∧ Sl 3 elFld w2 (fun b => wr.heap.size ≤ b ∧ b < w2.heap.size) (.slice A2 fl.length c2) fl ∧ Below wr.heap.size wr w2 := by
              refine (hfd wr).mono ?_
              rintro e w2 ⟨v2, rfl, hv2, hb2⟩
              obtain ⟨A2, c2, rfl, _⟩ := hv2.shape
              exact ⟨A2, c2, by rw [hbd], hv2, hb2⟩
            have hb0 : -1 ≤ bad := by omega
            have hb1 : bad ≤ 300000 := by omega
            have HFC := Lib.hid hfc
            have HBD := Lib.hid hbd
            clear hfd hfc hbd hln hsp hpl
            simp only at hlk
            refine hcall.mono ?_
            rintro e w2 ⟨A2, c2, rfl, hv2, hb2⟩
            have HV2 := Lib.hid hv2
            clear hcall hv2
            have hs2 := hb2.size
            by_cases hbigl : (1000 : Int) < (P.size : Int)
            · rw [if_pos (by omega)] at hlk
              have HLK := Lib.hid hlk
              clear hlk
              go_wp2_with (at_builtin; refine wpList_append_sl _ rfl (.tmp 46) (.tmp 49) _ rfl E_dia elDia_good w.heap.size _ ds rfl ((hinv.below hb2).hd.alloc elDia_good _) ⟨w2.heap.size, 0, none⟩ 1 [.int .i64 (n : Int), .int .i64 1001, .int .i64 9] rfl ⟨(n : Int), 1001, 9⟩ rfl (cells_new _ _ _ _) (oneCells rfl) rfl (by simp only [maxLen]; omega) (by omega) (by simp; omega) ?_; intro v4 w4 hown4 hg4 hat4)
              have hi4 := ((hinv.below hb2).below ((Below.refl _ _).alloc (Nat.le_refl _) _)).diag hown4 hg4 hat4
              go_roundw
              case rel => exact ⟨k + 1, k + 1, n + 1, out, _, by omega, by omega, by omega, by go_num, by go_num, by go_num, hi4, by omega, by simp; omega, by unfold Hid; exact HLK.out⟩
              case measure => simp [intOf]; omega
            · rw [if_neg (by omega)] at hlk
              by_cases hcol : col = 0
              · rw [if_neg (by simp [hcol])] at hlk
                have hbn : bad < 0 := by have := HBD.out; omega
                cases fl with
                | nil =>
                  rw [if_neg (by simp)] at hlk
                  have HLK := Lib.hid hlk
                  clear hlk hcol
                  go_wp2
                  go_roundw
                  case rel => exact ⟨k + 1, k + 1, n + 1, out, ds, by omega, by omega, by omega, by go_num, by go_num, by go_num, hinv.below hb2, by omega, by omega, by unfold Hid; exact HLK.out⟩
                  case measure => simp [intOf]; omega
                | cons f0 fl =>
                  obtain ⟨fl', hfl'⟩ : ∃ fl', fl' = f0 :: fl := ⟨_, rfl⟩
                  rw [← hfl'] at HFC hfl hlk HV2 ⊢
                  have hfp : (0 : Int) < (fl'.length : Int) := by rw [hfl']; simp
                  rw [if_pos (by rw [hfl']; simp)] at hlk
                  have HLK := Lib.hid hlk
                  clear hfl' hlk hcol
                  go_wp2_with (at_builtin; refine wpList_append_g _ rfl (.tmp 65) (.tmp 69) _ rfl E_lin elLin_good w.heap.size _ (lineG w.heap.size (w2.alloc _) _ _) out rfl ((hinv.below hb2).below ((Below.refl _ _).alloc (Nat.le_refl _) _)).hv ⟨w2.heap.size, 0, none⟩ 1 [.int .i64 (n : Int), .slice A2 fl'.length c2] rfl ⟨(n : Int), fl'⟩ rfl (cells_new _ _ _ _) (oneCells rfl) (fun b hb => ⟨hb.2.1, hb.2.2.1⟩) (hinv.fields_el hb2 HV2.out _) (by simp only [maxLen]; omega) (by omega) (by simp; omega) ?_; intro v4 w4 hown4 hg4 hat4)
                  have hi4 := ((hinv.below hb2).below ((Below.refl _ _).alloc (Nat.le_refl _) _)).line hown4 hg4 hat4
                  go_roundw
                  case rel => exact ⟨k + 1, k + 1, n + 1, _, ds, by omega, by omega, by omega, by go_num, by go_num, by go_num, hi4, by simp; omega, by omega, by unfold Hid; exact HLK.out⟩
                  case measure => simp [intOf]; omega
              · rw [if_pos hcol] at hlk
                have hbn : 0 ≤ bad := by have := HBD.out; omega
                have hbc : (col : Int) = bad + 1 := by have := HBD.out; omega
                rw [hbc] at hlk
                have HLK := Lib.hid hlk
                clear hlk hcol hbc
                go_wp2_with (at_builtin; refine wpList_append_sl _ rfl (.tmp 54) (.tmp 59) _ rfl E_dia elDia_good w.heap.size _ ds rfl ((hinv.below hb2).hd.alloc elDia_good _) ⟨w2.heap.size, 0, none⟩ 1 [.int .i64 (n : Int), .int .i64 (bad + 1), .int .i64 4] rfl ⟨(n : Int), bad + 1, 4⟩ rfl (cells_new _ _ _ _) (oneCells rfl) rfl (by simp only [maxLen]; omega) (by omega) (by simp; omega) ?_; intro v4 w4 hown4 hg4 hat4)
                have hi4 := ((hinv.below hb2).below ((Below.refl _ _).alloc (Nat.le_refl _) _)).diag hown4 hg4 hat4
                go_roundw
                case rel => exact ⟨k + 1, k + 1, n + 1, out, _, by omega, by omega, by omega, by go_num, by go_num, by go_num, hi4, by omega, by simp; omega, by unfold Hid; exact HLK.out⟩
                case measure => simp [intOf]; omega
          · have c10 : ((s[k].toNat : Int) != 10) = false := by rw [h10]; rfl
            clear h10
            go_wp2_with fail
            clear c10
            generalize s.extract st k = P at *
            obtain ⟨⟨fl, col⟩, hfc⟩ : ∃ fc, fc = fieldsS P.data.toList := ⟨_, rfl⟩
            have hfl := fieldsS_len P.data.toList
            have hlk := hln
            unfold stepU at hlk
            rw [← hfc] at hfd hfl hlk
            rw [hpl] at hfl hlk
            obtain ⟨bad, hbd⟩ : ∃ b : Int, b = (col : Int) - 1 := ⟨_, rfl⟩
            have hcall : Calls Tryz.prog 68 #[.string P] wr fun e w2 => ∃ A2 c2, e = .returned (.tuple #[.slice A2 fl.length c2, .int .i64 bad]) ∧ Sl 3 elFld w2 (fun b => wr.heap.size ≤ b ∧ b < w2.heap.size) (.slice A2 fl.length c2) fl ∧ Below wr.heap.size wr w2 := by
              refine (hfd wr).mono ?_
              rintro e w2 ⟨v2, rfl, hv2, hb2⟩
              obtain ⟨A2, c2, rfl, _⟩ := hv2.shape
              exact ⟨A2, c2, by rw [hbd], hv2, hb2⟩
            have hb0 : -1 ≤ bad := by omega
            have hb1 : bad ≤ 300000 := by omega
            have HFC := Lib.hid hfc
            have HBD := Lib.hid hbd
            clear hfd hfc hbd hln hsp hpl
            simp only at hlk
            refine hcall.mono ?_
            rintro e w2 ⟨A2, c2, rfl, hv2, hb2⟩
            have HV2 := Lib.hid hv2
            clear hcall hv2
            have hs2 := hb2.size
            by_cases hbigl : (1000 : Int) < (P.size : Int)
            · rw [if_pos (by omega)] at hlk
              have HLK := Lib.hid hlk
              clear hlk
              go_wp2_with (at_builtin; refine wpList_append_sl _ rfl (.tmp 46) (.tmp 49) _ rfl E_dia elDia_good w.heap.size _ ds rfl ((hinv.below hb2).hd.alloc elDia_good _) ⟨w2.heap.size, 0, none⟩ 1 [.int .i64 (n : Int), .int .i64 1001, .int .i64 9] rfl ⟨(n : Int), 1001, 9⟩ rfl (cells_new _ _ _ _) (oneCells rfl) rfl (by simp only [maxLen]; omega) (by omega) (by simp; omega) ?_; intro v4 w4 hown4 hg4 hat4)
              have hi4 := ((hinv.below hb2).below ((Below.refl _ _).alloc (Nat.le_refl _) _)).diag hown4 hg4 hat4
              go_roundw
              case rel => exact ⟨k + 1, k + 1, n + 1, out, _, by omega, by omega, by omega, by go_num, by go_num, by go_num, hi4, by omega, by simp; omega, by unfold Hid; exact HLK.out⟩
              case measure => simp [intOf]; omega
            · rw [if_neg (by omega)] at hlk
              by_cases hcol : col = 0
              · rw [if_neg (by simp [hcol])] at hlk
                have hbn : bad < 0 := by have := HBD.out; omega
                cases fl with
                | nil =>
                  rw [if_neg (by simp)] at hlk
                  have HLK := Lib.hid hlk
                  clear hlk hcol
                  go_wp2
                  go_roundw
                  case rel => exact ⟨k + 1, k + 1, n + 1, out, ds, by omega, by omega, by omega, by go_num, by go_num, by go_num, hinv.below hb2, by omega, by omega, by unfold Hid; exact HLK.out⟩
                  case measure => simp [intOf]; omega
                | cons f0 fl =>
                  obtain ⟨fl', hfl'⟩ : ∃ fl', fl' = f0 :: fl := ⟨_, rfl⟩
                  rw [← hfl'] at HFC hfl hlk HV2 ⊢
                  have hfp : (0 : Int) < (fl'.length : Int) := by rw [hfl']; simp
                  rw [if_pos (by rw [hfl']; simp)] at hlk
                  have HLK := Lib.hid hlk
                  clear hfl' hlk hcol
                  go_wp2_with (at_builtin; refine wpList_append_g _ rfl (.tmp 65) (.tmp 69) _ rfl E_lin elLin_good w.heap.size _ (lineG w.heap.size (w2.alloc _) _ _) out rfl ((hinv.below hb2).below ((Below.refl _ _).alloc (Nat.le_refl _) _)).hv ⟨w2.heap.size, 0, none⟩ 1 [.int .i64 (n : Int), .slice A2 fl'.length c2] rfl ⟨(n : Int), fl'⟩ rfl (cells_new _ _ _ _) (oneCells rfl) (fun b hb => ⟨hb.2.1, hb.2.2.1⟩) (hinv.fields_el hb2 HV2.out _) (by simp only [maxLen]; omega) (by omega) (by simp; omega) ?_; intro v4 w4 hown4 hg4 hat4)
                  have hi4 := ((hinv.below hb2).below ((Below.refl _ _).alloc (Nat.le_refl _) _)).line hown4 hg4 hat4
                  go_roundw
                  case rel => exact ⟨k + 1, k + 1, n + 1, _, ds, by omega, by omega, by omega, by go_num, by go_num, by go_num, hi4, by simp; omega, by omega, by unfold Hid; exact HLK.out⟩
                  case measure => simp [intOf]; omega
              · rw [if_pos hcol] at hlk
                have hbn : 0 ≤ bad := by have := HBD.out; omega
                have hbc : (col : Int) = bad + 1 := by have := HBD.out; omega
                rw [hbc] at hlk
                have HLK := Lib.hid hlk
                clear hlk hcol hbc
                go_wp2_with (at_builtin; refine wpList_append_sl _ rfl (.tmp 54) (.tmp 59) _ rfl E_dia elDia_good w.heap.size _ ds rfl ((hinv.below hb2).hd.alloc elDia_good _) ⟨w2.heap.size, 0, none⟩ 1 [.int .i64 (n : Int), .int .i64 (bad + 1), .int .i64 4] rfl ⟨(n : Int), bad + 1, 4⟩ rfl (cells_new _ _ _ _) (oneCells rfl) rfl (by simp only [maxLen]; omega) (by omega) (by simp; omega) ?_; intro v4 w4 hown4 hg4 hat4)
                have hi4 := ((hinv.below hb2).below ((Below.refl _ _).alloc (Nat.le_refl _) _)).diag hown4 hg4 hat4
                go_roundw
                case rel => exact ⟨k + 1, k + 1, n + 1, out, _, by omega, by omega, by omega, by go_num, by go_num, by go_num, hi4, by omega, by simp; omega, by unfold Hid; exact HLK.out⟩
                case measure => simp [intOf]; omega
      · have hdn := hsp.out.done (by omega)
        have hmn : (min (ds.length : Int) 50).toNat = min ds.length 50 := by omega
        have hm0 : (0 : Int) ≤ min (ds.length : Int) 50 := by omega
        have hm1 : min (ds.length : Int) 50 ≤ (cd : Int) := by omega
        have hm2 : min (ds.length : Int) 50 ≤ (ds.length : Int) := by omega
        have hfin : q = (out, ds.take 50) := by rw [HQ.out, ← hdn]
        have HF := Lib.hid hfin
        have HI := Lib.hid hinv
        have HMN := Lib.hid hmn
        clear hdn hfin hinv hsp hmn
        go_wp2
        go_region
        go_wp2
        go_ret2
        rw [HF.out, HMN.out]
        have hvs := HI.out.hv.sl elLin_good (F := fun b => w.heap.size ≤ b ∧ b < wr.heap.size) (fun b hb => ⟨hb.1, hb.2.1⟩) (fun b h1 h2 => ⟨h1, h2⟩)
        have hdss := OwnG.sl elDia_good (F := fun b => w.heap.size ≤ b ∧ b < wr.heap.size) HI.out.hd (fun b hb => hb.elim) (fun b h1 h2 => ⟨h1, h2⟩)
        have htk := hdss.take (k := min ds.length 50) (by omega)
        have he : ds.take (min ds.length 50) = ds.take 50 := by
          by_cases h : ds.length ≤ 50
          · rw [Nat.min_eq_left h, List.take_of_length_le (Nat.le_refl _), List.take_of_length_le h]
          · rw [Nat.min_eq_right (by omega)]
        rw [he] at htk
        refine split_doneN (hvs.keep elLin_good (fun _ _ => rfl) fun _ h => h) (htk.keep elDia_good (fun _ _ => rfl) fun _ h => h) (Below.drew HI.out.hb) fun e => ?_
        have e0 : ds = [] := by
          cases ds with
          | nil => rfl
          | cons a l => simp at e
        have h := HI.out.hn e0
        injection h with h1 h2 h3
        rw [h1, h3, e0]; rfl
theorem ref_Split (s : ByteArray) (w : World) (hs : s.size ≤ 140737488351232) :
    Calls Tryz.prog 29 #[.string s] w (SplitPost w (splitS s.data.toList)) := (ref_SplitN s w hs).mono fun _ _ h => h.old
end Go.Proofs.YtglkejlimeakbaaGreatDoor

namespace Go.Proofs.YtglkejlimeakbaaGreatDoor
open Go.RowKit

theorem Sl.dropL {α : Type} {size : Nat} {R : World → (Nat → Prop) → List Value → α → Prop} {w : World} {F : Nat → Prop} {b o n c : Nat} {l : List α} (h : Sl size R w F (.slice (some ⟨b, o, none⟩) n c) l) {k : Nat} (hk : k ≤ l.length) :
    Sl size R w F (.slice (some ⟨b, o + k * size, none⟩) (l.length - k) (c - k)) (l.drop k) := by
  obtain ⟨A, c', hv, h1, h2, h3⟩ := h
  injection hv with q1 q2 q3
  subst q1 q3
  refine ⟨_, c - k, by rw [List.length_drop], by rw [List.length_drop]; omega, by omega, fun h0 => ?_⟩
  rw [List.length_drop] at h0
  obtain ⟨b', o', e, hF, hel⟩ := h3 (by omega)
  injection e with e
  injection e with e1 e2 e3
  subst e1 e2
  refine ⟨b, o + k * size, rfl, hF, fun i a hi => ?_⟩
  rw [List.getElem?_drop] at hi
  obtain ⟨cs, u1, u2, u3⟩ := hel (k + i) a hi
  exact ⟨cs, u1, fun j u hj => by
    have := u2 j u hj
    rw [show o + k * size + i * size + j = o + (k + i) * size + j by rw [Nat.add_mul]; omega]
    exact this, u3⟩
theorem Sl.restL {α : Type} {size : Nat} {R : World → (Nat → Prop) → List Value → α → Prop} {w : World} {F : Nat → Prop} {b o n c : Nat} {l : List α} (h : Sl size R w F (.slice (some ⟨b, o, none⟩) n c) l) {k : Nat} (hk : k ≤ l.length) :
    Sl size R w F (.slice (some ⟨b, if c = k then o else o + k * size, none⟩) (l.length - k) (c - k)) (l.drop k) := by
  by_cases hc : c = k
  · obtain ⟨A, c', hv, h1, h2, _⟩ := h
    injection hv with _ _ hv3
    subst hv3
    have hl : l.length = k := by omega
    exact ⟨_, c - k, by rw [List.length_drop], by rw [List.length_drop]; omega, by omega, fun h0 => by rw [List.length_drop] at h0; omega⟩
  · rw [if_neg hc]
    exact h.dropL hk
theorem readR_head {k : Nat} (hk : k < 12) (q : Rul) (c : Cur) : (readR q k c).1.power = q.power := by
  have h : k = 0 ∨ k = 1 ∨ k = 2 ∨ k = 3 ∨ k = 4 ∨ k = 5 ∨ k = 6 ∨ k = 7 ∨ k = 8 ∨ k = 9 ∨ k = 10 ∨ k = 11 := by omega
  rcases h with rfl | rfl | rfl | rfl | rfl | rfl | rfl | rfl | rfl | rfl | rfl | rfl <;> rfl
/-- While a powerplay's line is read: the rules with their row, the cursor. -/
structure RN (w2 W : World) (q : Rul) (pv : Value) (B g : Nat) (F : Nat → Prop) (c : Cur) : Prop where
  bel : Below w2.heap.size w2 W
  kr : Blk W w2.heap.size 25 (rulCells q pv)
  own : OwnSl 3 elPha 72 (w2.heap.size + 1) W pv q.power
  cur : RCurAt W F g c
  hg : B ≤ g
  hF : ∀ b, F b → B ≤ b
  hB : w2.heap.size < B
  ob : ∀ b, pv.ownBlock = some b → b < B
  len : ∀ f ∈ c.fields, f.text.length ≤ 1000
/-- The same with the powerplay's box. -/
structure RNP (w2 W : World) (q : Rul) (pv : Value) (B g : Nat) (F : Nat → Prop) (c : Cur) (P : Nat) (x y z : Int) : Prop extends RN w2 W q pv B g F c where
  ph : Blk W P 72 #[.int .i64 x, .int .i64 y, .int .i64 z]
  hP : B ≤ P
  hPg : P ≠ g
  hPF : ¬ F P
section
variable {w2 W W' : World} {q : Rul} {pv : Value} {B g P : Nat} {F : Nat → Prop} {c c' : Cur} {x y z v : Int}
theorem RN.only (h : RN w2 W q pv B g F c) (ho : Only g W W') (hc : RCurAt W' F g c') (hf : c'.fields = c.fields) : RN w2 W' q pv B g F c' := by
  have h1 := h.hB
  have h2 := h.hg
  exact ⟨h.bel.trans (ho.below (by omega) (Nat.le_of_lt h.kr.lt)), h.kr.grown ho (by simp; omega), h.own.grown elPha_good ho fun b hb e => by have := h.ob b hb; have : g = b := Option.some.inj e; omega, hc, h.hg, h.hF, h.hB, h.ob, by rw [hf]; exact h.len⟩
theorem RN.below (h : RN w2 W q pv B g F c) (hb : Below W.heap.size W W') : RN w2 W' q pv B g F c :=
  ⟨h.bel.trans (hb.mono (Nat.le_of_lt h.kr.lt)), h.kr.below hb h.kr.lt, h.own.below elPha_good hb, h.cur.below hb, h.hg, h.hF, h.hB, h.ob, h.len⟩
theorem RNP.below (h : RNP w2 W q pv B g F c P x y z) (hb : Below W.heap.size W W') : RNP w2 W' q pv B g F c P x y z := ⟨h.toRN.below hb, h.ph.below hb h.ph.lt, h.hP, h.hPg, h.hPF⟩
theorem RN.box (h : RN w2 W q pv B g F c) (hz : B ≤ W.heap.size) (x y z : Int) : RNP w2 (W.alloc (.cells #[.int .i64 x, .int .i64 y, .int .i64 z] 72)) q pv B g F c W.heap.size x y z :=
  ⟨h.below (Below.alloc (Below.refl _ _) (Nat.le_refl _) _), Blk.new _ _ _, hz, by have := h.cur.lt; omega, fun hF => by have := (h.cur.foot _ hF).1; omega⟩
theorem RNP.set (h : RNP w2 W q pv B g F c P x y z) (i : Nat) (u : Value) {x' y' z' : Int} (he : (#[.int .i64 x, .int .i64 y, .int .i64 z] : Array Value).setIfInBounds i u = #[.int .i64 x', .int .i64 y', .int .i64 z']) : RNP w2 (W.setCell ⟨P, i, none⟩ u) q pv B g F c P x' y' z' := by
  have h1 := h.hB
  have h2 := h.hP
  have ho : Only P W (W.setCell ⟨P, i, none⟩ u) := (Only.refl P W).setCell (p := ⟨P, i, none⟩) (.inl rfl) _
  refine ⟨⟨h.bel.trans (ho.below (by omega) (Nat.le_of_lt h.kr.lt)), h.kr.grown ho (by simp; omega), h.own.grown elPha_good ho fun b hb e => by have := h.ob b hb; have : P = b := Option.some.inj e; omega, h.cur.farR (k := P) h.hPg h.hPF _ rfl _, h.hg, h.hF, h.hB, h.ob, h.len⟩, ?_, h.hP, h.hPg, h.hPF⟩
  rw [← he]; exact h.ph.set_ i u
theorem rn_At (hkr : Blk W w2.heap.size 25 (rulCells q pv)) (hown : OwnSl 3 elPha 72 (w2.heap.size + 1) W pv q.power) (hbel : Below w2.heap.size w2 W) (x : Lin) (v : Value) (F0 : Nat → Prop) (hx : Sl 3 elFld W F0 v x.fields) (hF0 : ∀ b, F0 b → b < W.heap.size) (hl : OkLin x) :
    Calls Tryz.prog 32 #[.agg #[.int .i64 x.num, v]] W fun e W' => ∃ g F, e = .returned (.pointer (some ⟨g, 0, none⟩)) ∧ RN w2 W' q pv W.heap.size g F (Cur.start x) ∧ W.heap.size ≤ W'.heap.size := by
  refine (ref_At x v F0 W hx hF0 (by have := hl.1; omega)).mono ?_
  rintro e W' ⟨g, rfl, hg, hc, hb⟩
  exact ⟨g, _, rfl, ⟨hbel.trans (hb.mono (Nat.le_of_lt hkr.lt)), hkr.below hb hkr.lt, hown.below elPha_good hb, hc, hg, fun b hb => hb.1, hkr.lt, fun b e => (hown.block b e).2, hl.2⟩, hb.size⟩
theorem rn_Keyword (h : RN w2 W q pv B g F c) (hz : B ≤ W.heap.size) (hk : (c.keyword kPOWER).1 = c') :
    Calls Tryz.prog 33 #[.pointer (some ⟨g, 0, none⟩), .string ⟨#[80, 79, 87, 69, 82]⟩] W fun e W' => (∃ b, e = .returned (.bool b)) ∧ RN w2 W' q pv B g F c' ∧ B ≤ W'.heap.size := by
  refine (rcur_Keyword c ⟨#[80, 79, 87, 69, 82]⟩ F g W h.cur).mono ?_
  rintro e W' ⟨rfl, h1, h2⟩
  have h1' : RCurAt W' F g (c.keyword kPOWER).1 := h1
  rw [hk] at h1'
  exact ⟨⟨_, rfl⟩, h.only h2 h1' (by rw [← hk]; exact Cur.keyword_fields _ _), Nat.le_trans hz h2.size⟩
theorem rn_number (h : RN w2 W q pv B g F c) (hz : B ≤ W.heap.size) (hk : (c', v) = c.n) :
    Calls Tryz.prog 34 #[.pointer (some ⟨g, 0, none⟩)] W fun e W' => e = .returned (.int .i64 v) ∧ RN w2 W' q pv B g F c' ∧ B ≤ W'.heap.size := by
  refine (rcur_number c F g W h.cur fun f hf => by have := h.len f hf; omega).mono ?_
  rintro e W' ⟨rfl, h1, h2⟩
  have hf : c.n.1.fields = c.fields := Cur.int_fields c 0 10000
  rw [← hk] at h1 hf ⊢
  exact ⟨rfl, h.only h2 h1 hf, Nat.le_trans hz h2.size⟩
theorem rnp_number (h : RNP w2 W q pv B g F c P x y z) (hk : (c', v) = c.n) :
    Calls Tryz.prog 34 #[.pointer (some ⟨g, 0, none⟩)] W fun e W' => e = .returned (.int .i64 v) ∧ RNP w2 W' q pv B g F c' P x y z := by
  refine (rcur_number c F g W h.cur fun f hf => by have := h.len f hf; omega).mono ?_
  rintro e W' ⟨rfl, h1, h2⟩
  have hf : c.n.1.fields = c.fields := Cur.int_fields c 0 10000
  rw [← hk] at h1 hf ⊢
  exact ⟨rfl, h.toRN.only h2 h1 hf, h.ph.grown h2 (by simp; exact fun e => h.hPg e.symm), h.hP, h.hPg, h.hPF⟩
theorem rnp_Close (h : RNP w2 W q pv B g F c P x y z) : Calls Tryz.prog 35 #[.pointer (some ⟨g, 0, none⟩)] W fun e W' => e = .returned (closeV c.close) ∧ RNP w2 W' q pv B g F c P x y z := by
  refine (rcur_Close c F g W h.cur).mono ?_
  rintro e W' ⟨rfl, h1⟩
  exact ⟨rfl, h.below h1⟩
/-- The powerplay is appended, the row written into the rules. -/
theorem RNP.add {w7 : World} {v5 : Value} {o : Obj} (h : RNP w2 W q pv B g F c P x y z) (ho : OwnSl 3 elPha 72 (w2.heap.size + 1) w7 v5 (q.power ++ [⟨x, y, z⟩])) (hg : (W.alloc o).grownBy w7 pv.ownBlock) :
    Blk w7 w2.heap.size 25 (rulCells q pv) ∧ RQ w2 (w7.setCell ⟨w2.heap.size, 13, none⟩ v5) { q with power := q.power ++ [⟨x, y, z⟩] } := by
  have h' := h.toRN.below (Below.alloc (Below.refl _ _) (Nat.le_refl _) o)
  have b1 := h'.kr.grown hg (own_ne h'.own h'.kr (by decide))
  have hset : Only w2.heap.size w7 (w7.setCell ⟨w2.heap.size, 13, none⟩ v5) := (Only.refl w2.heap.size w7).setCell (p := ⟨w2.heap.size, 13, none⟩) (.inl rfl) _
  have b2 : Blk (w7.setCell ⟨w2.heap.size, 13, none⟩ v5) w2.heap.size 25 (rulCells { q with power := q.power ++ [⟨x, y, z⟩] } v5) := b1.set_ 13 v5
  exact ⟨b1, v5, b2, OwnSl.grown elPha_good ho hset fun b hb e => own_ne ho b1 (by decide) (by rw [hb]; exact e.symm), (below_own h'.bel h'.own hg (Nat.le_succ _) h'.kr.lt).setCell (Nat.le_refl _) _⟩
end
theorem readR_power (q : Rul) (k : Nat) (c : Cur) : readR q (k + 12) c = ({ q with power := q.power ++ [⟨(c.keyword kPOWER).1.n.2, (c.keyword kPOWER).1.n.1.n.2, (c.keyword kPOWER).1.n.1.n.1.n.2⟩] }, (c.keyword kPOWER).1.n.1.n.1.n.1) := rfl
end Go.Proofs.YtglkejlimeakbaaGreatDoor
