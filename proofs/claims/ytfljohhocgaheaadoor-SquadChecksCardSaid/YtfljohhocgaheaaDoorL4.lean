/- The walk of SquadChecks: the first error of a side, and its players, are the reference's. -/
import Derived.Test.YtfljohhocgaheaaDoorL3
import Derived.Test.YtfljohhocgaheaaDoorF2
set_option linter.unusedSimpArgs false
set_option linter.unusedVariables false
namespace Go.Proofs.YtfljohhocgaheaaDoor
open Go.RowKit

set_option maxRecDepth 100000 in
set_option maxHeartbeats 4000000 in
theorem law_Checks (q : Sqd) (pv : Value) (s : ByteArray) (n : Int) (w : World) (hg : Glob w) (h : Lies w q pv) (hs : s.size ≤ maxLen) :
    Calls Tryd.prog 7 #[sqV q pv, .string s, .int .i64 n] w fun e w' => e = .returned (.bool true) ∧ Below w.heap.size w w' := by
  unfold sqV
  unfold maxLen at hs
  obtain ⟨A, c, rfl, hc, hc'⟩ := Sl.shape h
  obtain ⟨w0, hw0⟩ : ∃ x, x = w.alloc (.cells #[.string (S q.name), .slice A q.players.length c, .int .i64 q.cap, .int .i64 q.kee] 24) := ⟨_, rfl⟩
  have hb0 : Below w.heap.size w w0 := by rw [hw0]; exact Below.alloc (Below.refl _ _) (Nat.le_refl _) _
  have hk0 : Blk w0 w.heap.size 24 #[.string (S q.name), .slice A q.players.length c, .int .i64 q.cap, .int .i64 q.kee] := by rw [hw0]; exact Blk.new w _ _
  have haw : Calls Tryd.prog 10 #[] w0 fun e w1 => e = .returned (.bool true) ∧ Below w.heap.size w w1 ∧ Blk w1 w.heap.size 24 #[.string (S q.name), .slice A q.players.length c, .int .i64 q.cap, .int .i64 q.kee] := by
    refine (law_awake w0 (hg.below hb0)).mono ?_
    rintro e w1 ⟨rfl, hb⟩
    exact ⟨rfl, hb0.trans (hb.mono hb0.size), hk0.below hb hk0.lt⟩
  rw [hw0] at haw
  have hfew : ∀ w1, Below w.heap.size w w1 → Blk w1 w.heap.size 24 #[.string (S q.name), .slice A q.players.length c, .int .i64 q.cap, .int .i64 q.kee] → Calls Tryd.prog 11 #[.agg #[.string (S q.name), .slice A q.players.length c, .int .i64 q.cap, .int .i64 q.kee]] w1 fun e w2 => ∃ A2 c2, e = .returned (.agg #[.string (S (fewS q).name), .slice A2 (fewS q).players.length c2, .int .i64 (fewS q).cap, .int .i64 (fewS q).kee]) ∧ Below w.heap.size w w2 ∧ Sl 1 elStr w2 (fun b => w.heap.size < b ∧ b < w2.heap.size) (.slice A2 (fewS q).players.length c2) (fewS q).players ∧ Blk w2 w.heap.size 24 #[.string (S q.name), .slice A q.players.length c, .int .i64 q.cap, .int .i64 q.kee] := fun w1 hb1 hk1 => by
    refine (law_few q (.slice A q.players.length c) w1 (Sl.keep elStr_good h (Same.of_below hb1) fun b hb => Nat.lt_of_lt_of_le hb hb1.size)).mono ?_
    rintro e w2 ⟨pv, rfl, hs, hb⟩
    obtain ⟨A2, c2, rfl, _⟩ := hs.shape
    exact ⟨A2, c2, rfl, hb1.trans (hb.mono hb1.size), hs.keep elStr_good (Same.refl _ _) (fun b hb => ⟨Nat.lt_of_lt_of_le hk1.lt hb.1, hb.2⟩), hk1.below hb hk1.lt⟩
  have hln := fewS_len q
  obtain ⟨f, hf⟩ : ∃ f, f = fewS q := ⟨_, rfl⟩
  rw [← hf] at hfew hln
  have HAW := Lib.hid haw
  have HFW := Lib.hid hfew
  clear haw hfew hk0 hb0 hw0 hf
  obtain ⟨e, he⟩ : ∃ e, e = checkS f := ⟨_, rfl⟩
  go_enter Tryd.func7, Tryd.ntmps7
  go_wp2_with (first | (go_at_call 10; refine HAW.out.mono ?_; rintro e w1 ⟨rfl, hb1, hk1⟩; obtain ⟨y0, y1, y2, y3, g0, g1, g2, g3⟩ := hk1.four; have HB1 := Lib.hid hb1; have HK1 := Lib.hid hk1; clear hb1 hk1) | (go_at_call 11; refine (HFW.out _ HB1.out HK1.out).mono ?_; rintro e w2 ⟨A2, c2, rfl, hb2, hs2, hk2⟩; obtain ⟨z0, z1, z2, z3, j0, j1, j2, j3⟩ := hk2.four; have HB2 := Lib.hid hb2; have HK2 := Lib.hid hk2; have HS2 := Lib.hid hs2; clear hb2 hs2 hk2))
  have hst := few_stored HB2.out HK2.out HS2.out
  revert hst
  generalize World.setCell _ _ _ = W
  generalize s.extract 0 _ = x
  intro hst
  obtain ⟨j, hj⟩ : ∃ j, j = indexS f.players x.data.toList + 1 := ⟨_, rfl⟩
  obtain ⟨t, ht⟩ : ∃ t, t = titleS f n := ⟨_, rfl⟩
  have hC1 : ∀ W, Few w W f A2 f.players.length c2 → Calls Tryd.prog 18 #[.agg #[.string (S f.name), .slice A2 f.players.length c2, .int .i64 f.cap, .int .i64 f.kee]] W fun e9 w' => e9 = .returned (.int .i64 e) ∧ Few w w' f A2 f.players.length c2 := fun W hW => by
    refine (sq_Check f _ W hW.sl (by have := hln.1; omega) (fun p hp => by have := hln.2.1 p hp; omega)).mono ?_
    rintro e w' ⟨rfl, hb⟩
    exact ⟨by rw [he], hW.below hb⟩
  have hC2 : ∀ W, Few w W f A2 f.players.length c2 → Calls Tryd.prog 20 #[.agg #[.string (S f.name), .slice A2 f.players.length c2, .int .i64 f.cap, .int .i64 f.kee]] W fun e9 w' => e9 = .returned (.int .i64 e) ∧ Few w w' f A2 f.players.length c2 := fun W hW => by
    refine (rsq_Check f _ W hW.sl (by have := hln.1; omega) (fun p hp => by have := hln.2.1 p hp; omega)).mono ?_
    rintro e w' ⟨rfl, hb⟩
    exact ⟨by rw [he], hW.below hb⟩
  have hF1 : ∀ W, Few w W f A2 f.players.length c2 → Calls Tryd.prog 21 #[.agg #[.string (S f.name), .slice A2 f.players.length c2, .int .i64 f.cap, .int .i64 f.kee], .string x] W fun e9 w' => e9 = .returned (.int .i64 j) ∧ Few w w' f A2 f.players.length c2 := fun W hW => by
    refine (sq_Find f _ x W hW.sl).mono ?_
    rintro e w' ⟨rfl, hb⟩
    exact ⟨by rw [hj], hW.below hb⟩
  have hF2 : ∀ W, Few w W f A2 f.players.length c2 → Calls Tryd.prog 22 #[.agg #[.string (S f.name), .slice A2 f.players.length c2, .int .i64 f.cap, .int .i64 f.kee], .string x] W fun e9 w' => e9 = .returned (.int .i64 j) ∧ Few w w' f A2 f.players.length c2 := fun W hW => by
    refine (rsq_Find f _ x W hW.sl).mono ?_
    rintro e w' ⟨rfl, hb⟩
    exact ⟨by rw [hj], hW.below hb⟩
  have hT1 : ∀ W, Few w W f A2 f.players.length c2 → Calls Tryd.prog 23 #[.agg #[.string (S f.name), .slice A2 f.players.length c2, .int .i64 f.cap, .int .i64 f.kee], .int .i64 n] W fun e9 w' => e9 = .returned (.string (S t)) ∧ Few w w' f A2 f.players.length c2 := fun W hW => by
    refine (sq_Title f _ n W hW.sl (fun p hp => by have := hln.2.1 p hp; omega)).mono ?_
    rintro e w' ⟨rfl, hb⟩
    exact ⟨by rw [ht], hW.below hb⟩
  have hT2 : ∀ W, Few w W f A2 f.players.length c2 → Calls Tryd.prog 24 #[.agg #[.string (S f.name), .slice A2 f.players.length c2, .int .i64 f.cap, .int .i64 f.kee], .int .i64 n] W fun e9 w' => e9 = .returned (.string (S t)) ∧ Few w w' f A2 f.players.length c2 := fun W hW => by
    refine (rsq_Title f _ n W hW.sl (fun p hp => by have := hln.2.1 p hp; omega)).mono ?_
    rintro e w' ⟨rfl, hb⟩
    exact ⟨by rw [ht], hW.below hb⟩
  obtain ⟨x0, x1, x2, x3, _⟩ := hst.blk.four
  have HC1 := Lib.hid hC1
  have HC2 := Lib.hid hC2
  have HF1 := Lib.hid hF1
  have HF2 := Lib.hid hF2
  have HT1 := Lib.hid hT1
  have HT2 := Lib.hid hT2
  have HST := Lib.hid hst
  clear hC1 hC2 hF1 hF2 hT1 hT2 hst hj ht he hln
  go_region_held3 (fun w' => w'.cell? ⟨w.heap.size, 0, none⟩ = some (.string (S f.name)) ∧ w'.cell? ⟨w.heap.size, 1, none⟩ = some (.slice A2 f.players.length c2) ∧ w'.cell? ⟨w.heap.size, 2, none⟩ = some (.int .i64 f.cap) ∧ w'.cell? ⟨w.heap.size, 3, none⟩ = some (.int .i64 f.kee))
    (first | exact ⟨x0, x1, x2, x3⟩ | go_keep)
    (first
      | (go_at_call 18; refine (HC1.out _ HST.out.drew).mono ?_; rintro e1 w4 ⟨rfl, hs1⟩; obtain ⟨x0, x1, x2, x3, _⟩ := hs1.blk.four; have HS4 := Lib.hid hs1; clear hs1)
      | (go_at_call 20; refine (HC2.out _ HS4.out).mono ?_; rintro e1 w5 ⟨rfl, hs1⟩; obtain ⟨x0, x1, x2, x3, _⟩ := hs1.blk.four; have HS5 := Lib.hid hs1; clear hs1)
      | (go_at_call 21; refine (HF1.out _ HS5.out).mono ?_; rintro e1 w6 ⟨rfl, hs1⟩; obtain ⟨x0, x1, x2, x3, _⟩ := hs1.blk.four; have HS6 := Lib.hid hs1; clear hs1)
      | (go_at_call 22; refine (HF2.out _ HS6.out).mono ?_; rintro e1 w7 ⟨rfl, hs1⟩; obtain ⟨x0, x1, x2, x3, _⟩ := hs1.blk.four; have HS7 := Lib.hid hs1; clear hs1)
      | (go_at_call 23; refine (HT1.out _ HS7.out).mono ?_; rintro e1 w8 ⟨rfl, hs1⟩; obtain ⟨x0, x1, x2, x3, _⟩ := hs1.blk.four; have HS8 := Lib.hid hs1; clear hs1)
      | (go_at_call 24; refine (HT2.out _ HS8.out).mono ?_; rintro e1 w9 ⟨rfl, hs1⟩; obtain ⟨x0, x1, x2, x3, _⟩ := hs1.blk.four; have HS9 := Lib.hid hs1; clear hs1))
  all_goals go_wp2
  all_goals go_ret
  all_goals exact ⟨rfl, HS9.out.bel⟩
end Go.Proofs.YtfljohhocgaheaaDoor
