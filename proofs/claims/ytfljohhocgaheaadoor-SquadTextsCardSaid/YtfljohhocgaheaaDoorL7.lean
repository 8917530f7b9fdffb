/- The walk of SquadTexts: the text of a side is the reference's. -/
import Derived.Test.YtfljohhocgaheaaDoorL3
import Derived.Test.YtfljohhocgaheaaDoorP11
import Derived.Test.YtfljohhocgaheaaDoorF4
set_option linter.unusedSimpArgs false
set_option linter.unusedVariables false
namespace Go.Proofs.YtfljohhocgaheaaDoor
open Go.RowKit

set_option maxRecDepth 100000 in
set_option maxHeartbeats 4000000 in
theorem law_Texts (q : Sqd) (pv : Value) (w : World) (hg : Glob w) (h : Lies w q pv) :
    Calls Tryd.prog 3 #[sqV q pv] w fun e w' => e = .returned (.bool true) ∧ Below w.heap.size w w' := by
  unfold sqV
  obtain ⟨A, c, rfl, hc, hc'⟩ := Sl.shape h
  obtain ⟨w0, hw0⟩ : ∃ x, x = w.alloc (.cells #[.string (S q.name), .slice A q.players.length c, .int .i64 q.cap, .int .i64 q.kee] 24) := ⟨_, rfl⟩
  have hb0 : Below w.heap.size w w0 := by rw [hw0]; exact Below.alloc (Below.refl _ _) (Nat.le_refl _) _
  have hk0 : Blk w0 w.heap.size 24 #[.string (S q.name), .slice A q.players.length c, .int .i64 q.cap, .int .i64 q.kee] := by rw [hw0]; exact Blk.new w _ _
  have haw : Calls Tryd.prog 10 #[] w0 fun e w1 => e = .returned (.bool true) ∧ Below w.heap.size w w1 ∧ Blk w1 w.heap.size 24 #[.string (S q.name), .slice A q.players.length c, .int .i64 q.cap, .int .i64 q.kee] := by
    refine (law_awake w0 (hg.below hb0)).mono ?_
    rintro e w1 ⟨rfl, hb⟩
    exact ⟨rfl, hb0.trans (hb.mono hb0.size), hk0.below hb hk0.lt⟩
  rw [hw0] at haw
  have hfew : ∀ w1, Below w.heap.size w w1 → Blk w1 w.heap.size 24 #[.string (S q.name), .slice A q.players.length c, .int .i64 q.cap, .int .i64 q.kee] → Calls Tryd.prog 11 #[.agg #[.string (S q.name), .slice A q.players.length c, .int .i64 q.cap, .int .i64 q.kee]] w1 fun e w2 => ∃ A2 c2, e = .returned (.agg #[.string (S (fewS q).name), .slice A2 (fewS q).players.length c2, .int .i64 (fewS q).cap, .int .i64 (fewS q).kee]) ∧ Below w.heap.size w w2 ∧ Sl 1 elStr w2 (fun b => w.heap.size < b ∧ b < w2.heap.size) (.slice A2 (fewS q).players.length c2) (fewS q).players ∧ Blk w2 w.heap.size 24 #[.string (S q.name), .slice A q.players.length c, .int .i64 q.cap, .int .i64 q.kee] := fun w1 hb1 hk1 => by
    refine (law_few q (.slice A q.players.length c) w1 (Sl.keep elStr_good h (Same.of_below hb1) fun b hb => Nat.lt_of_lt_of_le hb hb1.size)).mono ?_
    rintro e w2 ⟨pv, rfl, hs, hb⟩
    obtain ⟨A2, c2, rfl, _⟩ := hs.shape
    exact ⟨A2, c2, rfl, hb1.trans (hb.mono hb1.size), hs.keep elStr_good (Same.refl _ _) (fun b hb => ⟨Nat.lt_of_lt_of_le hk1.lt hb.1, hb.2⟩), hk1.below hb hk1.lt⟩
  have hln := fewS_len q
  obtain ⟨f, hf⟩ : ∃ f, f = fewS q := ⟨_, rfl⟩
  rw [← hf] at hfew hln
  have HAW := Lib.hid haw
  have HFW := Lib.hid hfew
  clear haw hfew hk0 hb0 hw0 hf
  obtain ⟨e, he⟩ : ∃ e, e = checkS f := ⟨_, rfl⟩
  go_enter Tryd.func3, Tryd.ntmps3
  go_wp2_with (first | (go_at_call 10; refine HAW.out.mono ?_; rintro e w1 ⟨rfl, hb1, hk1⟩; obtain ⟨y0, y1, y2, y3, g0, g1, g2, g3⟩ := hk1.four; have HB1 := Lib.hid hb1; have HK1 := Lib.hid hk1; clear hb1 hk1) | (go_at_call 11; refine (HFW.out _ HB1.out HK1.out).mono ?_; rintro e w2 ⟨A2, c2, rfl, hb2, hs2, hk2⟩; obtain ⟨z0, z1, z2, z3, j0, j1, j2, j3⟩ := hk2.four; have HB2 := Lib.hid hb2; have HK2 := Lib.hid hk2; have HS2 := Lib.hid hs2; clear hb2 hs2 hk2))
  have hst := few_stored HB2.out HK2.out HS2.out
  revert hst
  generalize World.setCell _ _ _ = W
  intro hst
  obtain ⟨⟨t, e2⟩, hte⟩ : ∃ r, r = textS f := ⟨_, rfl⟩
  have htx : ∀ W', Few w W' f A2 f.players.length c2 → Calls Tryd.prog 12 #[.agg #[.string (S f.name), .slice A2 f.players.length c2, .int .i64 f.cap, .int .i64 f.kee]] W' fun e9 w' => e9 = .returned (.tuple #[.string (S t), .int .i64 e2]) ∧ Few w w' f A2 f.players.length c2 := fun W' hW => by
    refine (sq_Text f _ W' (hg.below hW.bel) hW.sl (by have := hln.1; omega) (fun p hp => by have := hln.2.1 p hp; omega) (fun h => by have := (sqLines_ok h).2; omega) (fun h => (checkS_ok h).2.2.1)).mono ?_
    rintro e9 w' ⟨rfl, hb⟩
    rw [← hte]
    exact ⟨rfl, hW.below hb⟩
  have hrx : ∀ W', Few w W' f A2 f.players.length c2 → Calls Tryd.prog 13 #[.agg #[.string (S f.name), .slice A2 f.players.length c2, .int .i64 f.cap, .int .i64 f.kee]] W' fun e9 w' => e9 = .returned (.tuple #[.string (S t), .int .i64 e2]) ∧ Few w w' f A2 f.players.length c2 := fun W' hW => by
    refine (rsq_Text f _ W' hW.sl (by have := hln.1; omega) (fun p hp => by have := hln.2.1 p hp; omega) (fun h => by have := (sqLines_ok h).2; omega) (fun h => (checkS_ok h).2.2.1)).mono ?_
    rintro e9 w' ⟨rfl, hb⟩
    rw [← hte]
    exact ⟨rfl, hW.below hb⟩
  have HST := Lib.hid hst
  have HTX := Lib.hid htx
  have HRX := Lib.hid hrx
  clear hst hln hg hte htx hrx he
  refine (HTX.out _ HST.out).mono ?_
  rintro x w3 ⟨rfl, hf3⟩
  obtain ⟨x0, x1, x2, x3, _⟩ := hf3.blk.four
  have HF3 := Lib.hid hf3
  clear hf3
  go_wp2_with (go_at_call 13; refine (HRX.out _ HF3.out).mono ?_; rintro x w4 ⟨rfl, hf4⟩; have HF4 := Lib.hid hf4; clear hf4)
  go_ret
  exact ⟨rfl, HF4.out.bel⟩
end Go.Proofs.YtfljohhocgaheaaDoor
