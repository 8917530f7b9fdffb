/- The walk of SquadBack: a side is read back from its text. -/
import Derived.Test.YtfljohhocgaheaaDoorL3
import Derived.Test.YtfljohhocgaheaaDoorP11
set_option linter.unusedSimpArgs false
set_option linter.unusedVariables false
namespace Go.Proofs.YtfljohhocgaheaaDoor
open Go.RowKit

set_option maxRecDepth 100000 in
set_option maxHeartbeats 4000000 in
theorem law_Back (q : Sqd) (pv : Value) (w : World) (hg : Glob w) (h : Lies w q pv) :
    Calls Tryd.prog 5 #[sqV q pv] w fun e w' => e = .returned (.bool true) ∧ Below w.heap.size w w' := by
  unfold sqV
  obtain ⟨A, c, rfl, hc, hc'⟩ := Sl.shape h
  obtain ⟨w0, hw0⟩ : ∃ x, x = w.alloc (.cells #[.string (S q.name), .slice A q.players.length c, .int .i64 q.cap, .int .i64 q.kee] 24) := ⟨_, rfl⟩
  have hb0 : Below w.heap.size w w0 := by rw [hw0]; exact Below.alloc (Below.refl _ _) (Nat.le_refl _) _
  have hk0 : Blk w0 w.heap.size 24 #[.string (S q.name), .slice A q.players.length c, .int .i64 q.cap, .int .i64 q.kee] := by rw [hw0]; exact Blk.new w _ _
  have haw : Calls Tryd.prog 10 #[] w0 fun e w1 => e = .returned (.bool true) ∧ Below w.heap.size w w1 ∧ Blk w1 w.heap.size 24 #[.string (S q.name), .slice A q.players.length c, .int .i64 q.cap, .int .i64 q.kee] := by
    refine (law_awake w0 (hg.below hb0)).mono ?_
    rintro e w1 ⟨rfl, hb⟩
    exact ⟨rfl, hb0.trans (hb.mono hb0.size), hk0.below hb hk0.lt⟩
  rw [hw0] at haw
  have hfew : ∀ w1, Below w.heap.size w w1 → Blk w1 w.heap.size 24 #[.string (S q.name), .slice A q.players.length c, .int .i64 q.cap, .int .i64 q.kee] → Calls Tryd.prog 11 #[.agg #[.string (S q.name), .slice A q.players.length c, .int .i64 q.cap, .int .i64 q.kee]] w1 fun e w2 => ∃ A2 c2, e = .returned (.agg #[.string (S (fewS q).name), .slice A2 (fewS q).players.length c2, .int .i64 (fewS q).cap, .int .i64 (fewS q).kee]) ∧ Below w.heap.size w w2 ∧ Sl 1 elStr w2 (fun b => w.heap.size < b ∧ b < w2.heap.size) (.slice A2 (fewS q).players.length c2) (fewS q).players ∧ Blk w2 w.heap.size 24 #[.string (S q.name), .slice A q.players.length c, .int .i64 q.cap, .int .i64 q.kee] := fun w1 hb1 hk1 => by
    refine (law_few q (.slice A q.players.length c) w1 (Sl.keep elStr_good h (Same.of_below hb1) fun b hb => Nat.lt_of_lt_of_le hb hb1.size)).mono ?_
    rintro e w2 ⟨pv, rfl, hs, hb⟩
    obtain ⟨A2, c2, rfl, _⟩ := hs.shape
    exact ⟨A2, c2, rfl, hb1.trans (hb.mono hb1.size), hs.keep elStr_good (Same.refl _ _) (fun b hb => ⟨Nat.lt_of_lt_of_le hk1.lt hb.1, hb.2⟩), hk1.below hb hk1.lt⟩
  have hln := fewS_len q
  obtain ⟨f, hf⟩ : ∃ f, f = fewS q := ⟨_, rfl⟩
  rw [← hf] at hfew hln
  have HAW := Lib.hid haw
  have HFW := Lib.hid hfew
  clear haw hfew hk0 hb0 hw0 hf
  obtain ⟨e, he⟩ : ∃ e, e = checkS f := ⟨_, rfl⟩
  go_enter Tryd.func5, Tryd.ntmps5
  go_wp2_with (first | (go_at_call 10; refine HAW.out.mono ?_; rintro e w1 ⟨rfl, hb1, hk1⟩; obtain ⟨y0, y1, y2, y3, g0, g1, g2, g3⟩ := hk1.four; have HB1 := Lib.hid hb1; have HK1 := Lib.hid hk1; clear hb1 hk1) | (go_at_call 11; refine (HFW.out _ HB1.out HK1.out).mono ?_; rintro e w2 ⟨A2, c2, rfl, hb2, hs2, hk2⟩; obtain ⟨z0, z1, z2, z3, j0, j1, j2, j3⟩ := hk2.four; have HB2 := Lib.hid hb2; have HK2 := Lib.hid hk2; have HS2 := Lib.hid hs2; clear hb2 hs2 hk2))
  have hst := few_stored HB2.out HK2.out HS2.out
  revert hst
  generalize World.setCell _ _ _ = W
  intro hst
  have htx := sq_Text f _ W (hg.below hst.bel) hst.sl (by have := hln.1; omega) (fun p hp => by have := hln.2.1 p hp; omega) (fun h => by have := (sqLines_ok h).2; omega) (fun h => (checkS_ok h).2.2.1)
  unfold sqV at htx
  have HST := Lib.hid hst
  have HLN := Lib.hid hln
  have HG := Lib.hid hg
  clear hst hln hg
  by_cases hz : e = 0
  · have h0 : checkS f = 0 := by rw [← he, hz]
    have htt : textS f = (writeS (sqLines f), 0) := by unfold textS; rw [if_neg (by simp [h0])]
    have hln := (sqLines_ok h0).2
    have hpb := parse_back h0
    rw [htt] at htx
    obtain ⟨t, ht⟩ : ∃ t, t = writeS (sqLines f) := ⟨_, rfl⟩
    rw [← ht] at htx hpb hln
    have hpa : ∀ W', Few w W' f A2 f.players.length c2 → Calls Tryd.prog 14 #[.string (S t)] W' fun e9 w' => ∃ A3 c3 D3 d3, e9 = .returned (.tuple #[.agg #[.string (S f.name), .slice A3 f.players.length c3, .int .i64 f.cap, .int .i64 f.kee], .slice D3 0 d3]) ∧ Few w w' f A2 f.players.length c2 ∧ Lies w' f (.slice A3 f.players.length c3) := fun W' hW => by
      refine (sq_Parse (S t) W' (HG.out.below hW.bel) (by simp only [S_size]; omega)).mono ?_
      rintro e9 w' ⟨pv, dv, rfl, hs, hd, hb⟩
      rw [S_data, hpb] at hs hd ⊢
      obtain ⟨A3, c3, rfl, _⟩ := hs.shape
      obtain ⟨D3, d3, rfl, _⟩ := hd.shape
      exact ⟨A3, c3, D3, d3, rfl, hW.below hb, hs.keep elStr_good (Same.refl _ _) fun b h => h.2⟩
    have hsm : ∀ W' A3 c3, Few w W' f A2 f.players.length c2 → Lies W' f (.slice A3 f.players.length c3) → Calls Tryd.prog 19 #[.agg #[.string (S f.name), .slice A3 f.players.length c3, .int .i64 f.cap, .int .i64 f.kee], .agg #[.string (S f.name), .slice A2 f.players.length c2, .int .i64 f.cap, .int .i64 f.kee]] W' fun e9 w' => e9 = .returned (.bool true) ∧ Few w w' f A2 f.players.length c2 := fun W' A3 c3 hW hl => by
      refine (sq_Same f f _ _ W' hl hW.sl).mono ?_
      rintro e9 w' ⟨rfl, hb⟩
      rw [sameS_refl]
      exact ⟨rfl, hW.below hb⟩
    have HPA := Lib.hid hpa
    have HSM := Lib.hid hsm
    subst hz
    clear hpa hsm hpb htt ht h0 he hln
    refine htx.mono ?_
    rintro x w3 ⟨rfl, hb3⟩
    have hf3 := HST.out.below hb3
    have HF3 := Lib.hid hf3
    clear hf3 hb3 htx
    go_wp2_with (first | (go_at_call 14; refine (HPA.out _ HF3.out).mono ?_; rintro x w4 ⟨A3, c3, D3, d3, rfl, hf4, hl4⟩; have hlt4 := hf4.lt; obtain ⟨x0, x1, x2, x3, _⟩ := (hf4.blk.alloc (.cells #[.string (S f.name), .slice A3 f.players.length c3, .int .i64 f.cap, .int .i64 f.kee] 24)).four; obtain ⟨v0, v1, v2, v3, _⟩ := hf4.blk.four; have HF4 := Lib.hid hf4; have HL4 := Lib.hid hl4; clear hf4 hl4) | (go_at_call 19; refine (HSM.out _ _ _ (HF4.out.below (Below.alloc (Below.refl _ _) (Nat.le_refl _) _)) (HL4.out.below (Below.alloc (Below.refl _ _) (Nat.le_refl _) _))).mono ?_; rintro x w5 ⟨rfl, hf5⟩; have HF5 := Lib.hid hf5; clear hf5))
    go_ret
    exact ⟨rfl, HF5.out.bel⟩
  · have htt : textS f = ([], e) := by unfold textS; rw [if_pos (by rw [← he]; exact hz), ← he]
    rw [htt] at htx
    have hck : ∀ W', Few w W' f A2 f.players.length c2 → Calls Tryd.prog 18 #[.agg #[.string (S f.name), .slice A2 f.players.length c2, .int .i64 f.cap, .int .i64 f.kee]] W' fun e9 w' => e9 = .returned (.int .i64 e) ∧ Few w w' f A2 f.players.length c2 := fun W' hW => by
      refine (sq_Check f _ W' hW.sl (by have := HLN.out.1; omega) (fun p hp => by have := HLN.out.2.1 p hp; omega)).mono ?_
      rintro e9 w' ⟨rfl, hb⟩
      exact ⟨by rw [he], hW.below hb⟩
    have HCK := Lib.hid hck
    have e9 : (e != 0) = true := by simp [hz]
    clear hck htt he hz
    refine htx.mono ?_
    rintro x w3 ⟨rfl, hb3⟩
    have hf3 := HST.out.below hb3
    obtain ⟨x0, x1, x2, x3, _⟩ := hf3.blk.four
    have HF3 := Lib.hid hf3
    clear hf3 hb3 htx
    go_wp2_with (go_at_call 18; refine (HCK.out _ HF3.out).mono ?_; rintro x w4 ⟨rfl, hf4⟩; have HF4 := Lib.hid hf4; clear hf4)
    go_ret
    exact ⟨rfl, HF4.out.bel⟩
end Go.Proofs.YtfljohhocgaheaaDoor
