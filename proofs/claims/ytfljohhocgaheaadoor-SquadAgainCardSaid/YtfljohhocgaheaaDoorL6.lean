/- The walk of SquadAgain: a side that was read is accepted, and its text is read as the same side. -/
import Derived.Test.YtfljohhocgaheaaDoorL3
import Derived.Test.YtfljohhocgaheaaDoorP11
set_option linter.unusedSimpArgs false
set_option linter.unusedVariables false
namespace Go.Proofs.YtfljohhocgaheaaDoor
open Go.RowKit

theorem Few.new {w : World} {q : Sqd} {A : Option Addr} {n c : Nat} (h : Lies w q (.slice A n c)) : Few w (w.alloc (.cells #[.string (S q.name), .slice A n c, .int .i64 q.cap, .int .i64 q.kee] 24)) q A n c :=
  ⟨Below.alloc (Below.refl _ _) (Nat.le_refl _) _, Blk.new w _ _, h.below (Below.alloc (Below.refl _ _) (Nat.le_refl _) _), by simp⟩
theorem Few.alloc {w W : World} {q : Sqd} {A : Option Addr} {n c : Nat} (h : Few w W q A n c) (o : Obj) : Few w (W.alloc o) q A n c := h.below (Below.alloc (Below.refl _ _) (Nat.le_refl _) o)
set_option maxRecDepth 100000 in
set_option maxHeartbeats 4000000 in
theorem law_Again (s : ByteArray) (w : World) (hg : Glob w) (hs : s.size ≤ maxLen) :
    Calls Tryd.prog 6 #[.string s] w fun e w' => e = .returned (.bool true) ∧ Below w.heap.size w w' := by
  unfold maxLen at hs
  have haw := law_awake w hg
  obtain ⟨t, ht⟩ : ∃ t, t = s.extract 0 (min (s.size : Int) 600).toNat := ⟨_, rfl⟩
  have htl : t.size ≤ 600 := by rw [ht]; simp; omega
  obtain ⟨⟨q, ds⟩, hq⟩ : ∃ r, r = parseS t.data.toList := ⟨_, rfl⟩
  have hpa : ∀ W, Below w.heap.size w W → Calls Tryd.prog 14 #[.string t] W fun e9 w' => ∃ A c D d, e9 = .returned (.tuple #[.agg #[.string (S q.name), .slice A q.players.length c, .int .i64 q.cap, .int .i64 q.kee], .slice D ds.length d]) ∧ Below w.heap.size w w' ∧ Lies w' q (.slice A q.players.length c) := fun W hW => by
    refine (sq_Parse t W (hg.below hW) (by omega)).mono ?_
    rintro e9 w' ⟨pv, dv, rfl, hs, hd, hb⟩
    rw [← hq] at hs hd ⊢
    obtain ⟨A, c, rfl, _⟩ := hs.shape
    obtain ⟨D, d, rfl, _⟩ := hd.shape
    exact ⟨A, c, D, d, rfl, hW.trans (hb.mono hW.size), hs.keep elStr_good (Same.refl _ _) fun b h => h.2⟩
  have HAW := Lib.hid haw
  have HPA := Lib.hid hpa
  have HG := Lib.hid hg
  have HT := Lib.hid ht
  clear haw hpa hg ht
  by_cases hds : ds = []
  · have h0 : checkS q = 0 := by have := parseS_ok (s := t.data.toList) (by rw [← hq]; exact hds); rw [← hq] at this; exact this
    have htt : textS q = (writeS (sqLines q), 0) := by unfold textS; rw [if_neg (by simp [h0])]
    obtain ⟨n1, n2, n3, n4, _⟩ := checkS_ok h0
    have hln := (sqLines_ok h0).2
    have hpb := parse_back h0
    obtain ⟨u, hu⟩ : ∃ u, u = writeS (sqLines q) := ⟨_, rfl⟩
    rw [← hu] at htt hln hpb
    have hnl : q.name.length ≤ 16 := (nameS_ne n1).2
    have hpl : ∀ p ∈ q.players, p.length ≤ 16 := fun p hp => (nameS_ne (n4 p hp)).2
    have htx : ∀ w3 W A c, Below w.heap.size w w3 → Few w3 W q A q.players.length c → Calls Tryd.prog 12 #[.agg #[.string (S q.name), .slice A q.players.length c, .int .i64 q.cap, .int .i64 q.kee]] W fun e9 w' => e9 = .returned (.tuple #[.string (S u), .int .i64 0]) ∧ Few w3 w' q A q.players.length c := fun w3 W A c hW3 hW => by
      refine (sq_Text q _ W (HG.out.below (hW3.trans (hW.bel.mono hW3.size))) hW.sl (by omega) (fun p hp => by have := hpl p hp; omega) (fun h => by rw [← hu]; omega) (fun h => n3)).mono ?_
      rintro e9 w' ⟨rfl, hb⟩
      rw [htt]
      exact ⟨rfl, hW.below hb⟩
    have hp2 : ∀ w3 W A c, Below w.heap.size w w3 → Few w3 W q A q.players.length c → Calls Tryd.prog 14 #[.string (S u)] W fun e9 w' => ∃ A3 c3 D3 d3, e9 = .returned (.tuple #[.agg #[.string (S q.name), .slice A3 q.players.length c3, .int .i64 q.cap, .int .i64 q.kee], .slice D3 0 d3]) ∧ Few w3 w' q A q.players.length c ∧ Lies w' q (.slice A3 q.players.length c3) := fun w3 W A c hW3 hW => by
      refine (sq_Parse (S u) W (HG.out.below (hW3.trans (hW.bel.mono hW3.size))) (by simp only [S_size]; omega)).mono ?_
      rintro e9 w' ⟨pv, dv, rfl, hs, hd, hb⟩
      rw [S_data, hpb] at hs hd ⊢
      obtain ⟨A3, c3, rfl, _⟩ := hs.shape
      obtain ⟨D3, d3, rfl, _⟩ := hd.shape
      exact ⟨A3, c3, D3, d3, rfl, hW.below hb, hs.keep elStr_good (Same.refl _ _) fun b h => h.2⟩
    have hck : ∀ w3 W A c, Few w3 W q A q.players.length c → Calls Tryd.prog 18 #[.agg #[.string (S q.name), .slice A q.players.length c, .int .i64 q.cap, .int .i64 q.kee]] W fun e9 w' => e9 = .returned (.int .i64 0) ∧ Below W.heap.size W w' := fun w3 W A c hW => by
      refine (sq_Check q _ W hW.sl (by omega) (fun p hp => by have := hpl p hp; omega)).mono ?_
      rintro e9 w' ⟨rfl, hb⟩
      exact ⟨by rw [h0], hb⟩
    have hsm : ∀ w3 W A c A3 c3, Few w3 W q A q.players.length c → Lies W q (.slice A3 q.players.length c3) → Calls Tryd.prog 19 #[.agg #[.string (S q.name), .slice A3 q.players.length c3, .int .i64 q.cap, .int .i64 q.kee], .agg #[.string (S q.name), .slice A q.players.length c, .int .i64 q.cap, .int .i64 q.kee]] W fun e9 w' => e9 = .returned (.bool true) ∧ Few w3 w' q A q.players.length c := fun w3 W A c A3 c3 hW hl => by
      refine (sq_Same q q _ _ W hl hW.sl).mono ?_
      rintro e9 w' ⟨rfl, hb⟩
      rw [sameS_refl]
      exact ⟨rfl, hW.below hb⟩
    have HTX := Lib.hid htx
    have HP2 := Lib.hid hp2
    have HCK := Lib.hid hck
    have HSM := Lib.hid hsm
    subst hds
    clear htx hp2 hck hsm hpb hu htt h0 hq hpl n1 n2 n3 n4
    go_enter Tryd.func6, Tryd.ntmps6
    go_wp2_with (go_at_call 10; refine HAW.out.mono ?_; rintro e w1 ⟨rfl, hb1⟩; have HB1 := Lib.hid hb1; clear hb1)
    rw [← HT.out]
    refine (HPA.out _ HB1.out).mono ?_
    rintro x w3 ⟨A, c, D, d, rfl, hb3, hl3⟩
    have hf3 := Few.new hl3
    have HB3 := Lib.hid hb3
    have HF3 := Lib.hid hf3
    clear hb3 hl3 hf3
    have hw3 := HF3.out.lt
    obtain ⟨x0, x1, x2, x3, _⟩ := HF3.out.blk.four
    go_wp2_with (first
      | (go_at_call 12; refine (HTX.out _ _ _ _ HB3.out HF3.out).mono ?_; rintro x w4 ⟨rfl, hf4⟩; have HF4 := Lib.hid hf4; clear hf4)
      | (go_at_call 14; refine (HP2.out _ _ _ _ HB3.out HF4.out).mono ?_; rintro x w5 ⟨A3, c3, D3, d3, rfl, hf5, hl5⟩; have hlt5 := hf5.lt; obtain ⟨v0, v1, v2, v3, _⟩ := hf5.blk.four; have HF5 := Lib.hid (hf5.alloc (.cells #[.string (S q.name), .slice A3 q.players.length c3, .int .i64 q.cap, .int .i64 q.kee] 24)); have HL5 := Lib.hid (hl5.below (Below.alloc (Below.refl _ _) (Nat.le_refl _) (.cells #[.string (S q.name), .slice A3 q.players.length c3, .int .i64 q.cap, .int .i64 q.kee] 24))); have HK5 := Lib.hid (Blk.new w5 24 #[.string (S q.name), .slice A3 q.players.length c3, .int .i64 q.cap, .int .i64 q.kee]); clear hf5 hl5)
      | (go_at_call 18; refine (HCK.out _ _ _ _ HF5.out).mono ?_; rintro x w6 ⟨rfl, hb6⟩; obtain ⟨z0, z1, z2, z3, _⟩ := (HF5.out.below hb6).blk.four; obtain ⟨p0, p1, p2, p3, _⟩ := (HK5.out.below hb6 HK5.out.lt).four; have HF6 := Lib.hid (HF5.out.below hb6); have HL6 := Lib.hid (HL5.out.below hb6); clear hb6)
      | (go_at_call 19; refine (HSM.out _ _ _ _ _ _ HF6.out HL6.out).mono ?_; rintro x w7 ⟨rfl, hf7⟩; have HF7 := Lib.hid hf7; clear hf7))
    go_ret
    exact ⟨rfl, HB3.out.trans (HF7.out.bel.mono HB3.out.size)⟩
  · have hbad := parseS_bad (s := t.data.toList) (by rw [← hq]; exact hds)
    rw [← hq] at hbad
    obtain ⟨hb1, hb2⟩ := hbad
    simp only at hb1 hb2
    subst hb1
    have hpos : 0 < ds.length := List.length_pos_iff.2 hds
    have d0 : (0 : Int) < ds.length := by omega
    have d1 : (ds.length : Int) ≤ 50 := by omega
    have hsm : ∀ w3 W A c, Few w3 W noSqd A 0 c → Calls Tryd.prog 19 #[.agg #[.string ⟨#[]⟩, .slice A 0 c, .int .i64 0, .int .i64 0], .agg #[.string ⟨#[]⟩, .slice none 0 0, .int .i64 0, .int .i64 0]] W fun e9 w' => e9 = .returned (.bool true) ∧ Few w3 w' noSqd A 0 c := fun w3 W A c hW => by
      refine (sq_Same noSqd noSqd _ _ W hW.sl (Sl.nil _ _)).mono ?_
      rintro e9 w' ⟨rfl, hb⟩
      rw [sameS_refl]
      exact ⟨rfl, hW.below hb⟩
    have HSM := Lib.hid hsm
    clear hsm hds hq
    go_enter Tryd.func6, Tryd.ntmps6
    go_wp2_with (go_at_call 10; refine HAW.out.mono ?_; rintro e w1 ⟨rfl, hb1⟩; have HB1 := Lib.hid hb1; clear hb1)
    rw [← HT.out]
    refine (HPA.out _ HB1.out).mono ?_
    rintro x w3 ⟨A, c, D, d, rfl, hb3, hl3⟩
    have hf3 := Few.new hl3
    have HB3 := Lib.hid hb3
    have HF3 := Lib.hid hf3
    clear hb3 hl3 hf3
    have hw3 := HF3.out.lt
    obtain ⟨x0, x1, x2, x3, _⟩ := HF3.out.blk.four
    go_wp2_with (go_at_call 19; refine (HSM.out _ _ _ _ HF3.out).mono ?_; rintro x w7 ⟨rfl, hf7⟩; have HF7 := Lib.hid hf7; clear hf7)
    go_ret
    exact ⟨rfl, HB3.out.trans (HF7.out.bel.mono HB3.out.size)⟩
end Go.Proofs.YtfljohhocgaheaaDoor
