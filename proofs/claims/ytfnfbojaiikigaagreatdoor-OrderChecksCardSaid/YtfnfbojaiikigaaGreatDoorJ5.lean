/- The contracts of the weights' methods: harder, easier. -/
import Derived.Test.YtfnfbojaiikigaaGreatDoorJ3
import Derived.Test.YtfnfbojaiikigaaGreatDoorP61
set_option linter.unusedSimpArgs false
set_option linter.unusedVariables false
namespace Go.Proofs.YtfnfbojaiikigaaGreatDoor
open Go.RowKit

/-- The sixteen cells of the weights f: those without a wicket by runs, then those with one. -/
def wCells (f : Nat → Int) : Array Value := #[.int .i64 (f 0), .int .i64 (f 2), .int .i64 (f 4), .int .i64 (f 6), .int .i64 (f 8), .int .i64 (f 10), .int .i64 (f 12), .int .i64 (f 14), .int .i64 (f 1), .int .i64 (f 3), .int .i64 (f 5), .int .i64 (f 7), .int .i64 (f 9), .int .i64 (f 11), .int .i64 (f 13), .int .i64 (f 15)]
def cellK (j : Nat) : Nat := j / 2 + 8 * (j % 2)
theorem wCells_upd (f : Nat → Int) (j : Nat) (x : Int) (hj : j < 16) : wCells (upd f j x) = (wCells f).setIfInBounds (cellK j) (.int .i64 (f j + x)) := by
  have : j = 0 ∨ j = 1 ∨ j = 2 ∨ j = 3 ∨ j = 4 ∨ j = 5 ∨ j = 6 ∨ j = 7 ∨ j = 8 ∨ j = 9 ∨ j = 10 ∨ j = 11 ∨ j = 12 ∨ j = 13 ∨ j = 14 ∨ j = 15 := by omega
  rcases this with rfl | rfl | rfl | rfl | rfl | rfl | rfl | rfl | rfl | rfl | rfl | rfl | rfl | rfl | rfl | rfl <;> rfl
theorem wCells_at (f : Nat → Int) (j : Nat) (hj : j < 16) : (wCells f)[cellK j]? = some (.int .i64 (f j)) := by
  have : j = 0 ∨ j = 1 ∨ j = 2 ∨ j = 3 ∨ j = 4 ∨ j = 5 ∨ j = 6 ∨ j = 7 ∨ j = 8 ∨ j = 9 ∨ j = 10 ∨ j = 11 ∨ j = 12 ∨ j = 13 ∨ j = 14 ∨ j = 15 := by omega
  rcases this with rfl | rfl | rfl | rfl | rfl | rfl | rfl | rfl | rfl | rfl | rfl | rfl | rfl | rfl | rfl | rfl <;> rfl
theorem plain_at (f : Nat → Int) (r : Nat) (hr : r ≤ 7) : (wCells f)[r]? = some (.int .i64 (f (2 * r))) := by
  have := wCells_at f (2 * r) (by omega)
  rwa [show cellK (2 * r) = r from by unfold cellK; omega] at this
theorem wick_at (f : Nat → Int) (r : Nat) (hr : r ≤ 7) : (wCells f)[8 + r]? = some (.int .i64 (f (2 * r + 1))) := by
  have := wCells_at f (2 * r + 1) (by omega)
  rwa [show cellK (2 * r + 1) = 8 + r from by unfold cellK; omega] at this
theorem plain_upd (f : Nat → Int) (r : Nat) (x : Int) (hr : r ≤ 7) : wCells (upd f (2 * r) x) = (wCells f).setIfInBounds r (.int .i64 (f (2 * r) + x)) := by
  have := wCells_upd f (2 * r) x (by omega)
  rwa [show cellK (2 * r) = r from by unfold cellK; omega] at this
theorem wick_upd (f : Nat → Int) (r : Nat) (x : Int) (hr : r ≤ 7) : wCells (upd f (2 * r + 1) x) = (wCells f).setIfInBounds (8 + r) (.int .i64 (f (2 * r + 1) + x)) := by
  have := wCells_upd f (2 * r + 1) x (by omega)
  rwa [show cellK (2 * r + 1) = 8 + r from by unfold cellK; omega] at this
/-- The weights lie in block g. -/
def WAt (w : World) (g : Nat) (f : Nat → Int) : Prop := Blk w g 156 (wCells f)
theorem WAt.plain {w : World} {g : Nat} {f : Nat → Int} (h : WAt w g f) (r : Nat) (hr : r ≤ 7) : w.cell? ⟨g, r, none⟩ = some (.int .i64 (f (2 * r))) ∧ w.frozen? ⟨g, r, none⟩ = false := ⟨(Blk.cell h r).trans (plain_at f r hr), Blk.frozen h r⟩
theorem WAt.wick {w : World} {g : Nat} {f : Nat → Int} (h : WAt w g f) (r : Nat) (hr : r ≤ 7) : w.cell? ⟨g, 8 + r, none⟩ = some (.int .i64 (f (2 * r + 1))) ∧ w.frozen? ⟨g, 8 + r, none⟩ = false := ⟨(Blk.cell h (8 + r)).trans (wick_at f r hr), Blk.frozen h (8 + r)⟩
theorem WAt.setPlain {w : World} {g : Nat} {f : Nat → Int} (h : WAt w g f) (r : Nat) (x : Int) (hr : r ≤ 7) : WAt (w.setCell ⟨g, r, none⟩ (.int .i64 (f (2 * r) + x))) g (upd f (2 * r) x) := by
  unfold WAt; rw [plain_upd f r x hr]; exact Blk.set_ h r _
theorem WAt.setWick {w : World} {g : Nat} {f : Nat → Int} (h : WAt w g f) (r : Nat) (x : Int) (hr : r ≤ 7) : WAt (w.setCell ⟨g, 8 + r, none⟩ (.int .i64 (f (2 * r + 1) + x))) g (upd f (2 * r + 1) x) := by
  unfold WAt; rw [wick_upd f r x hr]; exact Blk.set_ h (8 + r) _
theorem WAt.drew {w : World} {g : Nat} {f : Nat → Int} (h : WAt w g f) : WAt w.drew g f := Blk.drew h
theorem hard_none {f : Nat → Int} {n : Nat} (h : ∀ s, 0 < s → s ≤ 7 → f (2 * s) = 0) : hardF n f = f ∧ topF f 7 = 0 := by
  have := topF_none (f := f) (m := 7) fun s h1 h2 => h s h1 h2
  exact ⟨by unfold hardF; rw [if_pos this], this⟩
theorem hard_some {f : Nat → Int} {n r : Nat} (h0 : f (2 * r) ≠ 0) (h1 : ∀ s, r < s → s ≤ 7 → f (2 * s) = 0) (h2 : r ≤ 7) (h3 : 1 ≤ r) : hardF n f = upd (upd f (2 * r) (-1)) (n % 2) 1 ∧ topF f 7 = r := by
  have := topF_at h0 h1 h2 h3
  exact ⟨by unfold hardF; rw [this, if_neg (by omega)], this⟩
set_option maxRecDepth 100000 in
set_option maxHeartbeats 2000000 in
theorem w_harder (f : Nat → Int) (n g : Nat) (w : World) (h : WAt w g f) (hf : Fit f) (hn : n ≤ 100) :
    Calls Tryz.prog 126 #[.pointer (some ⟨g, 0, none⟩), .int .i64 n] w fun e w' => e = .returned (.bool (decide (topF f 7 ≠ 0))) ∧ WAt w' g (hardF n f) ∧ Only g w w' := by
  have H := Lib.hid h
  have HF := Lib.hid hf
  obtain ⟨z, hz⟩ : ∃ z, z = decide (topF f 7 ≠ 0) := ⟨_, rfl⟩
  obtain ⟨f9, hf9⟩ : ∃ f9, f9 = hardF n f := ⟨_, rfl⟩
  rw [← hz, ← hf9]
  have HZ := Lib.hid hz
  have HF9 := Lib.hid hf9
  clear h hf hz hf9
  go_enter Tryz.func126, Tryz.ntmps126
  go_wp2
  go_loopw [5] (fun i wr => ∃ r : Nat, r ≤ 7 ∧ i = .int .i64 r ∧ (∃ q, wr = w.drewN q) ∧ Hid (∀ s, r < s → s ≤ 7 → f (2 * s) = 0)) (fun i _ => (intOf i).toNat)
  case atStart => exact ⟨7, Nat.le_refl _, rfl, ⟨0, rfl⟩, Lib.hid fun s h1 h2 => by omega⟩
  case round =>
    obtain ⟨r, hr, rfl, ⟨q, rfl⟩, hz⟩ := hrel
    by_cases h1 : 1 ≤ r
    · obtain ⟨y0, yf⟩ := H.out.plain r hr
      have e1 : (1 : Int) ≤ (r : Int) := by omega
      have e8 : (r : Int) < 8 := by omega
      by_cases h0 : f (2 * r) = 0
      · have e0 : (f (2 * r) == 0) = true := by rw [h0]; rfl
        have hz2 : ∀ s, r - 1 < s → s ≤ 7 → f (2 * s) = 0 := fun s h2 h3 => by
          by_cases hs : s = r
          · rw [hs]; exact h0
          · exact hz.out s (by omega) h3
        have HZ2 := Lib.hid hz2
        clear hz hz2 h0
        go_wp2
        go_roundw
        case rel => exact ⟨r - 1, by omega, by first | go_num | (congr 1; omega), ⟨_, rfl⟩, HZ2⟩
        case measure => simp [intOf]; omega
      · have e0 : (f (2 * r) == 0) = false := by simpa using h0
        have hb0 := HF.out.pos (2 * r) (by omega)
        have hb1 := HF.out.le (j := 2 * r) (by omega)
        obtain ⟨hh, ht⟩ := hard_some (n := n) h0 hz.out hr h1
        have et : decide (topF f 7 ≠ 0) = true := decide_eq_true (by omega)
        have HR := Lib.hid (show z = true ∧ f9 = upd (upd f (2 * r) (-1)) (n % 2) 1 from ⟨by rw [HZ.out, et], by rw [HF9.out, hh]⟩)
        have h00 : upd f (2 * r) (-1) 0 = f 0 := by unfold upd; rw [if_neg (by omega)]
        have h01 : upd f (2 * r) (-1) 1 = f 1 := by unfold upd; rw [if_neg (by omega)]
        have hc0 := HF.out.pos 0 (by omega)
        have hc1 := HF.out.le (j := 0) (by omega)
        have hd0 := HF.out.pos 1 (by omega)
        have hd1 := HF.out.le (j := 1) (by omega)
        have HF1 := Lib.hid (show (∀ W, WAt W g (upd f (2 * r) (-1)) → W.cell? ⟨g, 0, none⟩ = some (.int .i64 (f 0)) ∧ W.frozen? ⟨g, 0, none⟩ = false ∧ W.cell? ⟨g, 8, none⟩ = some (.int .i64 (f 1)) ∧ W.frozen? ⟨g, 8, none⟩ = false ∧ WAt (W.setCell ⟨g, 0, none⟩ (.int .i64 (f 0 + 1))) g (upd (upd f (2 * r) (-1)) 0 1) ∧ WAt (W.setCell ⟨g, 8, none⟩ (.int .i64 (f 1 + 1))) g (upd (upd f (2 * r) (-1)) 1 1)) from fun W hW => by
          have p := hW.plain 0 (by omega)
          have q := hW.wick 0 (by omega)
          have s := hW.setPlain 0 1 (by omega)
          have t := hW.setWick 0 1 (by omega)
          rw [show 2 * 0 = 0 from rfl, h00] at p s
          rw [show 2 * 0 + 1 = 1 from rfl, h01] at q t
          exact ⟨p.1, p.2, q.1, q.2, s, t⟩)
        clear hz h0 hh ht et h00 h01
        have hone : ∀ m : Nat, ∃ W1, W1 = (w.drewN m).setCell ⟨g, r, none⟩ (.int .i64 (f (2 * r) - 1)) ∧ WAt W1 g (upd f (2 * r) (-1)) ∧ Only g w W1 := fun m => ⟨_, rfl, WAt.setPlain (w := w.drewN m) H.out r (-1) hr, ((Only.refl g w).drewN m).setCell (p := ⟨g, r, none⟩) (.inl rfl) _⟩
        rcases Nat.mod_two_eq_zero_or_one n with hm | hm
        · have em : ((n : Int) % 2 == 0) = true := by rw [beq_iff_eq]; omega
          have HM := Lib.hid hm
          obtain ⟨W1, hW1, hw1, ho1⟩ := hone (q + 1)
          have HW := Lib.hid hW1
          have HW1 := Lib.hid hw1
          have HO1 := Lib.hid ho1
          clear hm hone hW1 hw1 ho1
          go_wp2
          go_region
          go_wp2_with fail
          rw [← HW.out]
          obtain ⟨p0, pf, q0, qf, _, _⟩ := HF1.out W1 HW1.out
          go_region
          go_wp2
          go_ret
          exact ⟨ret_b HR.out.1.symm, by rw [HR.out.2, HM.out]; exact (HF1.out W1 HW1.out).2.2.2.2.1.drew, (HO1.out.setCell (p := ⟨g, 0, none⟩) (.inl rfl) _).drew⟩
        · have em : ((n : Int) % 2 == 0) = false := by rw [beq_eq_false_iff_ne]; omega
          have HM := Lib.hid hm
          obtain ⟨W1, hW1, hw1, ho1⟩ := hone (q + 1)
          have HW := Lib.hid hW1
          have HW1 := Lib.hid hw1
          have HO1 := Lib.hid ho1
          clear hm hone hW1 hw1 ho1
          go_wp2
          go_region
          go_wp2_with fail
          rw [← HW.out]
          obtain ⟨p0, pf, q0, qf, _, _⟩ := HF1.out W1 HW1.out
          go_region
          go_wp2
          go_ret
          exact ⟨ret_b HR.out.1.symm, by rw [HR.out.2, HM.out]; exact (HF1.out W1 HW1.out).2.2.2.2.2.drew, (HO1.out.setCell (p := ⟨g, 8, none⟩) (.inl rfl) _).drew⟩
    · obtain rfl : r = 0 := by omega
      obtain ⟨hh, ht⟩ := hard_none (n := n) hz.out
      have HR := Lib.hid (show z = false ∧ f9 = f from ⟨by rw [HZ.out, ht]; rfl, by rw [HF9.out, hh]⟩)
      clear hz hh ht h1
      go_wp2
      go_ret
      exact ⟨ret_b HR.out.1.symm, by rw [HR.out.2]; exact Blk.below H.out (Below.drewN_ (Below.refl w.heap.size w) _) (Blk.lt H.out), (Only.refl g w).drewN _⟩
set_option maxRecDepth 100000 in
set_option maxHeartbeats 2000000 in
theorem w_easier (f : Nat → Int) (g : Nat) (w : World) (h : WAt w g f) (hf : Fit f) :
    Calls Tryz.prog 127 #[.pointer (some ⟨g, 0, none⟩)] w fun e w' => e = .returned (.bool (decide (0 < f 1 ∨ 0 < f 0))) ∧ WAt w' g (easyF f) ∧ Only g w w' := by
  have H := Lib.hid h
  have HF := Lib.hid hf
  obtain ⟨z, hz⟩ : ∃ z, z = decide (0 < f 1 ∨ 0 < f 0) := ⟨_, rfl⟩
  obtain ⟨f9, hf9⟩ : ∃ f9, f9 = easyF f := ⟨_, rfl⟩
  rw [← hz, ← hf9]
  have HZ := Lib.hid hz
  have HF9 := Lib.hid hf9
  clear h hf hz hf9
  obtain ⟨c8, cf8⟩ := H.out.wick 0 (by omega)
  rw [show 2 * 0 + 1 = 1 from rfl, Nat.add_zero] at c8
  rw [Nat.add_zero] at cf8
  obtain ⟨d0, df0⟩ := H.out.plain 0 (by omega)
  rw [show 2 * 0 = 0 from rfl] at d0
  go_enter Tryz.func127, Tryz.ntmps127
  by_cases h1 : 0 < f 1
  · have e1 : decide (0 < f 1) = true := decide_eq_true h1
    have hb0 := HF.out.pos 1 (by omega)
    have hb1 := HF.out.le (j := 1) (by omega)
    have hb2 := HF.out.pos 2 (by omega)
    have hb3 := HF.out.le (j := 2) (by omega)
    have HR := Lib.hid (show z = true ∧ f9 = upd (upd f 1 (-1)) 2 1 from ⟨by rw [HZ.out]; exact decide_eq_true (by omega), by rw [HF9.out]; unfold easyF; rw [if_pos h1]⟩)
    have hw1 : WAt (w.setCell ⟨g, 8, none⟩ (.int .i64 (f 1 - 1))).drew g (upd f 1 (-1)) := (WAt.setWick H.out 0 (-1) (by omega)).drew
    have ho1 : Only g w (w.setCell ⟨g, 8, none⟩ (.int .i64 (f 1 - 1))).drew := ((Only.refl g w).setCell (p := ⟨g, 8, none⟩) (.inl rfl) _).drew
    have h2 : upd f 1 (-1) 2 = f 2 := by unfold upd; rw [if_neg (by omega)]
    have hp := hw1.plain 1 (by omega)
    have hs := hw1.setPlain 1 1 (by omega)
    rw [show 2 * 1 = 2 from rfl, h2] at hp hs
    obtain ⟨W1, hW1⟩ : ∃ W1, W1 = (w.setCell ⟨g, 8, none⟩ (.int .i64 (f 1 - 1))).drew := ⟨_, rfl⟩
    rw [← hW1] at hp hs ho1
    obtain ⟨p0, pf0⟩ := hp
    have HS := Lib.hid hs
    have HO1 := Lib.hid ho1
    have HW := Lib.hid hW1
    clear hw1 ho1 h2 hs hW1
    go_wp2
    go_region
    go_wp2_with fail
    rw [← HW.out]
    go_region
    go_wp2
    go_ret
    exact ⟨ret_b HR.out.1.symm, by rw [HR.out.2]; exact HS.out.drew, (HO1.out.setCell (p := ⟨g, 1, none⟩) (.inl rfl) _).drew⟩
  · have e1 : decide (0 < f 1) = false := decide_eq_false h1
    by_cases h0 : 0 < f 0
    · have e0 : decide (0 < f 0) = true := decide_eq_true h0
      have hb0 := HF.out.pos 0 (by omega)
      have hb1 := HF.out.le (j := 0) (by omega)
      have hb2 := HF.out.pos 2 (by omega)
      have hb3 := HF.out.le (j := 2) (by omega)
      have HR := Lib.hid (show z = true ∧ f9 = upd (upd f 0 (-1)) 2 1 from ⟨by rw [HZ.out]; exact decide_eq_true (by omega), by rw [HF9.out]; unfold easyF; rw [if_neg h1, if_pos h0]⟩)
      have hw1 : WAt (w.setCell ⟨g, 0, none⟩ (.int .i64 (f 0 - 1))).drew g (upd f 0 (-1)) := (WAt.setPlain H.out 0 (-1) (by omega)).drew
      have ho1 : Only g w (w.setCell ⟨g, 0, none⟩ (.int .i64 (f 0 - 1))).drew := ((Only.refl g w).setCell (p := ⟨g, 0, none⟩) (.inl rfl) _).drew
      have h2 : upd f 0 (-1) 2 = f 2 := by unfold upd; rw [if_neg (by omega)]
      have hp := hw1.plain 1 (by omega)
      have hs := hw1.setPlain 1 1 (by omega)
      rw [show 2 * 1 = 2 from rfl, h2] at hp hs
      obtain ⟨W1, hW1⟩ : ∃ W1, W1 = (w.setCell ⟨g, 0, none⟩ (.int .i64 (f 0 - 1))).drew := ⟨_, rfl⟩
      rw [← hW1] at hp hs ho1
      obtain ⟨p0, pf0⟩ := hp
      have HS := Lib.hid hs
      have HO1 := Lib.hid ho1
      have HW := Lib.hid hW1
      clear hw1 ho1 h2 hs hW1
      go_wp2
      go_region
      go_wp2_with fail
      rw [← HW.out]
      go_region
      go_wp2
      go_ret
      exact ⟨ret_b HR.out.1.symm, by rw [HR.out.2]; exact HS.out.drew, (HO1.out.setCell (p := ⟨g, 1, none⟩) (.inl rfl) _).drew⟩
    · have e0 : decide (0 < f 0) = false := decide_eq_false h0
      have HR := Lib.hid (show z = false ∧ f9 = f from ⟨by rw [HZ.out]; exact decide_eq_false (by omega), by rw [HF9.out]; unfold easyF; rw [if_neg h1, if_neg h0]⟩)
      clear h1 h0
      go_wp2
      go_ret
      exact ⟨ret_b HR.out.1.symm, by rw [HR.out.2]; exact H.out, Only.refl g w⟩
end Go.Proofs.YtfnfbojaiikigaaGreatDoor
