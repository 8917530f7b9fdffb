/- The contracts of the functions that squad.Pair calls beside the checks: the closure, slices.IndexFunc and slices.ContainsFunc at it. -/
import Derived.Test.YtfljohhocgaheaaDoorP21
import Derived.Test.YtfljohhocgaheaaDoorU3
import Derived.Test.YtfljohhocgaheaaDoorQ2
import Derived.Test.YtfljohhocgaheaaDoorQ6
import Derived.Test.YtfljohhocgaheaaDoorL1
set_option linter.unusedSimpArgs false
set_option linter.unusedVariables false
namespace Go.Proofs.YtfljohhocgaheaaDoor
open Go.RowKit

/-- The side b lies boxed in block g. -/
structure BoxAt (w : World) (g : Nat) (b : Sqd) (pv : Value) : Prop where
  blk : Blk w g 24 #[.string (S b.name), pv, .int .i64 b.cap, .int .i64 b.kee]
  sl : Lies w b pv
theorem BoxAt.below {w w' : World} {g : Nat} {b : Sqd} {pv : Value} (h : BoxAt w g b pv) (hb : Below w.heap.size w w') : BoxAt w' g b pv := ⟨h.blk.below hb h.blk.lt, h.sl.below hb⟩
theorem BoxAt.lt {w : World} {g : Nat} {b : Sqd} {pv : Value} (h : BoxAt w g b pv) : g < w.heap.size := h.blk.lt
set_option maxRecDepth 100000 in
theorem pair_clo (b : Sqd) (pv : Value) (x : ByteArray) (g : Nat) (w : World) (h : BoxAt w g b pv) :
    Calls Tryd.prog 51 #[.string x, .pointer (some ⟨g, 0, none⟩)] w fun e w' => e = .returned (.bool (decide (x.data.toList ∈ b.players))) ∧ Below w.heap.size w w' := by
  obtain ⟨A, c, rfl, hc, hc2⟩ := Sl.shape h.sl
  have hf := sq_Find b _ x w h.sl
  have hm := indexF_pos x.data.toList b.players 0
  have hr := indexS_le b.players x.data.toList
  obtain ⟨i, hi⟩ : ∃ i, i = indexS b.players x.data.toList := ⟨_, rfl⟩
  have hi' : i = indexF x.data.toList b.players 0 := hi
  rw [← hi] at hf hr
  rw [← hi'] at hm
  obtain ⟨y0, y1, y2, y3, _⟩ := h.blk.four
  unfold sqV at hf
  have HF := Lib.hid hf
  have HM := Lib.hid hm
  clear hf hm hi hi' h
  obtain ⟨r1, r2⟩ := hr
  go_enter Tryd.func51, Tryd.ntmps51
  go_wp2_with (go_at_call 21; refine HF.out.mono ?_; rintro e w2 ⟨rfl, hb2⟩)
  go_ret
  refine ⟨ret_b ?_, hb2⟩
  rw [Bool.eq_iff_iff, decide_eq_true_eq, decide_eq_true_eq, ← HM.out]
  omega
set_option maxRecDepth 100000 in
set_option maxHeartbeats 2000000 in
theorem pair_IndexFunc (l : List (List UInt8)) (lv : Value) (b : Sqd) (pv : Value) (g : Nat) (w : World) (hl : Sl 1 elStr w (· < w.heap.size) lv l) (h : BoxAt w g b pv) :
    Calls Tryd.prog 73 #[lv, .func (.func 51) #[] #[.pointer (some ⟨g, 0, none⟩)]] w fun e w' => e = .returned (.int .i64 (meetF b.players l 0)) ∧ Below w.heap.size w w' := by
  obtain ⟨z, hz⟩ : ∃ z, z = meetF b.players l 0 := ⟨_, rfl⟩
  rw [← hz]
  obtain ⟨A, c, rfl, hc, hc2⟩ := hl.shape
  have HZ : Hid (z = meetF b.players (l.drop 0) 0) := hz
  have HL := Lib.hid hl
  have H := Lib.hid h
  have HB := Lib.hid (Below.refl w.heap.size w)
  clear hz hl h
  go_enter Tryd.func73, Tryd.ntmps73
  go_wp2
  go_loopw [8] (fun i wr => ∃ k : Nat, k ≤ l.length ∧ i = .int .i64 k ∧ Below w.heap.size w wr ∧ Hid (z = meetF b.players (l.drop k) k)) (fun i _ => l.length - (intOf i).toNat)
  case atStart => exact ⟨0, Nat.zero_le _, rfl, HB.out, HZ⟩
  case round =>
    obtain ⟨k, hk, rfl, hb, hzz⟩ := hrel
    have HBB := Lib.hid hb
    have HX := Lib.hid (H.out.below hb)
    by_cases hlt : k < l.length
    · obtain ⟨b0, o, rfl, hbl, hcell⟩ := HL.out.str_at hlt
      have y := (hb.cell (p := ⟨b0, o + k, none⟩) hbl).trans hcell
      have hz2 := hzz.out
      rw [drop_get hlt, meetF] at hz2
      obtain ⟨p, hp⟩ : ∃ p, p = l[k] := ⟨_, rfl⟩
      rw [← hp] at y hz2
      clear hb hzz hp hcell
      by_cases hin : p ∈ b.players
      · rw [if_pos hin] at hz2
        have e1 : decide (p ∈ b.players) = true := decide_eq_true hin
        have HZZ := Lib.hid hz2
        clear hz2 hin
        go_wp2_with (go_at_call 51; refine (pair_clo b pv (S p) g _ HX.out).mono ?_; rintro e w2 ⟨rfl, hb2⟩; rw [S_data]; have HB2 := Lib.hid (HBB.out.trans (hb2.mono HBB.out.size)); clear hb2)
        go_ret
        exact ⟨ret_i HZZ.out.symm, HB2.out⟩
      · rw [if_neg hin] at hz2
        have e1 : decide (p ∈ b.players) = false := decide_eq_false hin
        have HZZ := Lib.hid hz2
        clear hz2 hin
        go_wp2_with (go_at_call 51; refine (pair_clo b pv (S p) g _ HX.out).mono ?_; rintro e w2 ⟨rfl, hb2⟩; rw [S_data]; have HB2 := Lib.hid (HBB.out.trans (hb2.mono HBB.out.size)); clear hb2)
        go_roundw
        case rel => exact ⟨k + 1, by omega, by go_num, HB2.out, HZZ.out⟩
        case measure => simp [intOf]; omega
    · obtain rfl : k = l.length := by omega
      have hz2 := hzz.out
      rw [List.drop_of_length_le (Nat.le_refl _), meetF] at hz2
      have HZZ := Lib.hid hz2
      clear hb hzz hz2
      go_wp2
      go_ret
      exact ⟨ret_i HZZ.out.symm, HBB.out⟩
set_option maxRecDepth 100000 in
theorem pair_ContainsFunc (l : List (List UInt8)) (lv : Value) (b : Sqd) (pv : Value) (g : Nat) (w : World) (hl : Sl 1 elStr w (· < w.heap.size) lv l) (h : BoxAt w g b pv) :
    Calls Tryd.prog 50 #[lv, .func (.func 51) #[] #[.pointer (some ⟨g, 0, none⟩)]] w fun e w' => e = .returned (.bool (l.any fun p => decide (p ∈ b.players))) ∧ Below w.heap.size w w' := by
  have hm := meetF_ge b.players l 0
  have hi := pair_IndexFunc l lv b pv g w hl h
  obtain ⟨i, hie⟩ : ∃ i, i = meetF b.players l 0 := ⟨_, rfl⟩
  rw [← hie] at hm hi
  have HM := Lib.hid hm
  have HI := Lib.hid hi
  obtain ⟨A, c, rfl, hc, hc2⟩ := hl.shape
  clear hm hi hie hl h
  go_enter Tryd.func50, Tryd.ntmps50
  go_wp2_with (go_at_call 73; refine HI.out.mono ?_; rintro e w2 ⟨rfl, hb2⟩)
  go_ret
  exact ⟨ret_b HM.out, hb2⟩
end Go.Proofs.YtfljohhocgaheaaDoor
