/- The contracts of text.Quote and text.Write. Conditions: bounds on sizes, far beyond what the laws hand in. -/
import Derived.Test.YticfopjbaoigfaaGreatDoorT1
import Derived.Test.YticfopjbaoigfaaGreatDoorT5
import Derived.Test.YticfopjbaoigfaaGreatDoorG
import Derived.Test.YticfopjbaoigfaaGreatDoorR
set_option linter.unusedSimpArgs false
set_option linter.unusedVariables false
namespace Go.Proofs.YticfopjbaoigfaaGreatDoor
open Go.RowKit


theorem data_app (a b : ByteArray) : (a ++ b).data.toList = a.data.toList ++ b.data.toList := by simp
set_option maxRecDepth 100000 in
set_option maxHeartbeats 400000 in
theorem text_Quote (s : ByteArray) (w : World) (hg : Glob w) (hs : s.size ≤ 1000000000) :
    Calls Tryz.prog 86 #[.string s] w fun e w' => e = .returned (.string (S (quoteS s.data.toList))) ∧ Below w.heap.size w w' := by
  have hc : Lib.countB s ⟨#[34]⟩ ≤ s.size := Lib.countB_le ⟨#[34]⟩ (Nat.le_refl 1) _ s (Nat.le_refl _)
  have h2 : (⟨#[34, 34]⟩ : ByteArray).size = 2 := rfl
  have hcr := Tryz.strings_ReplaceAll_shaped s ⟨#[34]⟩ ⟨#[34, 34]⟩ w hg.shaped (by omega) (Nat.le_refl 1) (by rw [h2]; omega)
  rw [show (⟨#[34]⟩ : ByteArray).data.toList = [34] from rfl, show (⟨#[34, 34]⟩ : ByteArray).data.toList = [34, 34] from rfl, replaceAll_subst1 34 [34, 34] _ (by decide)] at hcr
  have hle := subst1_le s.data.toList
  have hsl : s.data.toList.length = s.size := by simp
  obtain ⟨X, hX⟩ : ∃ X : ByteArray, X = ⟨(subst1 34 [34, 34] s.data.toList).toArray⟩ := ⟨_, rfl⟩
  rw [← hX] at hcr
  have hXd : X.data.toList = subst1 34 [34, 34] s.data.toList := by rw [hX]
  have hXl : X.size = X.data.toList.length := by simp
  rw [hXd] at hXl
  have hXs : X.size ≤ 2000000000 := by omega
  clear hXl
  have HX := Lib.hid hXd
  have HCR := Lib.hid hcr
  clear hcr h2 hc hle hsl hX hXd
  have h1 : (⟨#[34]⟩ : ByteArray).size = 1 := rfl
  have a1 := fun W => run_string_add_sum (P := Tryz.prog) W ⟨#[34]⟩ X (by rw [h1]; omega)
  have a2 := fun W => run_string_add_sum (P := Tryz.prog) W (⟨#[34]⟩ ++ X) ⟨#[34]⟩ (by rw [ByteArray.size_append, h1]; omega)
  clear h1
  go_enter Tryz.func86, Tryz.ntmps86
  go_wp2_with (go_at_call 115; refine HCR.out.mono ?_; rintro e w1 ⟨rfl, hb1⟩)
  go_ret
  refine ⟨ret_str ?_, hb1⟩
  rw [data_app, data_app, HX.out]
  rfl

theorem byteCells_app (a b : List UInt8) : Lib.byteCells (a ++ b) = Lib.byteCells a ++ Lib.byteCells b := by simp [Lib.byteCells]
theorem bld_byte (B b : Nat) (cur : List UInt8) (c : UInt8) (n : Int) (hn : n = c.toNat) (w : World) (h : Lib.IsBuilder 115 5 B b (Lib.byteCells cur) w) (hlen : cur.length ≤ 1000000000) (hBw : B ≤ w.heap.size) :
    Calls Tryz.prog 83 #[.pointer (some ⟨b, 0, none⟩), .int .u8 n] w fun e w' => e = .returned .nilIface ∧ Lib.IsBuilder 115 5 B b (Lib.byteCells (cur ++ [c])) w' ∧ Below B w w' ∧ Lib.OthersKept 5 (some b) w w' := by
  subst hn
  refine (bld_WriteByte B b (Lib.byteCells cur) c.toNat w h (by rw [Lib.byteCells_length]; omega) hBw).mono ?_
  rintro e w' ⟨he, h1, h2, h3⟩
  exact ⟨he, .inr (by rw [byteCells_app]; exact h1), h2, h3⟩
theorem bld_str (B b : Nat) (cur : List UInt8) (s : ByteArray) (w : World) (h : Lib.IsBuilder 115 5 B b (Lib.byteCells cur) w) (hlen : cur.length ≤ 1000000000) (hs : s.size ≤ 10000000000) (hBw : B ≤ w.heap.size) :
    Calls Tryz.prog 85 #[.pointer (some ⟨b, 0, none⟩), .string s] w fun e w' => e = .returned (.tuple #[.int .i64 s.size, .nilIface]) ∧ Lib.IsBuilder 115 5 B b (Lib.byteCells (cur ++ s.data.toList)) w' ∧ Below B w w' ∧ Lib.OthersKept 5 (some b) w w' := by
  refine (bld_WriteString B b (Lib.byteCells cur) s w h (by rw [Lib.byteCells_length]; omega) hBw).mono ?_
  rintro e w' ⟨he, h1, h2, h3⟩
  exact ⟨he, .inr (by rw [byteCells_app]; exact h1), h2, h3⟩
/-- A block of the call's own, behind writes into the builder. -/
theorem kept_cell {e : TypeId} {b g : Nat} {w w' : World} {cs : Array Value} {t : TypeId} (h : Lib.OthersKept e (some b) w w') (hg : Blk w g t cs) (hne : g ≠ b) (ht : t ≠ e) : Blk w' g t cs :=
  h g _ hg (by intro e; injection e with e; exact hne e) (by intro c fz hc; injection hc with _ h2; exact ht h2)
theorem lineW_drop {fs : List Fld} {m : Nat} (h : m < fs.length) (b : Bool) : lineW (fs.drop m) b = (if b then [] else [32]) ++ fieldW fs[m] ++ lineW (fs.drop (m + 1)) false := by
  rw [List.drop_eq_getElem_cons h, lineW]
/-- One field more. -/
theorem write_step {cur rest q : List UInt8} {fs : List Fld} {m : Nat} (h : m < fs.length) (hq : cur ++ (lineW (fs.drop m) (decide (m = 0)) ++ rest) = q) :
    (cur ++ (if m = 0 then [] else [32]) ++ fieldW fs[m]) ++ (lineW (fs.drop (m + 1)) (decide (m + 1 = 0)) ++ rest) = q := by
  rw [lineW_drop h] at hq
  rw [← hq]
  have : decide (m + 1 = 0) = false := by simp
  rw [this]
  by_cases h0 : m = 0 <;> simp [h0]
theorem write_len {cur rest q : List UInt8} {fs : List Fld} {m : Nat} (h : m < fs.length) (hq : cur ++ (lineW (fs.drop m) (decide (m = 0)) ++ rest) = q) :
    cur.length ≤ q.length ∧ (cur ++ (if m = 0 then [] else [32])).length ≤ q.length ∧ fs[m].text.length ≤ q.length := by
  have h1 := write_step h hq
  have h2 := fieldW_len fs[m]
  have h3 := congrArg List.length h1
  simp only [List.length_append] at h3 ⊢
  omega

/-- The state inside the loop over a line's fields: the builder in block B, the copies of the line and of the field in their blocks. -/
structure WrSt (B : Nat) (w : World) (go gi : Nat) (oc ic : Array Value) (cu : List UInt8) (W : World) : Prop where
  bld : Lib.IsBuilder 115 5 B B (Lib.byteCells cu) W
  bel : Below B w W
  bo : Blk W go 78 oc
  bi : Blk W gi 83 ic
  no : go ≠ B
  ni : gi ≠ B
section
variable {B : Nat} {w : World} {go gi : Nat} {oc ic : Array Value} {cu cu' : List UInt8} {W W' : World}
theorem WrSt.below (h : WrSt B w go gi oc ic cu W) (hB : B ≤ W.heap.size) (hb : Below W.heap.size W W') : WrSt B w go gi oc ic cu W' :=
  ⟨builder_keep h.bld hb, h.bel.trans (hb.mono hB), h.bo.below hb h.bo.lt, h.bi.below hb h.bi.lt, h.no, h.ni⟩
theorem WrSt.write (h : WrSt B w go gi oc ic cu W) (h1 : Lib.IsBuilder 115 5 B B (Lib.byteCells cu') W') (h2 : Below B W W') (h3 : Lib.OthersKept 5 (some B) W W') : WrSt B w go gi oc ic cu' W' :=
  ⟨h1, h.bel.trans h2, kept_cell h3 h.bo h.no (by decide), kept_cell h3 h.bi h.ni (by decide), h.no, h.ni⟩
end

set_option maxRecDepth 100000 in
set_option maxHeartbeats 4000000 in
theorem text_Write (v : Value) (ls : List Lin) (w : World) (hg : Glob w) (hl : Sl 2 elLin w (· < w.heap.size) v ls) (hs : (writeS ls).length ≤ 1000000000) :
    Calls Tryz.prog 52 #[v] w fun e w' => e = .returned (.string (S (writeS ls))) ∧ Below w.heap.size w w' := by
  obtain ⟨A, c, rfl, hc1, hc2⟩ := hl.shape
  have HL := Lib.hid hl
  have HG := Lib.hid hg
  clear hl hg
  obtain ⟨q, hq⟩ : ∃ q, q = writeS ls := ⟨_, rfl⟩
  rw [← hq] at hs ⊢
  have HQ := Lib.hid hq
  clear hq
  go_enter Tryz.func52, Tryz.ntmps52
  go_wp2
  go_loopw [10] (fun i wr => ∃ (k : Nat) (cur : List UInt8), k ≤ ls.length ∧ i = .int .i64 k ∧ Lib.IsBuilder 115 5 w.heap.size w.heap.size (Lib.byteCells cur) wr ∧ Below w.heap.size w wr ∧ w.heap.size < wr.heap.size ∧ Hid (cur ++ writeS (ls.drop k) = q))
    (fun i _ => ls.length - (intOf i).toNat)
  case atStart => exact ⟨0, [], Nat.zero_le _, rfl, Lib.fresh_isBuilder _ _ w, (Below.refl _ _).alloc (Nat.le_refl _) _, by simp, HQ.out.symm⟩
  case round =>
    obtain ⟨k, cur, hk, rfl, hbld, hbel, hsz, hqk⟩ := hrel
    obtain ⟨wo, rfl⟩ : ∃ wo : World, wo = wr := ⟨_, rfl⟩
    by_cases hlt : k < ls.length
    · obtain ⟨b, o, cs, rfl, hF, hcl, hcc, hel⟩ := HL.out.at hlt
      have hqk' := hqk.out
      rw [drop_get hlt, writeS] at hqk'
      obtain ⟨⟨xn, fs⟩, hx⟩ : ∃ x, x = ls[k] := ⟨_, rfl⟩
      rw [← hx] at hel hqk'
      clear hx hqk
      obtain ⟨fv, rfl, hfl⟩ := hel
      dsimp only at hfl hcc hqk'
      obtain ⟨A2, c2, rfl, hf1, hf2⟩ := hfl.shape
      have HFL := Lib.hid hfl
      have x0 : wo.cell? ⟨b, o + k * 2, none⟩ = some (.int .i64 xn) := (hbel.cell (p := ⟨b, o + k * 2, none⟩) hF).trans (hcc 0 _ rfl)
      have x1 : wo.cell? ⟨b, o + k * 2 + 1, none⟩ = some (.slice A2 fs.length c2) := (hbel.cell (p := ⟨b, o + k * 2 + 1, none⟩) hF).trans (hcc 1 _ rfl)
      rw [List.append_assoc] at hqk'
      have HQK := Lib.hid hqk'
      clear hfl hcc hqk'
      go_wp2
      have hbld0 := builder_keep hbld ((Below.refl wo.heap.size wo).alloc (Nat.le_refl _) (.cells #[.int .i64 xn, .slice A2 fs.length c2] 78))
      have hbel0 := hbel.alloc (B := w.heap.size) (by omega) (.cells #[.int .i64 xn, .slice A2 fs.length c2] 78)
      have hblk := Blk.new wo 78 #[.int .i64 xn, .slice A2 fs.length c2]
      have hsz0 : wo.heap.size < (wo.alloc (.cells #[.int .i64 xn, .slice A2 fs.length c2] 78)).heap.size := by simp
      have HB0 := Lib.hid hbld0
      have HB1 := Lib.hid hbel0
      have HB2 := Lib.hid hblk
      have HB3 := Lib.hid hsz0
      clear hbld0 hbel0 hblk hsz0 x0 x1
      go_loopw [17] (fun j wr => ∃ (m : Nat) (cu : List UInt8), m ≤ fs.length ∧ j = .int .i64 m ∧ Lib.IsBuilder 115 5 w.heap.size w.heap.size (Lib.byteCells cu) wr ∧ Below w.heap.size w wr ∧ wo.heap.size < wr.heap.size ∧ Hid (Blk wr wo.heap.size 78 #[.int .i64 xn, .slice A2 fs.length c2]) ∧ Hid (cu ++ (lineW (fs.drop m) (decide (m = 0)) ++ (endW fs ++ writeS (ls.drop (k + 1)))) = q))
        (fun j _ => fs.length - (intOf j).toNat)
      case atStart => exact ⟨0, cur, Nat.zero_le _, rfl, HB0.out, HB1.out, HB3.out, HB2.out, HQK.out⟩
      case round =>
        obtain ⟨m, cu, hm, rfl, hbx, hbex, hsx, hblx, hqx⟩ := hrel
        by_cases hmt : m < fs.length
        · obtain ⟨b2, o2, cs2, rfl, hF2, hcl2, hcc2, hel2⟩ := HFL.out.at hmt
          have hstep := Lib.hid (write_step hmt hqx.out)
          obtain ⟨hln1, hln2, hln3⟩ := write_len hmt hqx.out
          obtain ⟨⟨ft, fc, fq⟩, hf⟩ : ∃ f, f = fs[m] := ⟨_, rfl⟩
          rw [← hf] at hel2 hstep hln3
          clear hf hqx
          have hel2' : cs2 = [.string (S ft), .int .i64 fc, .bool fq] := hel2
          subst hel2'
          dsimp only at hln3
          have y0 : wr.cell? ⟨b2, o2 + m * 3, none⟩ = some (.string (S ft)) := (hbex.cell (p := ⟨b2, o2 + m * 3, none⟩) hF2).trans (hcc2 0 _ rfl)
          have y1 : wr.cell? ⟨b2, o2 + m * 3 + 1, none⟩ = some (.int .i64 fc) := (hbex.cell (p := ⟨b2, o2 + m * 3 + 1, none⟩) hF2).trans (hcc2 1 _ rfl)
          have y2 : wr.cell? ⟨b2, o2 + m * 3 + 2, none⟩ = some (.bool fq) := (hbex.cell (p := ⟨b2, o2 + m * 3 + 2, none⟩) hF2).trans (hcc2 2 _ rfl)
          clear hcc2 hel2 hcl2
          have hst0 : WrSt w.heap.size w wo.heap.size wr.heap.size #[.int .i64 xn, .slice (some ⟨b2, o2, none⟩) fs.length c2] #[.string (S ft), .int .i64 fc, .bool fq] cu (wr.alloc (.cells #[.string (S ft), .int .i64 fc, .bool fq] 83)) :=
            ⟨builder_keep hbx ((Below.refl wr.heap.size wr).alloc (Nat.le_refl _) _), hbex.alloc (by omega) _, hblx.out.alloc _, Blk.new wr _ _, by omega, by omega⟩
          have ST0 := Lib.hid hst0
          have hz0 : (wr.alloc (.cells #[.string (S ft), .int .i64 fc, .bool fq] 83)).heap.size = wr.heap.size + 1 := by simp
          have HZ0 := Lib.hid hz0
          clear hst0 hz0
          by_cases hm0 : m = 0
          · have Hm := Lib.hid hm0
            have tm : ¬ (0 : Int) < (m : Int) := by omega
            clear hm0
            cases fq
            · cases hw : wordS ft
              · have Hw := Lib.hid hw
                go_wp2_with (first | (go_at_call 84; refine (text_word (S ft) _ (by simp only [S_size]; unfold maxLen; omega)).mono ?_; rintro e w4 ⟨rfl, hb4⟩; have st4 := Lib.hid ((ST0.out).below (by have := HZ0.out; omega) hb4); have z40 := st4.out.bi.cell 0; have hs4 := hb4.size; have hs4q := HZ0.out; clear hb4; simp only [List.getElem?_toArray, List.getElem?_cons_zero, List.getElem?_cons_succ] at z40) | (go_at_call 86; refine (text_Quote (S ft) _ (HG.out.below (st4.out).bel) (by simp only [S_size]; omega)).mono ?_; rintro e w5 ⟨rfl, hb5⟩; have st5 := Lib.hid ((st4.out).below (by omega) hb5); have hs5 := hb5.size; clear hb5) | (go_at_call 85; refine (bld_str w.heap.size w.heap.size cu (S (quoteS (S ft).data.toList)) _ (st5.out).bld (by first | omega | (simp only [List.length_append, List.length_cons, List.length_nil] at *; omega)) (by simp only [S_size, S_data]; have := quoteS_le ft; omega) (by omega)).mono ?_; rintro e w6 ⟨rfl, hb6, hbe6, hk6⟩))
                have st6 := (st5.out).write hb6 hbe6 hk6
                have hs6 := hbe6.size
                go_roundw
                case rel => exact ⟨m + 1, _, by omega, by go_num, st6.bld, st6.bel, by have := st6.bo.lt; omega, st6.bo, by unfold Hid; have hq := hstep.out; simp only [fieldW, Hw.out, Bool.false_or, Bool.not_false, if_true] at hq; rw [if_pos Hm.out, List.append_nil] at hq; simpa using hq⟩
                case measure => simp [intOf]; omega
              · have Hw := Lib.hid hw
                go_wp2_with (first | (go_at_call 84; refine (text_word (S ft) _ (by simp only [S_size]; unfold maxLen; omega)).mono ?_; rintro e w4 ⟨rfl, hb4⟩; have st4 := Lib.hid ((ST0.out).below (by have := HZ0.out; omega) hb4); have z40 := st4.out.bi.cell 0; have hs4 := hb4.size; have hs4q := HZ0.out; clear hb4; simp only [List.getElem?_toArray, List.getElem?_cons_zero, List.getElem?_cons_succ] at z40) | (go_at_call 85; refine (bld_str w.heap.size w.heap.size cu (S ft) _ (st4.out).bld (by first | omega | (simp only [List.length_append, List.length_cons, List.length_nil] at *; omega)) (by simp only [S_size]; omega) (by omega)).mono ?_; rintro e w6 ⟨rfl, hb6, hbe6, hk6⟩))
                have st6 := (st4.out).write hb6 hbe6 hk6
                have hs6 := hbe6.size
                go_roundw
                case rel => exact ⟨m + 1, _, by omega, by go_num, st6.bld, st6.bel, by have := st6.bo.lt; omega, st6.bo, by unfold Hid; have hq := hstep.out; simp only [fieldW, Hw.out, Bool.false_or, Bool.not_true, Bool.false_eq_true, if_false] at hq; rw [if_pos Hm.out, List.append_nil] at hq; simpa using hq⟩
                case measure => simp [intOf]; omega
            · skip
              go_wp2_with (first | (go_at_call 86; refine (text_Quote (S ft) _ (HG.out.below (ST0.out).bel) (by simp only [S_size]; omega)).mono ?_; rintro e w5 ⟨rfl, hb5⟩; have st5 := Lib.hid ((ST0.out).below (by have := HZ0.out; omega) hb5); have hs5 := hb5.size; have hs5q := HZ0.out; clear hb5) | (go_at_call 85; refine (bld_str w.heap.size w.heap.size cu (S (quoteS (S ft).data.toList)) _ (st5.out).bld (by first | omega | (simp only [List.length_append, List.length_cons, List.length_nil] at *; omega)) (by simp only [S_size, S_data]; have := quoteS_le ft; omega) (by omega)).mono ?_; rintro e w6 ⟨rfl, hb6, hbe6, hk6⟩))
              have st6 := (st5.out).write hb6 hbe6 hk6
              have hs6 := hbe6.size
              go_roundw
              case rel => exact ⟨m + 1, _, by omega, by go_num, st6.bld, st6.bel, by have := st6.bo.lt; omega, st6.bo, by unfold Hid; have hq := hstep.out; simp only [fieldW, Bool.true_or, if_true] at hq; rw [if_pos Hm.out, List.append_nil] at hq; simpa using hq⟩
              case measure => simp [intOf]; omega
          · have Hm := Lib.hid hm0
            have tm : (0 : Int) < (m : Int) := by omega
            rw [if_neg hm0] at hln2
            simp only [List.length_append, List.length_cons, List.length_nil] at hln2
            clear hm0
            cases fq
            · cases hw : wordS ft
              · have Hw := Lib.hid hw
                go_wp2_with (first | (go_at_call 83; refine (bld_byte w.heap.size w.heap.size cu 32 _ rfl _ ST0.out.bld (by omega) (by have := HZ0.out; omega)).mono ?_; rintro e w3 ⟨rfl, hb3, hbe3, hk3⟩; have st3 := Lib.hid (ST0.out.write hb3 hbe3 hk3); have z30 := st3.out.bi.cell 0; have z32 := st3.out.bi.cell 2; have hs3 := hbe3.size; have hs3' := HZ0.out; clear hb3 hbe3 hk3; simp only [List.getElem?_toArray, List.getElem?_cons_zero, List.getElem?_cons_succ] at z30 z32) | (go_at_call 84; refine (text_word (S ft) _ (by simp only [S_size]; unfold maxLen; omega)).mono ?_; rintro e w4 ⟨rfl, hb4⟩; have st4 := Lib.hid ((st3.out).below (by omega) hb4); have z40 := st4.out.bi.cell 0; have hs4 := hb4.size; clear hb4; simp only [List.getElem?_toArray, List.getElem?_cons_zero, List.getElem?_cons_succ] at z40) | (go_at_call 86; refine (text_Quote (S ft) _ (HG.out.below (st4.out).bel) (by simp only [S_size]; omega)).mono ?_; rintro e w5 ⟨rfl, hb5⟩; have st5 := Lib.hid ((st4.out).below (by omega) hb5); have hs5 := hb5.size; clear hb5) | (go_at_call 85; refine (bld_str w.heap.size w.heap.size (cu ++ [32]) (S (quoteS (S ft).data.toList)) _ (st5.out).bld (by first | omega | (simp only [List.length_append, List.length_cons, List.length_nil] at *; omega)) (by simp only [S_size, S_data]; have := quoteS_le ft; omega) (by omega)).mono ?_; rintro e w6 ⟨rfl, hb6, hbe6, hk6⟩))
                have st6 := (st5.out).write hb6 hbe6 hk6
                have hs6 := hbe6.size
                go_roundw
                case rel => exact ⟨m + 1, _, by omega, by go_num, st6.bld, st6.bel, by have := st6.bo.lt; omega, st6.bo, by unfold Hid; have hq := hstep.out; simp only [fieldW, Hw.out, Bool.false_or, Bool.not_false, if_true] at hq; rw [if_neg Hm.out] at hq; simpa using hq⟩
                case measure => simp [intOf]; omega
              · have Hw := Lib.hid hw
                go_wp2_with (first | (go_at_call 83; refine (bld_byte w.heap.size w.heap.size cu 32 _ rfl _ ST0.out.bld (by omega) (by have := HZ0.out; omega)).mono ?_; rintro e w3 ⟨rfl, hb3, hbe3, hk3⟩; have st3 := Lib.hid (ST0.out.write hb3 hbe3 hk3); have z30 := st3.out.bi.cell 0; have z32 := st3.out.bi.cell 2; have hs3 := hbe3.size; have hs3' := HZ0.out; clear hb3 hbe3 hk3; simp only [List.getElem?_toArray, List.getElem?_cons_zero, List.getElem?_cons_succ] at z30 z32) | (go_at_call 84; refine (text_word (S ft) _ (by simp only [S_size]; unfold maxLen; omega)).mono ?_; rintro e w4 ⟨rfl, hb4⟩; have st4 := Lib.hid ((st3.out).below (by omega) hb4); have z40 := st4.out.bi.cell 0; have hs4 := hb4.size; clear hb4; simp only [List.getElem?_toArray, List.getElem?_cons_zero, List.getElem?_cons_succ] at z40) | (go_at_call 85; refine (bld_str w.heap.size w.heap.size (cu ++ [32]) (S ft) _ (st4.out).bld (by first | omega | (simp only [List.length_append, List.length_cons, List.length_nil] at *; omega)) (by simp only [S_size]; omega) (by omega)).mono ?_; rintro e w6 ⟨rfl, hb6, hbe6, hk6⟩))
                have st6 := (st4.out).write hb6 hbe6 hk6
                have hs6 := hbe6.size
                go_roundw
                case rel => exact ⟨m + 1, _, by omega, by go_num, st6.bld, st6.bel, by have := st6.bo.lt; omega, st6.bo, by unfold Hid; have hq := hstep.out; simp only [fieldW, Hw.out, Bool.false_or, Bool.not_true, Bool.false_eq_true, if_false] at hq; rw [if_neg Hm.out] at hq; simpa using hq⟩
                case measure => simp [intOf]; omega
            · skip
              go_wp2_with (first | (go_at_call 83; refine (bld_byte w.heap.size w.heap.size cu 32 _ rfl _ ST0.out.bld (by omega) (by have := HZ0.out; omega)).mono ?_; rintro e w3 ⟨rfl, hb3, hbe3, hk3⟩; have st3 := Lib.hid (ST0.out.write hb3 hbe3 hk3); have z30 := st3.out.bi.cell 0; have z32 := st3.out.bi.cell 2; have hs3 := hbe3.size; have hs3' := HZ0.out; clear hb3 hbe3 hk3; simp only [List.getElem?_toArray, List.getElem?_cons_zero, List.getElem?_cons_succ] at z30 z32) | (go_at_call 86; refine (text_Quote (S ft) _ (HG.out.below (st3.out).bel) (by simp only [S_size]; omega)).mono ?_; rintro e w5 ⟨rfl, hb5⟩; have st5 := Lib.hid ((st3.out).below (by omega) hb5); have hs5 := hb5.size; clear hb5) | (go_at_call 85; refine (bld_str w.heap.size w.heap.size (cu ++ [32]) (S (quoteS (S ft).data.toList)) _ (st5.out).bld (by first | omega | (simp only [List.length_append, List.length_cons, List.length_nil] at *; omega)) (by simp only [S_size, S_data]; have := quoteS_le ft; omega) (by omega)).mono ?_; rintro e w6 ⟨rfl, hb6, hbe6, hk6⟩))
              have st6 := (st5.out).write hb6 hbe6 hk6
              have hs6 := hbe6.size
              go_roundw
              case rel => exact ⟨m + 1, _, by omega, by go_num, st6.bld, st6.bel, by have := st6.bo.lt; omega, st6.bo, by unfold Hid; have hq := hstep.out; simp only [fieldW, Bool.true_or, if_true] at hq; rw [if_neg Hm.out] at hq; simpa using hq⟩
              case measure => simp [intOf]; omega
        · have hz1 := hblx.out.cell 1
          simp only [List.getElem?_toArray, List.getElem?_cons_zero, List.getElem?_cons_succ] at hz1
          have hqe : cu ++ (endW fs ++ writeS (ls.drop (k + 1))) = q := by
            have := hqx.out
            rw [List.drop_of_length_le (by omega)] at this
            simpa [lineW] using this
          have hcul : cu.length ≤ q.length := by rw [← hqe]; simp
          have HQE := Lib.hid hqe
          clear hqe
          by_cases hne : fs = []
          · have hl0 : ¬ (0 : Int) < (fs.length : Int) := by rw [hne]; simp
            have hend : endW fs = [] := by rw [hne]; rfl
            have HE := Lib.hid hend
            clear hne hend
            go_wp2
            go_roundw
            case rel => exact ⟨k + 1, cu, by omega, by go_num, hbx, hbex, by omega, by unfold Hid; rw [← HQE.out, HE.out]; rfl⟩
            case measure => simp [intOf]; omega
          · have hl0 : (0 : Int) < (fs.length : Int) := by have := List.length_pos_iff.2 hne; omega
            have hend : endW fs = [10] := by unfold endW; rw [if_neg]; simpa using hne
            have HE := Lib.hid hend
            clear hne hend
            go_wp2_with (go_at_call 83; refine (bld_byte w.heap.size w.heap.size cu 10 _ rfl _ hbx (by omega) (by omega)).mono ?_; rintro e w3 ⟨rfl, hb3, hbe3, hk3⟩)
            have hs3 := hbe3.size
            go_roundw
            case rel => exact ⟨k + 1, _, by omega, by go_num, hb3, hbex.trans hbe3, by omega, by unfold Hid; rw [← HQE.out, HE.out]; simp⟩
            case measure => simp [intOf]; omega
    · go_wp2_with (go_at_call 87; refine (Tryz.Builder_String_any w.heap.size w.heap.size cur _ hbld (by omega)).mono ?_; rintro e w2 ⟨rfl, hb2⟩)
      go_ret
      have hfin : cur = q := by rw [← hqk.out, List.drop_of_length_le (by omega)]; simp [writeS]
      exact ⟨ret_str hfin, hbel.trans hb2⟩
end Go.Proofs.YticfopjbaoigfaaGreatDoor
