/-
  ModelChecks: for every input the law returns true and its arguments read as they did: the row, and the card tied to the program's text. No further conditions.
-/
import Derived.Test.YticfopjbaoigfaaGreatDoorJ0
import Derived.Test.YticfopjbaoigfaaGreatDoorH2
import Derived.Test.YticfopjbaoigfaaGreatDoorF0
import Derived.Test.YticfopjbaoigfaaGreatDoorJ9
import Derived.Deep.RegionHeld3
import Derived.Test.YticfopjbaoigfaaGreatDoorW6
import Derived.Test.YticfopjbaoigfaaGreatDoorJ10
set_option linter.unusedSimpArgs false
set_option linter.unusedVariables false
namespace Go.Proofs.YticfopjbaoigfaaGreatDoor
open Go.RowKit

theorem S_beq (a b : List UInt8) : (a == b) = decide (a = b) := by by_cases h : a = b <;> simp [h]
theorem mdlB (m : Mdl) {w : World} {bv wv : Value} (h : MdlAt w (· < w.heap.size) bv wv m) (o : Obj) : MdlAt (w.alloc o) (· < (w.alloc o).heap.size) bv wv m := h.below (Below.alloc (Below.refl _ _) (Nat.le_refl _) o)
set_option maxRecDepth 100000 in
theorem bat_clo (x y : List UInt8) (v : Value) (g : Nat) (w : World) (h : w.cell? ⟨g, 0, none⟩ = some (.string (S x))) (hg : g < w.heap.size) :
    Calls Tryz.prog 44 #[.agg #[.string (S y), v], .pointer (some ⟨g, 0, none⟩)] w fun e w' => e = .returned (.bool (decide (y = x))) ∧ Below w.heap.size w w' := by
  have e1 := S_beq y x
  have hc : (w.alloc (.cells #[.string (S y), v] 43)).cell? ⟨g, 0, none⟩ = some (.string (S x)) := (World.cell?_alloc_lt w _ ⟨g, 0, none⟩ hg).trans h
  clear h
  go_enter Tryz.func44, Tryz.ntmps44
  go_wp2
  go_ret
  exact ⟨rfl, (Below.refl _ _).alloc (Nat.le_refl _) _⟩
theorem bat_drop {l : List Bat} {x : List UInt8} {z : Int} {k : Nat} (hk : k < l.length) (h : z = indexF x ((l.drop k).map (·.name)) k) : z = if l[k].name = x then (k : Int) else indexF x ((l.drop (k + 1)).map (·.name)) (k + 1) := by
  rw [drop_get hk, List.map_cons, indexF] at h; exact h
set_option maxRecDepth 100000 in
set_option maxHeartbeats 2000000 in
theorem bat_IndexFunc (l : List Bat) (lv : Value) (x : List UInt8) (g : Nat) (w : World) (hl : Sl 2 elBat w (· < w.heap.size) lv l) (h : w.cell? ⟨g, 0, none⟩ = some (.string (S x))) (hg : g < w.heap.size) :
    Calls Tryz.prog 43 #[lv, .func (.func 44) #[] #[.pointer (some ⟨g, 0, none⟩)]] w fun e w' => e = .returned (.int .i64 (batI l x)) ∧ Below w.heap.size w w' := by
  obtain ⟨z, hz⟩ : ∃ z, z = batI l x := ⟨_, rfl⟩
  rw [← hz]
  obtain ⟨A, c, rfl, hc, hc2⟩ := hl.shape
  have HZ : Hid (z = indexF x ((l.drop 0).map (·.name)) 0) := hz
  have HL := Lib.hid hl
  have HH := Lib.hid h
  have HG := Lib.hid hg
  have HB := Lib.hid (Below.refl w.heap.size w)
  clear hz hl h hg
  go_enter Tryz.func43, Tryz.ntmps43
  go_wp2
  go_loopw [8] (fun i wr => ∃ k : Nat, k ≤ l.length ∧ i = .int .i64 k ∧ Below w.heap.size w wr ∧ Hid (z = indexF x ((l.drop k).map (·.name)) k)) (fun i _ => l.length - (intOf i).toNat)
  case atStart => exact ⟨0, Nat.zero_le _, rfl, HB.out, HZ⟩
  case round =>
    obtain ⟨k, hk, rfl, hb, hzz⟩ := hrel
    have HBB := Lib.hid hb
    have KC := Lib.hid (fun (y : List UInt8) (v : Value) => bat_clo x y v g wr ((hb.cell (p := ⟨g, 0, none⟩) HG.out).trans HH.out) (Nat.lt_of_lt_of_le HG.out hb.size))
    by_cases hlt : k < l.length
    · obtain ⟨b0, o, v, rfl, hbl, yy0, yy1, _, _⟩ := bat_at HL.out hlt
      have y0 := (hb.cell (p := ⟨b0, o + k * 2, none⟩) hbl).trans yy0
      have y1 := (hb.cell (p := ⟨b0, o + k * 2 + 1, none⟩) hbl).trans yy1
      obtain ⟨p, hp⟩ : ∃ p, p = l[k].name := ⟨_, rfl⟩
      have hz2 := bat_drop hlt hzz.out
      rw [← hp] at hz2 y0
      clear hb hzz hp yy0 yy1
      by_cases hin : p = x
      · rw [if_pos hin] at hz2
        have e1 : decide (p = x) = true := decide_eq_true hin
        have HZZ := Lib.hid hz2
        clear hz2 hin
        go_wp2_with (go_at_call 44; refine (KC.out _ _).mono ?_; rintro e w2 ⟨rfl, hb2⟩; rw [e1]; have HB2 := Lib.hid (HBB.out.trans (hb2.mono HBB.out.size)); clear hb2)
        go_ret
        exact ⟨ret_i HZZ.out.symm, HB2.out⟩
      · rw [if_neg hin] at hz2
        have e1 : decide (p = x) = false := decide_eq_false hin
        have HZZ := Lib.hid hz2
        clear hz2 hin
        go_wp2_with (go_at_call 44; refine (KC.out _ _).mono ?_; rintro e w2 ⟨rfl, hb2⟩; rw [e1]; have HB2 := Lib.hid (HBB.out.trans (hb2.mono HBB.out.size)); clear hb2)
        go_roundw
        case rel => exact ⟨k + 1, by omega, by go_num, HB2.out, HZZ⟩
        case measure => simp [intOf]; omega
    · obtain rfl : k = l.length := by omega
      have hz2 := hzz.out
      rw [List.drop_of_length_le (Nat.le_refl _), List.map_nil, indexF] at hz2
      have HZZ := Lib.hid hz2
      clear hb hzz hz2
      go_wp2
      go_ret
      exact ⟨ret_i HZZ.out.symm, HBB.out⟩
set_option maxRecDepth 100000 in
set_option maxHeartbeats 2000000 in
theorem m_Batter (m : Mdl) (bv wv : Value) (x : List UInt8) (w : World) (h : MdlAt w (· < w.heap.size) bv wv m) :
    Calls Tryz.prog 19 #[.agg #[bv, wv], .string (S x)] w fun e w' => e = .returned (.int .i64 (batI m.bats x)) ∧ Below w.heap.size w w' := by
  obtain ⟨z, hz⟩ : ∃ z, z = batI m.bats x := ⟨_, rfl⟩
  have hb1 : Below w.heap.size w (w.alloc (.cells #[bv, wv] 36)) := Below.alloc (Below.refl _ _) (Nat.le_refl _) _
  have hb2 : Below w.heap.size w ((w.alloc (.cells #[bv, wv] 36)).alloc (.cells #[.string (S x)] 9)) := hb1.alloc hb1.size _
  have hm := h.below hb2
  have hk := bat_IndexFunc m.bats _ x (w.heap.size + 1) _ hm.bat (by have := (Blk.new (w.alloc (.cells #[bv, wv] 36)) 9 #[.string (S x)]).cell 0; rw [World.size_alloc] at this; exact this) (by simp)
  rw [← hz] at hk ⊢
  have HK := Lib.hid hk
  have HB := Lib.hid hb2
  clear hz hb1 hb2 hm hk h
  go_enter Tryz.func19, Tryz.ntmps19
  go_wp2_with (go_at_call 43; refine HK.out.mono ?_; rintro e w2 ⟨rfl, hb⟩; have HB2 := Lib.hid (HB.out.trans (hb.mono HB.out.size)); clear hb)
  go_ret
  exact ⟨rfl, HB2.out⟩
set_option maxRecDepth 100000 in
set_option maxHeartbeats 2000000 in
theorem r_Batter (m : Mdl) (bv wv : Value) (x : List UInt8) (w : World) (h : MdlAt w (· < w.heap.size) bv wv m) :
    Calls Tryz.prog 20 #[.agg #[bv, wv], .string (S x)] w fun e w' => e = .returned (.int .i64 (batI m.bats x)) ∧ Below w.heap.size w w' := by
  obtain ⟨z, hz⟩ : ∃ z, z = batI m.bats x := ⟨_, rfl⟩
  rw [← hz]
  have hl := h.bat
  obtain ⟨l, hle⟩ : ∃ l, l = m.bats := ⟨_, rfl⟩
  rw [← hle] at hz hl
  clear h hle
  obtain ⟨vv, hvv⟩ : ∃ vv, vv = bv := ⟨_, rfl⟩
  rw [← hvv] at hl
  obtain ⟨A, c, hA, hc, hc2⟩ := hl.shape
  rw [hA] at hvv hl
  subst hvv
  clear hA
  have HZ : Hid (z = indexF x ((l.drop 0).map (·.name)) 0) := hz
  have HL := Lib.hid hl
  have HB := Lib.hid ((Below.refl w.heap.size w).alloc (Nat.le_refl _) (.cells #[.slice A l.length c, wv] 36))
  clear hz hl
  go_enter Tryz.func20, Tryz.ntmps20
  go_wp2
  go_loopw [10] (fun i wr => ∃ k : Nat, k ≤ l.length ∧ i = .int .i64 k ∧ Below w.heap.size w wr ∧ Hid (z = indexF x ((l.drop k).map (·.name)) k)) (fun i _ => l.length - (intOf i).toNat)
  case atStart => exact ⟨0, Nat.zero_le _, rfl, HB.out, HZ⟩
  case round =>
    obtain ⟨k, hk, rfl, hb, hzz⟩ := hrel
    have HBB := Lib.hid hb
    by_cases hlt : k < l.length
    · obtain ⟨b0, o, v, rfl, hbl, yy0, yy1, hv, _⟩ := bat_at HL.out hlt
      obtain ⟨A2, c2, hve, _, _⟩ := hv.shape
      obtain ⟨n2, hn2⟩ : ∃ n, n = l[k].dist.length := ⟨_, rfl⟩
      rw [← hn2] at hve
      subst hve
      have y0 := (hb.cell (p := ⟨b0, o + k * 2, none⟩) hbl).trans yy0
      have y1 := (hb.cell (p := ⟨b0, o + k * 2 + 1, none⟩) hbl).trans yy1
      obtain ⟨p, hp⟩ : ∃ p, p = l[k].name := ⟨_, rfl⟩
      have hz2 := bat_drop hlt hzz.out
      rw [← hp] at hz2 y0
      have e0 := S_beq p x
      clear hb hzz hp yy0 yy1 hv hn2
      by_cases hin : p = x
      · rw [if_pos hin] at hz2
        rw [decide_eq_true hin] at e0
        have HZZ := Lib.hid hz2
        clear hz2 hin
        go_wp2
        go_ret
        exact ⟨ret_i HZZ.out.symm, HBB.out.alloc HBB.out.size _⟩
      · rw [if_neg hin] at hz2
        rw [decide_eq_false hin] at e0
        have HZZ := Lib.hid hz2
        clear hz2 hin
        go_wp2
        go_roundw
        case rel => exact ⟨k + 1, by omega, by go_num, HBB.out.alloc HBB.out.size _, HZZ⟩
        case measure => simp [intOf]; omega
    · obtain rfl : k = l.length := by omega
      have hz2 := hzz.out
      rw [List.drop_of_length_le (Nat.le_refl _), List.map_nil, indexF] at hz2
      have HZZ := Lib.hid hz2
      clear hb hzz hz2
      go_wp2
      go_ret
      exact ⟨ret_i HZZ.out.symm, HBB.out⟩
set_option maxRecDepth 100000 in
theorem bow_clo (x y : List UInt8) (v : Value) (g : Nat) (w : World) (h : w.cell? ⟨g, 0, none⟩ = some (.string (S x))) (hg : g < w.heap.size) :
    Calls Tryz.prog 46 #[.agg #[.string (S y), v], .pointer (some ⟨g, 0, none⟩)] w fun e w' => e = .returned (.bool (decide (y = x))) ∧ Below w.heap.size w w' := by
  have e1 := S_beq y x
  have hc : (w.alloc (.cells #[.string (S y), v] 45)).cell? ⟨g, 0, none⟩ = some (.string (S x)) := (World.cell?_alloc_lt w _ ⟨g, 0, none⟩ hg).trans h
  clear h
  go_enter Tryz.func46, Tryz.ntmps46
  go_wp2
  go_ret
  exact ⟨rfl, (Below.refl _ _).alloc (Nat.le_refl _) _⟩
theorem bow_drop {l : List Bow} {x : List UInt8} {z : Int} {k : Nat} (hk : k < l.length) (h : z = indexF x ((l.drop k).map (·.name)) k) : z = if l[k].name = x then (k : Int) else indexF x ((l.drop (k + 1)).map (·.name)) (k + 1) := by
  rw [drop_get hk, List.map_cons, indexF] at h; exact h
set_option maxRecDepth 100000 in
set_option maxHeartbeats 2000000 in
theorem bow_IndexFunc (l : List Bow) (lv : Value) (x : List UInt8) (g : Nat) (w : World) (hl : Sl 2 elBow w (· < w.heap.size) lv l) (h : w.cell? ⟨g, 0, none⟩ = some (.string (S x))) (hg : g < w.heap.size) :
    Calls Tryz.prog 45 #[lv, .func (.func 46) #[] #[.pointer (some ⟨g, 0, none⟩)]] w fun e w' => e = .returned (.int .i64 (bowI l x)) ∧ Below w.heap.size w w' := by
  obtain ⟨z, hz⟩ : ∃ z, z = bowI l x := ⟨_, rfl⟩
  rw [← hz]
  obtain ⟨A, c, rfl, hc, hc2⟩ := hl.shape
  have HZ : Hid (z = indexF x ((l.drop 0).map (·.name)) 0) := hz
  have HL := Lib.hid hl
  have HH := Lib.hid h
  have HG := Lib.hid hg
  have HB := Lib.hid (Below.refl w.heap.size w)
  clear hz hl h hg
  go_enter Tryz.func45, Tryz.ntmps45
  go_wp2
  go_loopw [8] (fun i wr => ∃ k : Nat, k ≤ l.length ∧ i = .int .i64 k ∧ Below w.heap.size w wr ∧ Hid (z = indexF x ((l.drop k).map (·.name)) k)) (fun i _ => l.length - (intOf i).toNat)
  case atStart => exact ⟨0, Nat.zero_le _, rfl, HB.out, HZ⟩
  case round =>
    obtain ⟨k, hk, rfl, hb, hzz⟩ := hrel
    have HBB := Lib.hid hb
    have KC := Lib.hid (fun (y : List UInt8) (v : Value) => bow_clo x y v g wr ((hb.cell (p := ⟨g, 0, none⟩) HG.out).trans HH.out) (Nat.lt_of_lt_of_le HG.out hb.size))
    by_cases hlt : k < l.length
    · obtain ⟨b0, o, rfl, hbl, yy0, yy1, _⟩ := bow_at HL.out hlt
      have y0 := (hb.cell (p := ⟨b0, o + k * 2, none⟩) hbl).trans yy0
      have y1 := (hb.cell (p := ⟨b0, o + k * 2 + 1, none⟩) hbl).trans yy1
      obtain ⟨sh, hsh⟩ : ∃ s, s = l[k].shift := ⟨_, rfl⟩
      rw [← hsh] at y1
      obtain ⟨p, hp⟩ : ∃ p, p = l[k].name := ⟨_, rfl⟩
      have hz2 := bow_drop hlt hzz.out
      rw [← hp] at hz2 y0
      clear hb hzz hp yy0 yy1 hsh
      by_cases hin : p = x
      · rw [if_pos hin] at hz2
        have e1 : decide (p = x) = true := decide_eq_true hin
        have HZZ := Lib.hid hz2
        clear hz2 hin
        go_wp2_with (go_at_call 46; refine (KC.out _ _).mono ?_; rintro e w2 ⟨rfl, hb2⟩; rw [e1]; have HB2 := Lib.hid (HBB.out.trans (hb2.mono HBB.out.size)); clear hb2)
        go_ret
        exact ⟨ret_i HZZ.out.symm, HB2.out⟩
      · rw [if_neg hin] at hz2
        have e1 : decide (p = x) = false := decide_eq_false hin
        have HZZ := Lib.hid hz2
        clear hz2 hin
        go_wp2_with (go_at_call 46; refine (KC.out _ _).mono ?_; rintro e w2 ⟨rfl, hb2⟩; rw [e1]; have HB2 := Lib.hid (HBB.out.trans (hb2.mono HBB.out.size)); clear hb2)
        go_roundw
        case rel => exact ⟨k + 1, by omega, by go_num, HB2.out, HZZ⟩
        case measure => simp [intOf]; omega
    · obtain rfl : k = l.length := by omega
      have hz2 := hzz.out
      rw [List.drop_of_length_le (Nat.le_refl _), List.map_nil, indexF] at hz2
      have HZZ := Lib.hid hz2
      clear hb hzz hz2
      go_wp2
      go_ret
      exact ⟨ret_i HZZ.out.symm, HBB.out⟩
set_option maxRecDepth 100000 in
set_option maxHeartbeats 2000000 in
theorem m_Bowler (m : Mdl) (bv wv : Value) (x : List UInt8) (w : World) (h : MdlAt w (· < w.heap.size) bv wv m) :
    Calls Tryz.prog 21 #[.agg #[bv, wv], .string (S x)] w fun e w' => e = .returned (.int .i64 (bowI m.bows x)) ∧ Below w.heap.size w w' := by
  obtain ⟨z, hz⟩ : ∃ z, z = bowI m.bows x := ⟨_, rfl⟩
  have hb1 : Below w.heap.size w (w.alloc (.cells #[bv, wv] 36)) := Below.alloc (Below.refl _ _) (Nat.le_refl _) _
  have hb2 : Below w.heap.size w ((w.alloc (.cells #[bv, wv] 36)).alloc (.cells #[.string (S x)] 9)) := hb1.alloc hb1.size _
  have hm := h.below hb2
  have hk := bow_IndexFunc m.bows _ x (w.heap.size + 1) _ hm.bow (by have := (Blk.new (w.alloc (.cells #[bv, wv] 36)) 9 #[.string (S x)]).cell 0; rw [World.size_alloc] at this; exact this) (by simp)
  rw [← hz] at hk ⊢
  have HK := Lib.hid hk
  have HB := Lib.hid hb2
  clear hz hb1 hb2 hm hk h
  go_enter Tryz.func21, Tryz.ntmps21
  go_wp2_with (go_at_call 45; refine HK.out.mono ?_; rintro e w2 ⟨rfl, hb⟩; have HB2 := Lib.hid (HB.out.trans (hb.mono HB.out.size)); clear hb)
  go_ret
  exact ⟨rfl, HB2.out⟩
set_option maxRecDepth 100000 in
set_option maxHeartbeats 2000000 in
theorem r_Bowler (m : Mdl) (bv wv : Value) (x : List UInt8) (w : World) (h : MdlAt w (· < w.heap.size) bv wv m) :
    Calls Tryz.prog 22 #[.agg #[bv, wv], .string (S x)] w fun e w' => e = .returned (.int .i64 (bowI m.bows x)) ∧ Below w.heap.size w w' := by
  obtain ⟨z, hz⟩ : ∃ z, z = bowI m.bows x := ⟨_, rfl⟩
  rw [← hz]
  have hl := h.bow
  obtain ⟨l, hle⟩ : ∃ l, l = m.bows := ⟨_, rfl⟩
  rw [← hle] at hz hl
  clear h hle
  obtain ⟨vv, hvv⟩ : ∃ vv, vv = wv := ⟨_, rfl⟩
  rw [← hvv] at hl
  obtain ⟨A, c, hA, hc, hc2⟩ := hl.shape
  rw [hA] at hvv hl
  subst hvv
  clear hA
  have HZ : Hid (z = indexF x ((l.drop 0).map (·.name)) 0) := hz
  have HL := Lib.hid hl
  have HB := Lib.hid ((Below.refl w.heap.size w).alloc (Nat.le_refl _) (.cells #[bv, .slice A l.length c] 36))
  clear hz hl
  go_enter Tryz.func22, Tryz.ntmps22
  go_wp2
  go_loopw [10] (fun i wr => ∃ k : Nat, k ≤ l.length ∧ i = .int .i64 k ∧ Below w.heap.size w wr ∧ Hid (z = indexF x ((l.drop k).map (·.name)) k)) (fun i _ => l.length - (intOf i).toNat)
  case atStart => exact ⟨0, Nat.zero_le _, rfl, HB.out, HZ⟩
  case round =>
    obtain ⟨k, hk, rfl, hb, hzz⟩ := hrel
    have HBB := Lib.hid hb
    by_cases hlt : k < l.length
    · obtain ⟨b0, o, rfl, hbl, yy0, yy1, _⟩ := bow_at HL.out hlt
      have y0 := (hb.cell (p := ⟨b0, o + k * 2, none⟩) hbl).trans yy0
      have y1 := (hb.cell (p := ⟨b0, o + k * 2 + 1, none⟩) hbl).trans yy1
      obtain ⟨sh, hsh⟩ : ∃ s, s = l[k].shift := ⟨_, rfl⟩
      rw [← hsh] at y1
      obtain ⟨p, hp⟩ : ∃ p, p = l[k].name := ⟨_, rfl⟩
      have hz2 := bow_drop hlt hzz.out
      rw [← hp] at hz2 y0
      have e0 := S_beq p x
      clear hb hzz hp yy0 yy1 hsh
      by_cases hin : p = x
      · rw [if_pos hin] at hz2
        rw [decide_eq_true hin] at e0
        have HZZ := Lib.hid hz2
        clear hz2 hin
        go_wp2
        go_ret
        exact ⟨ret_i HZZ.out.symm, HBB.out.alloc HBB.out.size _⟩
      · rw [if_neg hin] at hz2
        rw [decide_eq_false hin] at e0
        have HZZ := Lib.hid hz2
        clear hz2 hin
        go_wp2
        go_roundw
        case rel => exact ⟨k + 1, by omega, by go_num, HBB.out.alloc HBB.out.size _, HZZ⟩
        case measure => simp [intOf]; omega
    · obtain rfl : k = l.length := by omega
      have hz2 := hzz.out
      rw [List.drop_of_length_le (Nat.le_refl _), List.map_nil, indexF] at hz2
      have HZZ := Lib.hid hz2
      clear hb hzz hz2
      go_wp2
      go_ret
      exact ⟨ret_i HZZ.out.symm, HBB.out⟩
end Go.Proofs.YticfopjbaoigfaaGreatDoor

namespace Go.Proofs.YticfopjbaoigfaaGreatDoor
open Go.RowKit

/-- A model boxed in block g, a copy of an element in block B. -/
structure TwoM (w W : World) (g B : Nat) (t : TypeId) (bv wv x v : Value) : Prop where
  bel : Below w.heap.size w W
  box : Blk W g 36 #[bv, wv]
  el : Blk W B t #[x, v]
theorem Blk.duo {w : World} {g : Nat} {t : TypeId} {a b : Value} (h : Blk w g t #[a, b]) : w.cell? ⟨g, 0, none⟩ = some a ∧ w.cell? ⟨g, 1, none⟩ = some b ∧ w.frozen? ⟨g, 0, none⟩ = false ∧ w.frozen? ⟨g, 1, none⟩ = false := ⟨h.cell 0, h.cell 1, h.frozen 0, h.frozen 1⟩
theorem TwoM.below {w W W' : World} {g B : Nat} {t : TypeId} {bv wv x v : Value} (h : TwoM w W g B t bv wv x v) (hb : Below W.heap.size W W') : TwoM w W' g B t bv wv x v := ⟨h.bel.trans (hb.mono h.bel.size), h.box.below hb h.box.lt, h.el.below hb h.el.lt⟩
theorem TwoM.cells {w W : World} {g B : Nat} {t : TypeId} {bv wv x v : Value} (h : TwoM w W g B t bv wv x v) : W.cell? ⟨g, 0, none⟩ = some bv ∧ W.cell? ⟨g, 1, none⟩ = some wv ∧ W.cell? ⟨B, 0, none⟩ = some x ∧ W.cell? ⟨B, 1, none⟩ = some v := ⟨h.box.duo.1, h.box.duo.2.1, h.el.duo.1, h.el.duo.2.1⟩
theorem TwoM.new {w W : World} {g : Nat} {bv wv : Value} (hb : Below w.heap.size w W) (hx : Blk W g 36 #[bv, wv]) (t : TypeId) (x v : Value) : TwoM w (W.alloc (.cells #[x, v] t)) g W.heap.size t bv wv x v := ⟨hb.alloc hb.size _, hx.alloc _, Blk.new _ _ _⟩
theorem bat_ways (pre : List (List UInt8)) (b : Bat) : (nameS b.name = false ∧ batErr pre b = 5) ∨ (nameS b.name = true ∧ decide (b.name ∈ pre) = true ∧ batErr pre b = 7) ∨ (nameS b.name = true ∧ decide (b.name ∈ pre) = false ∧ batErr pre b = checkD b.dist) := by
  unfold batErr
  cases h1 : nameS b.name
  · exact .inl ⟨rfl, by simp⟩
  · by_cases h2 : b.name ∈ pre
    · exact .inr (.inl ⟨rfl, by simp [h2], by rw [if_neg (by simp), if_pos h2]⟩)
    · exact .inr (.inr ⟨rfl, by simp [h2], by rw [if_neg (by simp), if_neg h2]⟩)
theorem bow_ways (pre : List (List UInt8)) (b : Bow) : (nameS b.name = false ∧ bowErr pre b = 5) ∨ (nameS b.name = true ∧ decide (b.name ∈ pre) = true ∧ bowErr pre b = 7) ∨ (nameS b.name = true ∧ decide (b.name ∈ pre) = false ∧ b.shift < -12 ∧ bowErr pre b = 2) ∨ (nameS b.name = true ∧ decide (b.name ∈ pre) = false ∧ ¬ b.shift < -12 ∧ 12 < b.shift ∧ bowErr pre b = 2) ∨ (nameS b.name = true ∧ decide (b.name ∈ pre) = false ∧ ¬ b.shift < -12 ∧ ¬ 12 < b.shift ∧ bowErr pre b = 0) := by
  unfold bowErr
  cases h1 : nameS b.name
  · exact .inl ⟨rfl, by simp⟩
  · by_cases h2 : b.name ∈ pre
    · exact .inr (.inl ⟨rfl, by simp [h2], by rw [if_neg (by simp), if_pos h2]⟩)
    · by_cases h3 : b.shift < -12
      · exact .inr (.inr (.inl ⟨rfl, by simp [h2], h3, by rw [if_neg (by simp), if_neg h2, if_pos (.inl h3)]⟩))
      · by_cases h4 : 12 < b.shift
        · exact .inr (.inr (.inr (.inl ⟨rfl, by simp [h2], h3, h4, by rw [if_neg (by simp), if_neg h2, if_pos (.inr h4)]⟩)))
        · exact .inr (.inr (.inr (.inr ⟨rfl, by simp [h2], h3, h4, by rw [if_neg (by simp), if_neg h2, if_neg (by omega)]⟩)))
/-- What is left of a check: the batters from k on, then the bowlers. -/
def restM (m : Mdl) (k : Nat) : Int := if batsF ((m.bats.take k).map (·.name)) (m.bats.drop k) ≠ 0 then batsF ((m.bats.take k).map (·.name)) (m.bats.drop k) else bowsF [] m.bows
def restW (m : Mdl) (k : Nat) : Int := bowsF ((m.bows.take k).map (·.name)) (m.bows.drop k)
theorem restM_at {m : Mdl} {k : Nat} (hk : k < m.bats.length) : restM m k = if batErr ((m.bats.take k).map (·.name)) m.bats[k] ≠ 0 then batErr ((m.bats.take k).map (·.name)) m.bats[k] else restM m (k + 1) := by
  unfold restM
  rw [batsF_at hk]
  by_cases h : batErr ((m.bats.take k).map (·.name)) m.bats[k] ≠ 0
  · simp only [if_pos h]
  · rw [if_neg h, if_neg h]
theorem restM_end {m : Mdl} : restM m m.bats.length = restW m 0 := by
  unfold restM restW
  rw [List.drop_of_length_le (Nat.le_refl _), batsF, if_neg (by simp)]
  simp
theorem restW_at {m : Mdl} {k : Nat} (hk : k < m.bows.length) : restW m k = if bowErr ((m.bows.take k).map (·.name)) m.bows[k] ≠ 0 then bowErr ((m.bows.take k).map (·.name)) m.bows[k] else restW m (k + 1) := bowsF_at hk
theorem restW_end {m : Mdl} : restW m m.bows.length = 0 := by
  unfold restW
  rw [List.drop_of_length_le (Nat.le_refl _), bowsF]
theorem checkM_rest {m : Mdl} (h1 : ¬ (m.bats.length = 0 ∨ m.bows.length = 0)) (h2 : ¬ (11 < m.bats.length ∨ 11 < m.bows.length)) : checkM m = restM m 0 := by
  unfold checkM restM
  rw [if_neg h1, if_neg h2]; simp
set_option maxRecDepth 100000 in
set_option maxHeartbeats 4000000 in
theorem m_Check (m : Mdl) (bv wv : Value) (w : World) (h : MdlAt w (· < w.heap.size) bv wv m) :
    Calls Tryz.prog 17 #[.agg #[bv, wv]] w fun e w' => e = .returned (.int .i64 (checkM m)) ∧ Below w.heap.size w w' := by
  obtain ⟨z, hz⟩ : ∃ z, z = checkM m := ⟨_, rfl⟩
  rw [← hz]
  obtain ⟨A, c, rfl, hc, hc2⟩ := h.bat.shape
  obtain ⟨A', c', rfl, hc', hc2'⟩ := h.bow.shape
  have HM := Lib.hid h
  have hb1 : Below w.heap.size w (w.alloc (.cells #[.slice A m.bats.length c, .slice A' m.bows.length c'] 36)) := Below.alloc (Below.refl _ _) (Nat.le_refl _) _
  have hx1 := Blk.new w 36 #[.slice A m.bats.length c, .slice A' m.bows.length c']
  by_cases h1 : m.bats.length = 0 ∨ m.bows.length = 0
  · have HZ := Lib.hid (show z = 6 by rw [hz]; unfold checkM; rw [if_pos h1])
    have HB1 := Lib.hid hb1
    clear hz h hb1 hx1
    by_cases h2 : m.bats.length = 0
    · have e1 : ((m.bats.length : Int) == 0) = true := beq_iff_eq.2 (by omega)
      have h3 := Lib.hid h2
      clear h1 h2
      go_enter Tryz.func17, Tryz.ntmps17
      go_wp2
      go_ret
      exact ⟨ret_i HZ.out.symm, HB1.out⟩
    · have e1 : ((m.bats.length : Int) == 0) = false := beq_eq_false_iff_ne.2 (by omega)
      have e2 : ((m.bows.length : Int) == 0) = true := beq_iff_eq.2 (by omega)
      have h3 := Lib.hid h2
      clear h1 h2
      go_enter Tryz.func17, Tryz.ntmps17
      go_wp2
      go_ret
      exact ⟨ret_i HZ.out.symm, HB1.out⟩
  have e1 : ((m.bats.length : Int) == 0) = false := beq_eq_false_iff_ne.2 (by omega)
  have e2 : ((m.bows.length : Int) == 0) = false := beq_eq_false_iff_ne.2 (by omega)
  by_cases h2 : 11 < m.bats.length ∨ 11 < m.bows.length
  · have HZ := Lib.hid (show z = 9 by rw [hz]; unfold checkM; rw [if_neg h1, if_pos h2])
    have HB1 := Lib.hid hb1
    clear hz h hb1 hx1 h1
    by_cases h3 : 11 < m.bats.length
    · have e3 : (11 : Int) < (m.bats.length : Int) := by omega
      clear h2 h3
      go_enter Tryz.func17, Tryz.ntmps17
      go_wp2
      go_ret
      exact ⟨ret_i HZ.out.symm, HB1.out⟩
    · have e3 : ¬ (11 : Int) < (m.bats.length : Int) := by omega
      have e4 : (11 : Int) < (m.bows.length : Int) := by omega
      clear h2 h3
      go_enter Tryz.func17, Tryz.ntmps17
      go_wp2
      go_ret
      exact ⟨ret_i HZ.out.symm, HB1.out⟩
  have HZ0 := Lib.hid (show z = restM m 0 by rw [hz, checkM_rest h1 h2])
  have e3 : ¬ (11 : Int) < (m.bats.length : Int) := by omega
  have e4 : ¬ (11 : Int) < (m.bows.length : Int) := by omega
  have HB1 := Lib.hid hb1
  have HX1 := Lib.hid hx1
  clear hz h hb1 hx1 h1 h2
  go_enter Tryz.func17, Tryz.ntmps17
  go_wp2
  go_loopw [33] (fun i wr => ∃ k : Nat, k ≤ m.bats.length ∧ i = .int .i64 k ∧ Hid (Below w.heap.size w wr ∧ Blk wr w.heap.size 36 #[.slice A m.bats.length c, .slice A' m.bows.length c']) ∧ Hid (z = restM m k)) (fun i _ => m.bats.length - (intOf i).toNat)
  case atStart => exact ⟨0, Nat.zero_le _, rfl, Lib.hid ⟨HB1.out, HX1.out⟩, HZ0⟩
  case round =>
    clear HB1 HX1
    obtain ⟨k, hk, rfl, HW, hzz⟩ := hrel
    obtain ⟨r0, r1, _, _⟩ := HW.out.2.duo
    by_cases hlt : k < m.bats.length
    · obtain ⟨b0, o, v, rfl, hbl, yy0, yy1, hv, hpl⟩ := bat_at HM.out.bat hlt
      have y0 := (HW.out.1.cell (p := ⟨b0, o + k * 2, none⟩) hbl).trans yy0
      have y1 := (HW.out.1.cell (p := ⟨b0, o + k * 2 + 1, none⟩) hbl).trans yy1
      have hz2 := hzz.out
      rw [restM_at hlt] at hz2
      have hbf := batI_before hlt
      have hw := bat_ways ((m.bats.take k).map (·.name)) m.bats[k]
      obtain ⟨⟨p, d⟩, hp⟩ : ∃ b, b = m.bats[k] := ⟨_, rfl⟩
      rw [← hp] at y0 hv hpl hz2 hbf hw
      dsimp only at y0 hv hpl hbf hw
      obtain ⟨A2, c2, hve, _, _⟩ := hv.shape
      obtain ⟨n2, hn2⟩ : ∃ n, n = d.length := ⟨_, rfl⟩
      rw [← hn2] at hve
      subst hve
      generalize (m.bats.take k).map (·.name) = pre at hz2 hbf hw
      have hx := TwoM.new HW.out.1 HW.out.2 43 (.string (S p)) (.slice A2 n2 c2)
      obtain ⟨x0, x1, x2, x3⟩ := hx.cells
      have HX := Lib.hid hx
      clear hzz hp yy0 yy1 hx
      have tok0 : True := trivial
      have kb : ∀ W, Below w.heap.size w W → Calls Tryz.prog 19 #[.agg #[.slice (some ⟨b0, o, none⟩) m.bats.length c, .slice A' m.bows.length c'], .string (S p)] W fun e W' => e = .returned (.int .i64 (batI m.bats p)) ∧ Below W.heap.size W W' := fun W hW => m_Batter m _ _ p W (HM.out.below hW)
      have kd : ∀ W, Below w.heap.size w W → Calls Tryz.prog 13 #[.slice A2 n2 c2] W fun e W' => e = .returned (.int .i64 (checkD d)) ∧ Below W.heap.size W W' := fun W hW => ch_Check d _ W (hv.keep elOtc_good (Same.of_below hW) fun b h => Nat.lt_of_lt_of_le h hW.size)
      obtain ⟨i, hi⟩ : ∃ i, i = batI m.bats p := ⟨_, rfl⟩
      obtain ⟨u, hu⟩ : ∃ u, u = checkD d := ⟨_, rfl⟩
      rw [← hi] at kb hbf
      rw [← hu] at kd hw
      have KB := Lib.hid kb
      have KD := Lib.hid kd
      clear kb kd hi hu hn2
      rcases hw with ⟨hnm, he⟩ | ⟨hnm, hin, he⟩ | ⟨hnm, hin, he⟩
      · rw [he, if_pos (by decide)] at hz2
        have kn : ∀ W, Calls Tryz.prog 41 #[.string (S p)] W fun e W' => e = .returned (.bool false) ∧ Below W.heap.size W W' := fun W => (text_Name (S p) W (by rw [S_size]; exact hpl)).mono fun e W' h => by rw [S_data, hnm] at h; exact h
        have KN := Lib.hid kn
        have HZZ := Lib.hid hz2
        clear kn hz2 he hnm hbf hv hpl
        go_wp2_with (first
          | (clear tok0; go_at_call 41; refine (KN.out _).mono ?_; rintro e w2 ⟨rfl, hb2⟩; have HX2 := Lib.hid (HX.out.below hb2); obtain ⟨p0, p1, p2, p3⟩ := HX2.out.cells; clear hb2; have tok1 : True := trivial))
        go_ret
        exact ⟨ret_i HZZ.out.symm, HX2.out.bel⟩
      · rw [he, if_pos (by decide)] at hz2
        have kn : ∀ W, Calls Tryz.prog 41 #[.string (S p)] W fun e W' => e = .returned (.bool true) ∧ Below W.heap.size W W' := fun W => (text_Name (S p) W (by rw [S_size]; exact hpl)).mono fun e W' h => by rw [S_data, hnm] at h; exact h
        have KN := Lib.hid kn
        have HZZ := Lib.hid hz2
        rw [hin] at hbf
        clear kn hz2 he hnm hin hv hpl
        go_wp2_with (first
          | (clear tok0; go_at_call 41; refine (KN.out _).mono ?_; rintro e w2 ⟨rfl, hb2⟩; have HX2 := Lib.hid (HX.out.below hb2); obtain ⟨p0, p1, p2, p3⟩ := HX2.out.cells; clear hb2; have tok1 : True := trivial)
          | (clear tok1; go_at_call 19; refine (KB.out _ HX2.out.bel).mono ?_; rintro e w3 ⟨rfl, hb3⟩; have HX3 := Lib.hid (HX2.out.below hb3); obtain ⟨q0, q1, q2, q3⟩ := HX3.out.cells; clear hb3; have tok2 : True := trivial))
        go_ret
        exact ⟨ret_i HZZ.out.symm, HX3.out.bel⟩
      · rw [he] at hz2
        have kn : ∀ W, Calls Tryz.prog 41 #[.string (S p)] W fun e W' => e = .returned (.bool true) ∧ Below W.heap.size W W' := fun W => (text_Name (S p) W (by rw [S_size]; exact hpl)).mono fun e W' h => by rw [S_data, hnm] at h; exact h
        have KN := Lib.hid kn
        rw [hin] at hbf
        by_cases hu0 : u = 0
        · rw [if_neg (by simp [hu0])] at hz2
          have eu : (u != 0) = false := by simp [hu0]
          have HZZ := Lib.hid hz2
          clear kn hz2 he hnm hin hu0 hv hpl
          go_wp2_with (first
          | (clear tok0; go_at_call 41; refine (KN.out _).mono ?_; rintro e w2 ⟨rfl, hb2⟩; have HX2 := Lib.hid (HX.out.below hb2); obtain ⟨p0, p1, p2, p3⟩ := HX2.out.cells; clear hb2; have tok1 : True := trivial)
          | (clear tok1; go_at_call 19; refine (KB.out _ HX2.out.bel).mono ?_; rintro e w3 ⟨rfl, hb3⟩; have HX3 := Lib.hid (HX2.out.below hb3); obtain ⟨q0, q1, q2, q3⟩ := HX3.out.cells; clear hb3; have tok2 : True := trivial)
          | (clear tok2; go_at_call 13; refine (KD.out _ HX3.out.bel).mono ?_; rintro e w4 ⟨rfl, hb4⟩; have HX4 := Lib.hid (HX3.out.below hb4); clear hb4; have tok3 : True := trivial))
          go_roundw
          case rel => exact ⟨k + 1, by omega, by go_num, Lib.hid ⟨HX4.out.bel, HX4.out.box⟩, HZZ⟩
          case measure => simp [intOf]; omega
        · rw [if_pos hu0] at hz2
          have eu : (u != 0) = true := by simp [hu0]
          have HZZ := Lib.hid hz2
          clear kn hz2 he hnm hin hu0 hv hpl
          go_wp2_with (first
          | (clear tok0; go_at_call 41; refine (KN.out _).mono ?_; rintro e w2 ⟨rfl, hb2⟩; have HX2 := Lib.hid (HX.out.below hb2); obtain ⟨p0, p1, p2, p3⟩ := HX2.out.cells; clear hb2; have tok1 : True := trivial)
          | (clear tok1; go_at_call 19; refine (KB.out _ HX2.out.bel).mono ?_; rintro e w3 ⟨rfl, hb3⟩; have HX3 := Lib.hid (HX2.out.below hb3); obtain ⟨q0, q1, q2, q3⟩ := HX3.out.cells; clear hb3; have tok2 : True := trivial)
          | (clear tok2; go_at_call 13; refine (KD.out _ HX3.out.bel).mono ?_; rintro e w4 ⟨rfl, hb4⟩; have HX4 := Lib.hid (HX3.out.below hb4); clear hb4; have tok3 : True := trivial))
          go_ret
          exact ⟨ret_i HZZ.out.symm, HX4.out.bel⟩
    · obtain rfl : k = m.bats.length := by omega
      have hz2 := hzz.out
      rw [restM_end] at hz2
      have HZ1 := Lib.hid hz2
      have HW1 := HW
      clear hzz hz2 HW HZ0
      obtain ⟨wo, rfl⟩ : ∃ wo : World, wo = wr := ⟨_, rfl⟩
      go_wp2
      go_loopw [60] (fun i wr => ∃ k : Nat, k ≤ m.bows.length ∧ i = .int .i64 k ∧ Hid (Below w.heap.size w wr ∧ Blk wr w.heap.size 36 #[.slice A m.bats.length c, .slice A' m.bows.length c']) ∧ Hid (z = restW m k)) (fun i _ => m.bows.length - (intOf i).toNat)
      case atStart => exact ⟨0, Nat.zero_le _, rfl, HW1, HZ1⟩
      case round =>
        clear HW1 HZ1 r0 r1
        obtain ⟨k, hk, rfl, HW, hzz⟩ := hrel
        obtain ⟨r0, r1, _, _⟩ := HW.out.2.duo
        by_cases hlt : k < m.bows.length
        · obtain ⟨b0, o, rfl, hbl, yy0, yy1, hpl⟩ := bow_at HM.out.bow hlt
          have y0 := (HW.out.1.cell (p := ⟨b0, o + k * 2, none⟩) hbl).trans yy0
          have y1 := (HW.out.1.cell (p := ⟨b0, o + k * 2 + 1, none⟩) hbl).trans yy1
          have hz2 := hzz.out
          rw [restW_at hlt] at hz2
          have hbf := bowI_before hlt
          have hw := bow_ways ((m.bows.take k).map (·.name)) m.bows[k]
          obtain ⟨⟨p, d⟩, hp⟩ : ∃ b, b = m.bows[k] := ⟨_, rfl⟩
          rw [← hp] at y0 y1 hpl hz2 hbf hw
          dsimp only at y0 y1 hpl hbf hw
          generalize (m.bows.take k).map (·.name) = pre at hz2 hbf hw
          have hx := TwoM.new HW.out.1 HW.out.2 45 (.string (S p)) (.int .i64 d)
          obtain ⟨x0, x1, x2, x3⟩ := hx.cells
          have HX := Lib.hid hx
          clear hzz hp yy0 yy1 hx
          have tok0 : True := trivial
          have kb : ∀ W, Below w.heap.size w W → Calls Tryz.prog 21 #[.agg #[.slice A m.bats.length c, .slice (some ⟨b0, o, none⟩) m.bows.length c'], .string (S p)] W fun e W' => e = .returned (.int .i64 (bowI m.bows p)) ∧ Below W.heap.size W W' := fun W hW => m_Bowler m _ _ p W (HM.out.below hW)
          obtain ⟨i, hi⟩ : ∃ i, i = bowI m.bows p := ⟨_, rfl⟩
          rw [← hi] at kb hbf
          have KB := Lib.hid kb
          clear kb hi
          rcases hw with ⟨hnm, he⟩ | ⟨hnm, hin, he⟩ | ⟨hnm, hin, hs, he⟩ | ⟨hnm, hin, hs, hs2, he⟩ | ⟨hnm, hin, hs, hs2, he⟩
          · rw [he, if_pos (by decide)] at hz2
            have kn : ∀ W, Calls Tryz.prog 41 #[.string (S p)] W fun e W' => e = .returned (.bool false) ∧ Below W.heap.size W W' := fun W => (text_Name (S p) W (by rw [S_size]; exact hpl)).mono fun e W' h => by rw [S_data, hnm] at h; exact h
            have KN := Lib.hid kn
            have HZZ := Lib.hid hz2
            clear kn hz2 he hnm hbf hpl
            go_wp2_with (first
          | (clear tok0; go_at_call 41; refine (KN.out _).mono ?_; rintro e w2 ⟨rfl, hb2⟩; have HX2 := Lib.hid (HX.out.below hb2); obtain ⟨p0, p1, p2, p3⟩ := HX2.out.cells; clear hb2; have tok1 : True := trivial))
            go_ret
            exact ⟨ret_i HZZ.out.symm, HX2.out.bel⟩
          · rw [he, if_pos (by decide)] at hz2
            have kn : ∀ W, Calls Tryz.prog 41 #[.string (S p)] W fun e W' => e = .returned (.bool true) ∧ Below W.heap.size W W' := fun W => (text_Name (S p) W (by rw [S_size]; exact hpl)).mono fun e W' h => by rw [S_data, hnm] at h; exact h
            have KN := Lib.hid kn
            have HZZ := Lib.hid hz2
            rw [hin] at hbf
            clear kn hz2 he hnm hin hpl
            go_wp2_with (first
          | (clear tok0; go_at_call 41; refine (KN.out _).mono ?_; rintro e w2 ⟨rfl, hb2⟩; have HX2 := Lib.hid (HX.out.below hb2); obtain ⟨p0, p1, p2, p3⟩ := HX2.out.cells; clear hb2; have tok1 : True := trivial)
          | (clear tok1; go_at_call 21; refine (KB.out _ HX2.out.bel).mono ?_; rintro e w3 ⟨rfl, hb3⟩; have HX3 := Lib.hid (HX2.out.below hb3); obtain ⟨q0, q1, q2, q3⟩ := HX3.out.cells; clear hb3; have tok2 : True := trivial))
            go_ret
            exact ⟨ret_i HZZ.out.symm, HX3.out.bel⟩
          · rw [he, if_pos (by decide)] at hz2
            have kn : ∀ W, Calls Tryz.prog 41 #[.string (S p)] W fun e W' => e = .returned (.bool true) ∧ Below W.heap.size W W' := fun W => (text_Name (S p) W (by rw [S_size]; exact hpl)).mono fun e W' h => by rw [S_data, hnm] at h; exact h
            have KN := Lib.hid kn
            have HZZ := Lib.hid hz2
            rw [hin] at hbf
            clear kn hz2 he hnm hin hpl
            go_wp2_with (first
          | (clear tok0; go_at_call 41; refine (KN.out _).mono ?_; rintro e w2 ⟨rfl, hb2⟩; have HX2 := Lib.hid (HX.out.below hb2); obtain ⟨p0, p1, p2, p3⟩ := HX2.out.cells; clear hb2; have tok1 : True := trivial)
          | (clear tok1; go_at_call 21; refine (KB.out _ HX2.out.bel).mono ?_; rintro e w3 ⟨rfl, hb3⟩; have HX3 := Lib.hid (HX2.out.below hb3); obtain ⟨q0, q1, q2, q3⟩ := HX3.out.cells; clear hb3; have tok2 : True := trivial))
            go_ret
            exact ⟨ret_i HZZ.out.symm, HX3.out.bel⟩
          · rw [he, if_pos (by decide)] at hz2
            have kn : ∀ W, Calls Tryz.prog 41 #[.string (S p)] W fun e W' => e = .returned (.bool true) ∧ Below W.heap.size W W' := fun W => (text_Name (S p) W (by rw [S_size]; exact hpl)).mono fun e W' h => by rw [S_data, hnm] at h; exact h
            have KN := Lib.hid kn
            have HZZ := Lib.hid hz2
            rw [hin] at hbf
            clear kn hz2 he hnm hin hpl
            go_wp2_with (first
          | (clear tok0; go_at_call 41; refine (KN.out _).mono ?_; rintro e w2 ⟨rfl, hb2⟩; have HX2 := Lib.hid (HX.out.below hb2); obtain ⟨p0, p1, p2, p3⟩ := HX2.out.cells; clear hb2; have tok1 : True := trivial)
          | (clear tok1; go_at_call 21; refine (KB.out _ HX2.out.bel).mono ?_; rintro e w3 ⟨rfl, hb3⟩; have HX3 := Lib.hid (HX2.out.below hb3); obtain ⟨q0, q1, q2, q3⟩ := HX3.out.cells; clear hb3; have tok2 : True := trivial))
            go_ret
            exact ⟨ret_i HZZ.out.symm, HX3.out.bel⟩
          · rw [he, if_neg (by decide)] at hz2
            have kn : ∀ W, Calls Tryz.prog 41 #[.string (S p)] W fun e W' => e = .returned (.bool true) ∧ Below W.heap.size W W' := fun W => (text_Name (S p) W (by rw [S_size]; exact hpl)).mono fun e W' h => by rw [S_data, hnm] at h; exact h
            have KN := Lib.hid kn
            have HZZ := Lib.hid hz2
            rw [hin] at hbf
            clear kn hz2 he hnm hin hpl
            go_wp2_with (first
          | (clear tok0; go_at_call 41; refine (KN.out _).mono ?_; rintro e w2 ⟨rfl, hb2⟩; have HX2 := Lib.hid (HX.out.below hb2); obtain ⟨p0, p1, p2, p3⟩ := HX2.out.cells; clear hb2; have tok1 : True := trivial)
          | (clear tok1; go_at_call 21; refine (KB.out _ HX2.out.bel).mono ?_; rintro e w3 ⟨rfl, hb3⟩; have HX3 := Lib.hid (HX2.out.below hb3); obtain ⟨q0, q1, q2, q3⟩ := HX3.out.cells; clear hb3; have tok2 : True := trivial))
            go_roundw
            case rel => exact ⟨k + 1, by omega, by go_num, Lib.hid ⟨HX3.out.bel, HX3.out.box⟩, HZZ⟩
            case measure => simp [intOf]; omega
        · obtain rfl : k = m.bows.length := by omega
          have hz2 := hzz.out
          rw [restW_end] at hz2
          have HZ2 := Lib.hid hz2
          clear hzz hz2
          go_wp2
          go_ret
          exact ⟨ret_i HZ2.out.symm, HW.out.1⟩
set_option maxRecDepth 100000 in
set_option maxHeartbeats 4000000 in
theorem r_Check (m : Mdl) (bv wv : Value) (w : World) (h : MdlAt w (· < w.heap.size) bv wv m) :
    Calls Tryz.prog 18 #[.agg #[bv, wv]] w fun e w' => e = .returned (.int .i64 (checkM m)) ∧ Below w.heap.size w w' := by
  obtain ⟨z, hz⟩ : ∃ z, z = checkM m := ⟨_, rfl⟩
  rw [← hz]
  obtain ⟨A, c, rfl, hc, hc2⟩ := h.bat.shape
  obtain ⟨A', c', rfl, hc', hc2'⟩ := h.bow.shape
  have HM := Lib.hid h
  have hb1 : Below w.heap.size w (w.alloc (.cells #[.slice A m.bats.length c, .slice A' m.bows.length c'] 36)) := Below.alloc (Below.refl _ _) (Nat.le_refl _) _
  have hx1 := Blk.new w 36 #[.slice A m.bats.length c, .slice A' m.bows.length c']
  by_cases h1 : m.bats.length = 0 ∨ m.bows.length = 0
  · have HZ := Lib.hid (show z = 6 by rw [hz]; unfold checkM; rw [if_pos h1])
    have HB1 := Lib.hid hb1
    clear hz h hb1 hx1
    by_cases h2 : m.bats.length = 0
    · have e1 : ((m.bats.length : Int) == 0) = true := beq_iff_eq.2 (by omega)
      have h3 := Lib.hid h2
      clear h1 h2
      go_enter Tryz.func18, Tryz.ntmps18
      go_wp2
      go_ret
      exact ⟨ret_i HZ.out.symm, HB1.out⟩
    · have e1 : ((m.bats.length : Int) == 0) = false := beq_eq_false_iff_ne.2 (by omega)
      have e2 : ((m.bows.length : Int) == 0) = true := beq_iff_eq.2 (by omega)
      have h3 := Lib.hid h2
      clear h1 h2
      go_enter Tryz.func18, Tryz.ntmps18
      go_wp2
      go_ret
      exact ⟨ret_i HZ.out.symm, HB1.out⟩
  have e1 : ((m.bats.length : Int) == 0) = false := beq_eq_false_iff_ne.2 (by omega)
  have e2 : ((m.bows.length : Int) == 0) = false := beq_eq_false_iff_ne.2 (by omega)
  by_cases h2 : 11 < m.bats.length ∨ 11 < m.bows.length
  · have HZ := Lib.hid (show z = 9 by rw [hz]; unfold checkM; rw [if_neg h1, if_pos h2])
    have HB1 := Lib.hid hb1
    clear hz h hb1 hx1 h1
    by_cases h3 : 11 < m.bats.length
    · have e3 : (11 : Int) < (m.bats.length : Int) := by omega
      clear h2 h3
      go_enter Tryz.func18, Tryz.ntmps18
      go_wp2
      go_ret
      exact ⟨ret_i HZ.out.symm, HB1.out⟩
    · have e3 : ¬ (11 : Int) < (m.bats.length : Int) := by omega
      have e4 : (11 : Int) < (m.bows.length : Int) := by omega
      clear h2 h3
      go_enter Tryz.func18, Tryz.ntmps18
      go_wp2
      go_ret
      exact ⟨ret_i HZ.out.symm, HB1.out⟩
  have HZ0 := Lib.hid (show z = restM m 0 by rw [hz, checkM_rest h1 h2])
  have e3 : ¬ (11 : Int) < (m.bats.length : Int) := by omega
  have e4 : ¬ (11 : Int) < (m.bows.length : Int) := by omega
  have HB1 := Lib.hid hb1
  have HX1 := Lib.hid hx1
  clear hz h hb1 hx1 h1 h2
  go_enter Tryz.func18, Tryz.ntmps18
  go_wp2
  go_loopw [31] (fun i wr => ∃ k : Nat, k ≤ m.bats.length ∧ i = .int .i64 k ∧ Hid (Below w.heap.size w wr ∧ Blk wr w.heap.size 36 #[.slice A m.bats.length c, .slice A' m.bows.length c']) ∧ Hid (z = restM m k)) (fun i _ => m.bats.length - (intOf i).toNat)
  case atStart => exact ⟨0, Nat.zero_le _, rfl, Lib.hid ⟨HB1.out, HX1.out⟩, HZ0⟩
  case round =>
    clear HB1 HX1
    obtain ⟨k, hk, rfl, HW, hzz⟩ := hrel
    obtain ⟨r0, r1, _, _⟩ := HW.out.2.duo
    by_cases hlt : k < m.bats.length
    · obtain ⟨b0, o, v, rfl, hbl, yy0, yy1, hv, hpl⟩ := bat_at HM.out.bat hlt
      have y0 := (HW.out.1.cell (p := ⟨b0, o + k * 2, none⟩) hbl).trans yy0
      have y1 := (HW.out.1.cell (p := ⟨b0, o + k * 2 + 1, none⟩) hbl).trans yy1
      have hz2 := hzz.out
      rw [restM_at hlt] at hz2
      have hbf := batI_before hlt
      have hw := bat_ways ((m.bats.take k).map (·.name)) m.bats[k]
      obtain ⟨⟨p, d⟩, hp⟩ : ∃ b, b = m.bats[k] := ⟨_, rfl⟩
      rw [← hp] at y0 hv hpl hz2 hbf hw
      dsimp only at y0 hv hpl hbf hw
      obtain ⟨A2, c2, hve, _, _⟩ := hv.shape
      obtain ⟨n2, hn2⟩ : ∃ n, n = d.length := ⟨_, rfl⟩
      rw [← hn2] at hve
      subst hve
      generalize (m.bats.take k).map (·.name) = pre at hz2 hbf hw
      have hx := TwoM.new HW.out.1 HW.out.2 43 (.string (S p)) (.slice A2 n2 c2)
      obtain ⟨x0, x1, x2, x3⟩ := hx.cells
      have HX := Lib.hid hx
      clear hzz hp yy0 yy1 hx
      have tok0 : True := trivial
      have kb : ∀ W, Below w.heap.size w W → Calls Tryz.prog 20 #[.agg #[.slice (some ⟨b0, o, none⟩) m.bats.length c, .slice A' m.bows.length c'], .string (S p)] W fun e W' => e = .returned (.int .i64 (batI m.bats p)) ∧ Below W.heap.size W W' := fun W hW => r_Batter m _ _ p W (HM.out.below hW)
      have kd : ∀ W, Below w.heap.size w W → Calls Tryz.prog 35 #[.slice A2 n2 c2] W fun e W' => e = .returned (.int .i64 (checkD d)) ∧ Below W.heap.size W W' := fun W hW => ref_CCheck d _ W (hv.keep elOtc_good (Same.of_below hW) fun b h => Nat.lt_of_lt_of_le h hW.size)
      obtain ⟨i, hi⟩ : ∃ i, i = batI m.bats p := ⟨_, rfl⟩
      obtain ⟨u, hu⟩ : ∃ u, u = checkD d := ⟨_, rfl⟩
      rw [← hi] at kb hbf
      rw [← hu] at kd hw
      have KB := Lib.hid kb
      have KD := Lib.hid kd
      clear kb kd hi hu hn2
      rcases hw with ⟨hnm, he⟩ | ⟨hnm, hin, he⟩ | ⟨hnm, hin, he⟩
      · rw [he, if_pos (by decide)] at hz2
        have kn : ∀ W, Calls Tryz.prog 42 #[.string (S p)] W fun e W' => e = .returned (.bool false) ∧ Below W.heap.size W W' := fun W => (ref_Name (S p) W (by rw [S_size]; exact hpl)).mono fun e W' h => by rw [S_data, hnm] at h; exact ⟨h.1, h.2 ▸ Below.refl _ _⟩
        have KN := Lib.hid kn
        have HZZ := Lib.hid hz2
        clear kn hz2 he hnm hbf hv hpl
        go_wp2_with (first
          | (clear tok0; go_at_call 42; refine (KN.out _).mono ?_; rintro e w2 ⟨rfl, hb2⟩; have HX2 := Lib.hid (HX.out.below hb2); obtain ⟨p0, p1, p2, p3⟩ := HX2.out.cells; clear hb2; have tok1 : True := trivial))
        go_ret
        exact ⟨ret_i HZZ.out.symm, HX2.out.bel⟩
      · rw [he, if_pos (by decide)] at hz2
        have kn : ∀ W, Calls Tryz.prog 42 #[.string (S p)] W fun e W' => e = .returned (.bool true) ∧ Below W.heap.size W W' := fun W => (ref_Name (S p) W (by rw [S_size]; exact hpl)).mono fun e W' h => by rw [S_data, hnm] at h; exact ⟨h.1, h.2 ▸ Below.refl _ _⟩
        have KN := Lib.hid kn
        have HZZ := Lib.hid hz2
        rw [hin] at hbf
        clear kn hz2 he hnm hin hv hpl
        go_wp2_with (first
          | (clear tok0; go_at_call 42; refine (KN.out _).mono ?_; rintro e w2 ⟨rfl, hb2⟩; have HX2 := Lib.hid (HX.out.below hb2); obtain ⟨p0, p1, p2, p3⟩ := HX2.out.cells; clear hb2; have tok1 : True := trivial)
          | (clear tok1; go_at_call 20; refine (KB.out _ HX2.out.bel).mono ?_; rintro e w3 ⟨rfl, hb3⟩; have HX3 := Lib.hid (HX2.out.below hb3); obtain ⟨q0, q1, q2, q3⟩ := HX3.out.cells; clear hb3; have tok2 : True := trivial))
        go_ret
        exact ⟨ret_i HZZ.out.symm, HX3.out.bel⟩
      · rw [he] at hz2
        have kn : ∀ W, Calls Tryz.prog 42 #[.string (S p)] W fun e W' => e = .returned (.bool true) ∧ Below W.heap.size W W' := fun W => (ref_Name (S p) W (by rw [S_size]; exact hpl)).mono fun e W' h => by rw [S_data, hnm] at h; exact ⟨h.1, h.2 ▸ Below.refl _ _⟩
        have KN := Lib.hid kn
        rw [hin] at hbf
        by_cases hu0 : u = 0
        · rw [if_neg (by simp [hu0])] at hz2
          have eu : (u != 0) = false := by simp [hu0]
          have HZZ := Lib.hid hz2
          clear kn hz2 he hnm hin hu0 hv hpl
          go_wp2_with (first
          | (clear tok0; go_at_call 42; refine (KN.out _).mono ?_; rintro e w2 ⟨rfl, hb2⟩; have HX2 := Lib.hid (HX.out.below hb2); obtain ⟨p0, p1, p2, p3⟩ := HX2.out.cells; clear hb2; have tok1 : True := trivial)
          | (clear tok1; go_at_call 20; refine (KB.out _ HX2.out.bel).mono ?_; rintro e w3 ⟨rfl, hb3⟩; have HX3 := Lib.hid (HX2.out.below hb3); obtain ⟨q0, q1, q2, q3⟩ := HX3.out.cells; clear hb3; have tok2 : True := trivial)
          | (clear tok2; go_at_call 35; refine (KD.out _ HX3.out.bel).mono ?_; rintro e w4 ⟨rfl, hb4⟩; have HX4 := Lib.hid (HX3.out.below hb4); clear hb4; have tok3 : True := trivial))
          go_roundw
          case rel => exact ⟨k + 1, by omega, by go_num, Lib.hid ⟨HX4.out.bel, HX4.out.box⟩, HZZ⟩
          case measure => simp [intOf]; omega
        · rw [if_pos hu0] at hz2
          have eu : (u != 0) = true := by simp [hu0]
          have HZZ := Lib.hid hz2
          clear kn hz2 he hnm hin hu0 hv hpl
          go_wp2_with (first
          | (clear tok0; go_at_call 42; refine (KN.out _).mono ?_; rintro e w2 ⟨rfl, hb2⟩; have HX2 := Lib.hid (HX.out.below hb2); obtain ⟨p0, p1, p2, p3⟩ := HX2.out.cells; clear hb2; have tok1 : True := trivial)
          | (clear tok1; go_at_call 20; refine (KB.out _ HX2.out.bel).mono ?_; rintro e w3 ⟨rfl, hb3⟩; have HX3 := Lib.hid (HX2.out.below hb3); obtain ⟨q0, q1, q2, q3⟩ := HX3.out.cells; clear hb3; have tok2 : True := trivial)
          | (clear tok2; go_at_call 35; refine (KD.out _ HX3.out.bel).mono ?_; rintro e w4 ⟨rfl, hb4⟩; have HX4 := Lib.hid (HX3.out.below hb4); clear hb4; have tok3 : True := trivial))
          go_ret
          exact ⟨ret_i HZZ.out.symm, HX4.out.bel⟩
    · obtain rfl : k = m.bats.length := by omega
      have hz2 := hzz.out
      rw [restM_end] at hz2
      have HZ1 := Lib.hid hz2
      have HW1 := HW
      clear hzz hz2 HW HZ0
      obtain ⟨wo, rfl⟩ : ∃ wo : World, wo = wr := ⟨_, rfl⟩
      go_wp2
      go_loopw [56] (fun i wr => ∃ k : Nat, k ≤ m.bows.length ∧ i = .int .i64 k ∧ Hid (Below w.heap.size w wr ∧ Blk wr w.heap.size 36 #[.slice A m.bats.length c, .slice A' m.bows.length c']) ∧ Hid (z = restW m k)) (fun i _ => m.bows.length - (intOf i).toNat)
      case atStart => exact ⟨0, Nat.zero_le _, rfl, HW1, HZ1⟩
      case round =>
        clear HW1 HZ1 r0 r1
        obtain ⟨k, hk, rfl, HW, hzz⟩ := hrel
        obtain ⟨r0, r1, _, _⟩ := HW.out.2.duo
        by_cases hlt : k < m.bows.length
        · obtain ⟨b0, o, rfl, hbl, yy0, yy1, hpl⟩ := bow_at HM.out.bow hlt
          have y0 := (HW.out.1.cell (p := ⟨b0, o + k * 2, none⟩) hbl).trans yy0
          have y1 := (HW.out.1.cell (p := ⟨b0, o + k * 2 + 1, none⟩) hbl).trans yy1
          have hz2 := hzz.out
          rw [restW_at hlt] at hz2
          have hbf := bowI_before hlt
          have hw := bow_ways ((m.bows.take k).map (·.name)) m.bows[k]
          obtain ⟨⟨p, d⟩, hp⟩ : ∃ b, b = m.bows[k] := ⟨_, rfl⟩
          rw [← hp] at y0 y1 hpl hz2 hbf hw
          dsimp only at y0 y1 hpl hbf hw
          generalize (m.bows.take k).map (·.name) = pre at hz2 hbf hw
          have hx := TwoM.new HW.out.1 HW.out.2 45 (.string (S p)) (.int .i64 d)
          obtain ⟨x0, x1, x2, x3⟩ := hx.cells
          have HX := Lib.hid hx
          clear hzz hp yy0 yy1 hx
          have tok0 : True := trivial
          have kb : ∀ W, Below w.heap.size w W → Calls Tryz.prog 22 #[.agg #[.slice A m.bats.length c, .slice (some ⟨b0, o, none⟩) m.bows.length c'], .string (S p)] W fun e W' => e = .returned (.int .i64 (bowI m.bows p)) ∧ Below W.heap.size W W' := fun W hW => r_Bowler m _ _ p W (HM.out.below hW)
          obtain ⟨i, hi⟩ : ∃ i, i = bowI m.bows p := ⟨_, rfl⟩
          rw [← hi] at kb hbf
          have KB := Lib.hid kb
          clear kb hi
          rcases hw with ⟨hnm, he⟩ | ⟨hnm, hin, he⟩ | ⟨hnm, hin, hs, he⟩ | ⟨hnm, hin, hs, hs2, he⟩ | ⟨hnm, hin, hs, hs2, he⟩
          · rw [he, if_pos (by decide)] at hz2
            have kn : ∀ W, Calls Tryz.prog 42 #[.string (S p)] W fun e W' => e = .returned (.bool false) ∧ Below W.heap.size W W' := fun W => (ref_Name (S p) W (by rw [S_size]; exact hpl)).mono fun e W' h => by rw [S_data, hnm] at h; exact ⟨h.1, h.2 ▸ Below.refl _ _⟩
            have KN := Lib.hid kn
            have HZZ := Lib.hid hz2
            clear kn hz2 he hnm hbf hpl
            go_wp2_with (first
          | (clear tok0; go_at_call 42; refine (KN.out _).mono ?_; rintro e w2 ⟨rfl, hb2⟩; have HX2 := Lib.hid (HX.out.below hb2); obtain ⟨p0, p1, p2, p3⟩ := HX2.out.cells; clear hb2; have tok1 : True := trivial))
            go_ret
            exact ⟨ret_i HZZ.out.symm, HX2.out.bel⟩
          · rw [he, if_pos (by decide)] at hz2
            have kn : ∀ W, Calls Tryz.prog 42 #[.string (S p)] W fun e W' => e = .returned (.bool true) ∧ Below W.heap.size W W' := fun W => (ref_Name (S p) W (by rw [S_size]; exact hpl)).mono fun e W' h => by rw [S_data, hnm] at h; exact ⟨h.1, h.2 ▸ Below.refl _ _⟩
            have KN := Lib.hid kn
            have HZZ := Lib.hid hz2
            rw [hin] at hbf
            clear kn hz2 he hnm hin hpl
            go_wp2_with (first
          | (clear tok0; go_at_call 42; refine (KN.out _).mono ?_; rintro e w2 ⟨rfl, hb2⟩; have HX2 := Lib.hid (HX.out.below hb2); obtain ⟨p0, p1, p2, p3⟩ := HX2.out.cells; clear hb2; have tok1 : True := trivial)
          | (clear tok1; go_at_call 22; refine (KB.out _ HX2.out.bel).mono ?_; rintro e w3 ⟨rfl, hb3⟩; have HX3 := Lib.hid (HX2.out.below hb3); obtain ⟨q0, q1, q2, q3⟩ := HX3.out.cells; clear hb3; have tok2 : True := trivial))
            go_ret
            exact ⟨ret_i HZZ.out.symm, HX3.out.bel⟩
          · rw [he, if_pos (by decide)] at hz2
            have kn : ∀ W, Calls Tryz.prog 42 #[.string (S p)] W fun e W' => e = .returned (.bool true) ∧ Below W.heap.size W W' := fun W => (ref_Name (S p) W (by rw [S_size]; exact hpl)).mono fun e W' h => by rw [S_data, hnm] at h; exact ⟨h.1, h.2 ▸ Below.refl _ _⟩
            have KN := Lib.hid kn
            have HZZ := Lib.hid hz2
            rw [hin] at hbf
            clear kn hz2 he hnm hin hpl
            go_wp2_with (first
          | (clear tok0; go_at_call 42; refine (KN.out _).mono ?_; rintro e w2 ⟨rfl, hb2⟩; have HX2 := Lib.hid (HX.out.below hb2); obtain ⟨p0, p1, p2, p3⟩ := HX2.out.cells; clear hb2; have tok1 : True := trivial)
          | (clear tok1; go_at_call 22; refine (KB.out _ HX2.out.bel).mono ?_; rintro e w3 ⟨rfl, hb3⟩; have HX3 := Lib.hid (HX2.out.below hb3); obtain ⟨q0, q1, q2, q3⟩ := HX3.out.cells; clear hb3; have tok2 : True := trivial))
            go_ret
            exact ⟨ret_i HZZ.out.symm, HX3.out.bel⟩
          · rw [he, if_pos (by decide)] at hz2
            have kn : ∀ W, Calls Tryz.prog 42 #[.string (S p)] W fun e W' => e = .returned (.bool true) ∧ Below W.heap.size W W' := fun W => (ref_Name (S p) W (by rw [S_size]; exact hpl)).mono fun e W' h => by rw [S_data, hnm] at h; exact ⟨h.1, h.2 ▸ Below.refl _ _⟩
            have KN := Lib.hid kn
            have HZZ := Lib.hid hz2
            rw [hin] at hbf
            clear kn hz2 he hnm hin hpl
            go_wp2_with (first
          | (clear tok0; go_at_call 42; refine (KN.out _).mono ?_; rintro e w2 ⟨rfl, hb2⟩; have HX2 := Lib.hid (HX.out.below hb2); obtain ⟨p0, p1, p2, p3⟩ := HX2.out.cells; clear hb2; have tok1 : True := trivial)
          | (clear tok1; go_at_call 22; refine (KB.out _ HX2.out.bel).mono ?_; rintro e w3 ⟨rfl, hb3⟩; have HX3 := Lib.hid (HX2.out.below hb3); obtain ⟨q0, q1, q2, q3⟩ := HX3.out.cells; clear hb3; have tok2 : True := trivial))
            go_ret
            exact ⟨ret_i HZZ.out.symm, HX3.out.bel⟩
          · rw [he, if_neg (by decide)] at hz2
            have kn : ∀ W, Calls Tryz.prog 42 #[.string (S p)] W fun e W' => e = .returned (.bool true) ∧ Below W.heap.size W W' := fun W => (ref_Name (S p) W (by rw [S_size]; exact hpl)).mono fun e W' h => by rw [S_data, hnm] at h; exact ⟨h.1, h.2 ▸ Below.refl _ _⟩
            have KN := Lib.hid kn
            have HZZ := Lib.hid hz2
            rw [hin] at hbf
            clear kn hz2 he hnm hin hpl
            go_wp2_with (first
          | (clear tok0; go_at_call 42; refine (KN.out _).mono ?_; rintro e w2 ⟨rfl, hb2⟩; have HX2 := Lib.hid (HX.out.below hb2); obtain ⟨p0, p1, p2, p3⟩ := HX2.out.cells; clear hb2; have tok1 : True := trivial)
          | (clear tok1; go_at_call 22; refine (KB.out _ HX2.out.bel).mono ?_; rintro e w3 ⟨rfl, hb3⟩; have HX3 := Lib.hid (HX2.out.below hb3); obtain ⟨q0, q1, q2, q3⟩ := HX3.out.cells; clear hb3; have tok2 : True := trivial))
            go_roundw
            case rel => exact ⟨k + 1, by omega, by go_num, Lib.hid ⟨HX3.out.bel, HX3.out.box⟩, HZZ⟩
            case measure => simp [intOf]; omega
        · obtain rfl : k = m.bows.length := by omega
          have hz2 := hzz.out
          rw [restW_end] at hz2
          have HZ2 := Lib.hid hz2
          clear hzz hz2
          go_wp2
          go_ret
          exact ⟨ret_i HZ2.out.symm, HW.out.1⟩
end Go.Proofs.YticfopjbaoigfaaGreatDoor

namespace Go.Proofs.YticfopjbaoigfaaGreatDoor
open Go.RowKit

def smallM (m : Mdl) : Bool := m.bats.all (fun b => decide (b.dist.length ≤ 100)) && decide (m.bats.length ≤ 30) && decide (m.bows.length ≤ 30)
theorem ball_ways (m : Mdl) (i j : Int) : (checkM m ≠ 0 ∧ ballS m i j = ([], checkM m)) ∨ (checkM m = 0 ∧ i < 0 ∧ ballS m i j = ([], 6)) ∨ (checkM m = 0 ∧ ¬ i < 0 ∧ (m.bats.length : Int) ≤ i ∧ ballS m i j = ([], 6)) ∨ (checkM m = 0 ∧ ¬ i < 0 ∧ ¬ (m.bats.length : Int) ≤ i ∧ j < 0 ∧ ballS m i j = ([], 6)) ∨ (checkM m = 0 ∧ ¬ i < 0 ∧ ¬ (m.bats.length : Int) ≤ i ∧ ¬ j < 0 ∧ (m.bows.length : Int) ≤ j ∧ ballS m i j = ([], 6)) ∨
    (checkM m = 0 ∧ ∃ (a b : Nat) (ha : a < m.bats.length) (hb : b < m.bows.length), i = a ∧ j = b ∧ ballS m i j = shiftS m.bats[a].dist m.bows[b].shift) := by
  unfold ballS
  by_cases h0 : checkM m ≠ 0
  · exact .inl ⟨h0, by rw [if_pos h0]⟩
  refine .inr ?_
  rw [if_neg h0]
  have h0' : checkM m = 0 := by omega
  by_cases h1 : i < 0
  · exact .inl ⟨h0', h1, by rw [if_pos (by omega)]⟩
  refine .inr ?_
  by_cases h2 : (m.bats.length : Int) ≤ i
  · exact .inl ⟨h0', h1, h2, by rw [if_pos (by omega)]⟩
  refine .inr ?_
  by_cases h3 : j < 0
  · exact .inl ⟨h0', h1, h2, h3, by rw [if_pos (by omega)]⟩
  refine .inr ?_
  by_cases h4 : (m.bows.length : Int) ≤ j
  · exact .inl ⟨h0', h1, h2, h3, h4, by rw [if_pos (by omega)]⟩
  refine .inr ⟨h0', i.toNat, j.toNat, by omega, by omega, by omega, by omega, ?_⟩
  rw [if_neg (by omega), List.getElem?_eq_getElem (show i.toNat < m.bats.length by omega), List.getElem?_eq_getElem (show j.toNat < m.bows.length by omega)]
theorem otcPost_none {w W : World} {u : Int} {l : List Otc × Int} (hl : l = ([], u)) (hb : Below w.heap.size w W) : OtcPost w l (.returned (.tuple #[.slice none 0 0, .int .i64 u])) W := by
  rw [hl]; exact ⟨_, rfl, Sl.nil _ _, hb⟩
theorem small_drop {l : List Bat} {k : Nat} (hk : k < l.length) : (l.drop k).all (fun b => decide (b.dist.length ≤ 100)) = (decide (l[k].dist.length ≤ 100) && (l.drop (k + 1)).all (fun b => decide (b.dist.length ≤ 100))) := by
  rw [drop_get hk, List.all_cons]
set_option maxRecDepth 100000 in
set_option maxHeartbeats 2000000 in
theorem law43_small (m : Mdl) (bv wv : Value) (w : World) (h : MdlAt w (· < w.heap.size) bv wv m) :
    Calls Tryz.prog 16 #[.agg #[bv, wv]] w fun e w' => e = .returned (.bool (smallM m)) ∧ Below w.heap.size w w' := by
  obtain ⟨z, hz⟩ : ∃ z, z = smallM m := ⟨_, rfl⟩
  rw [← hz]
  unfold smallM at hz
  obtain ⟨A, c, rfl, hc, hc2⟩ := h.bat.shape
  obtain ⟨A', c', rfl, hc', hc2'⟩ := h.bow.shape
  have HL := Lib.hid h.bat
  obtain ⟨bl, hbl⟩ : ∃ b, b = (decide (m.bats.length ≤ 30) && decide (m.bows.length ≤ 30)) := ⟨_, rfl⟩
  rw [Bool.and_assoc, ← hbl] at hz
  have HZ : Hid (z = ((m.bats.drop 0).all (fun b => decide (b.dist.length ≤ 100)) && bl)) := hz
  have HBL := Lib.hid hbl
  have HW0 := Lib.hid (⟨Below.alloc (Below.refl _ _) (Nat.le_refl _) _, Blk.new w 36 #[.slice A m.bats.length c, .slice A' m.bows.length c']⟩ : Below w.heap.size w (w.alloc (.cells #[.slice A m.bats.length c, .slice A' m.bows.length c'] 36)) ∧ _)
  clear hz h hbl
  go_enter Tryz.func16, Tryz.ntmps16
  go_wp2
  go_loopw [8] (fun i wr => ∃ k : Nat, k ≤ m.bats.length ∧ i = .int .i64 k ∧ Hid (Below w.heap.size w wr ∧ Blk wr w.heap.size 36 #[.slice A m.bats.length c, .slice A' m.bows.length c']) ∧ Hid (z = ((m.bats.drop k).all (fun b => decide (b.dist.length ≤ 100)) && bl))) (fun i _ => m.bats.length - (intOf i).toNat)
  case atStart => exact ⟨0, Nat.zero_le _, rfl, HW0, HZ⟩
  case round =>
    clear HW0 HZ
    obtain ⟨k, hk, rfl, HW, hzz⟩ := hrel
    obtain ⟨r0, r1, _, _⟩ := HW.out.2.duo
    by_cases hlt : k < m.bats.length
    · obtain ⟨b0, o, v, rfl, hbl, yy0, yy1, hv, hpl⟩ := bat_at HL.out hlt
      have y0 := (HW.out.1.cell (p := ⟨b0, o + k * 2, none⟩) hbl).trans yy0
      have y1 := (HW.out.1.cell (p := ⟨b0, o + k * 2 + 1, none⟩) hbl).trans yy1
      have hz2 := hzz.out
      rw [small_drop hlt] at hz2
      obtain ⟨A2, c2, hve, _, _⟩ := hv.shape
      obtain ⟨p, hp⟩ : ∃ b, b = m.bats[k] := ⟨_, rfl⟩
      rw [← hp] at y0 hz2 hve
      obtain ⟨n2, hn2⟩ : ∃ n, n = p.dist.length := ⟨_, rfl⟩
      obtain ⟨pn, hpn⟩ : ∃ n, n = p.name := ⟨_, rfl⟩
      rw [← hn2] at hve hz2
      rw [← hpn] at y0
      subst hve
      have HA := Lib.hid (⟨HW.out.1.alloc HW.out.1.size _, HW.out.2.alloc _⟩ : Below w.heap.size w (wr.alloc (.cells #[.string (S pn), .slice A2 n2 c2] 43)) ∧ Blk (wr.alloc (.cells #[.string (S pn), .slice A2 n2 c2] 43)) w.heap.size 36 #[.slice (some ⟨b0, o, none⟩) m.bats.length c, .slice A' m.bows.length c'])
      clear hzz hp hn2 hpn yy0 yy1 hv hpl
      by_cases hs : n2 ≤ 100
      · rw [decide_eq_true hs, Bool.true_and] at hz2
        have HZZ := Lib.hid hz2
        have g1 : ¬ (100 : Int) < (n2 : Int) := by omega
        clear hz2 hs
        go_wp2
        go_roundw
        case rel => exact ⟨k + 1, by omega, by go_num, HA, HZZ⟩
        case measure => simp [intOf]; omega
      · rw [decide_eq_false hs, Bool.false_and] at hz2
        have HZZ := Lib.hid hz2
        have g1 : (100 : Int) < (n2 : Int) := by omega
        clear hz2 hs
        go_wp2
        go_ret
        exact ⟨ret_b HZZ.out.symm, HA.out.1⟩
    · obtain rfl : k = m.bats.length := by omega
      have hz2 := hzz.out
      rw [List.drop_of_length_le (Nat.le_refl _), List.all_nil, Bool.true_and] at hz2
      have hbl := HBL.out
      by_cases h1 : m.bats.length ≤ 30
      · rw [decide_eq_true h1, Bool.true_and] at hbl
        have g1 : (m.bats.length : Int) ≤ 30 := by omega
        by_cases h3 : m.bows.length ≤ 30
        · rw [decide_eq_true h3] at hbl
          have g2 : (m.bows.length : Int) ≤ 30 := by omega
          have HZZ := Lib.hid (hz2.trans hbl)
          clear hz2 hzz hbl h1 h3
          go_wp2
          go_ret
          exact ⟨ret_b HZZ.out.symm, HW.out.1⟩
        · rw [decide_eq_false h3] at hbl
          have g2 : ¬ (m.bows.length : Int) ≤ 30 := by omega
          have HZZ := Lib.hid (hz2.trans hbl)
          clear hz2 hzz hbl h1 h3
          go_wp2
          go_ret
          exact ⟨ret_b HZZ.out.symm, HW.out.1⟩
      · rw [decide_eq_false h1, Bool.false_and] at hbl
        have g1 : ¬ (m.bats.length : Int) ≤ 30 := by omega
        have HZZ := Lib.hid (hz2.trans hbl)
        clear hz2 hzz hbl h1
        go_wp2
        go_ret
        exact ⟨ret_b HZZ.out.symm, HW.out.1⟩
set_option maxRecDepth 100000 in
set_option maxHeartbeats 4000000 in
theorem m_Ball (m : Mdl) (bv wv : Value) (i j : Int) (w : World) (h : MdlAt w (· < w.heap.size) bv wv m) :
    Calls Tryz.prog 23 #[.agg #[bv, wv], .int .i64 i, .int .i64 j] w (OtcPost w (ballS m i j)) := by
  obtain ⟨z, hzz⟩ : ∃ z, z = ballS m i j := ⟨_, rfl⟩
  have hw := ball_ways m i j
  rw [← hzz] at hw ⊢
  obtain ⟨A, c, rfl, hc, hc2⟩ := h.bat.shape
  obtain ⟨A', c', rfl, hc', hc2'⟩ := h.bow.shape
  have hb1 : Below w.heap.size w (w.alloc (.cells #[.slice A m.bats.length c, .slice A' m.bows.length c'] 36)) := Below.alloc (Below.refl _ _) (Nat.le_refl _) _
  have HX := Lib.hid (Blk.new w 36 #[.slice A m.bats.length c, .slice A' m.bows.length c'])
  have HB := Lib.hid hb1
  have kc := m_Check m _ _ _ (h.below hb1)
  have HM := Lib.hid h
  clear hzz h hb1
  obtain ⟨u, hu⟩ : ∃ u, u = checkM m := ⟨_, rfl⟩
  rw [← hu] at kc hw
  clear hu
  rcases hw with ⟨h0, hz⟩ | ⟨h0, h1, hz⟩ | ⟨h0, h1, h2, hz⟩ | ⟨h0, h1, h2, h3, hz⟩ | ⟨h0, h1, h2, h3, h4, hz⟩ | ⟨h0, a, b, ha, hb, ea, eb, hz⟩
  · have eu : (u != 0) = true := by simp [h0]
    have KC := Lib.hid kc
    have HZ := Lib.hid hz
    clear kc hz h0
    go_enter Tryz.func23, Tryz.ntmps23
    go_wp2_with (go_at_call 17; refine (KC.out).mono ?_; rintro e w2 ⟨rfl, hb2⟩; have HX2 := Lib.hid (⟨HB.out.trans (hb2.mono HB.out.size), HX.out.below hb2 HX.out.lt⟩ : Below w.heap.size w w2 ∧ Blk w2 w.heap.size 36 #[.slice A m.bats.length c, .slice A' m.bows.length c']); obtain ⟨x0, x1, _, _⟩ := HX2.out.2.duo; clear hb2)
    go_ret2
    exact otcPost_none HZ.out HX2.out.1
  · rw [h0] at kc
    have KC := Lib.hid kc
    have HZ := Lib.hid hz
    clear kc hz h0
    go_enter Tryz.func23, Tryz.ntmps23
    go_wp2_with (go_at_call 17; refine (KC.out).mono ?_; rintro e w2 ⟨rfl, hb2⟩; have HX2 := Lib.hid (⟨HB.out.trans (hb2.mono HB.out.size), HX.out.below hb2 HX.out.lt⟩ : Below w.heap.size w w2 ∧ Blk w2 w.heap.size 36 #[.slice A m.bats.length c, .slice A' m.bows.length c']); obtain ⟨x0, x1, _, _⟩ := HX2.out.2.duo; clear hb2)
    go_ret2
    exact otcPost_none HZ.out HX2.out.1
  · rw [h0] at kc
    have KC := Lib.hid kc
    have HZ := Lib.hid hz
    clear kc hz h0
    go_enter Tryz.func23, Tryz.ntmps23
    go_wp2_with (go_at_call 17; refine (KC.out).mono ?_; rintro e w2 ⟨rfl, hb2⟩; have HX2 := Lib.hid (⟨HB.out.trans (hb2.mono HB.out.size), HX.out.below hb2 HX.out.lt⟩ : Below w.heap.size w w2 ∧ Blk w2 w.heap.size 36 #[.slice A m.bats.length c, .slice A' m.bows.length c']); obtain ⟨x0, x1, _, _⟩ := HX2.out.2.duo; clear hb2)
    go_ret2
    exact otcPost_none HZ.out HX2.out.1
  · rw [h0] at kc
    have KC := Lib.hid kc
    have HZ := Lib.hid hz
    clear kc hz h0
    go_enter Tryz.func23, Tryz.ntmps23
    go_wp2_with (go_at_call 17; refine (KC.out).mono ?_; rintro e w2 ⟨rfl, hb2⟩; have HX2 := Lib.hid (⟨HB.out.trans (hb2.mono HB.out.size), HX.out.below hb2 HX.out.lt⟩ : Below w.heap.size w w2 ∧ Blk w2 w.heap.size 36 #[.slice A m.bats.length c, .slice A' m.bows.length c']); obtain ⟨x0, x1, _, _⟩ := HX2.out.2.duo; clear hb2)
    go_ret2
    exact otcPost_none HZ.out HX2.out.1
  · rw [h0] at kc
    have KC := Lib.hid kc
    have HZ := Lib.hid hz
    clear kc hz h0
    go_enter Tryz.func23, Tryz.ntmps23
    go_wp2_with (go_at_call 17; refine (KC.out).mono ?_; rintro e w2 ⟨rfl, hb2⟩; have HX2 := Lib.hid (⟨HB.out.trans (hb2.mono HB.out.size), HX.out.below hb2 HX.out.lt⟩ : Below w.heap.size w w2 ∧ Blk w2 w.heap.size 36 #[.slice A m.bats.length c, .slice A' m.bows.length c']); obtain ⟨x0, x1, _, _⟩ := HX2.out.2.duo; clear hb2)
    go_ret2
    exact otcPost_none HZ.out HX2.out.1
  · rw [h0] at kc
    have KC := Lib.hid kc
    obtain ⟨b0, o, v, rfl, hbl, yy0, yy1, hv, hq1⟩ := bat_at HM.out.bat ha
    obtain ⟨b1, o1, rfl, hbl1, ww0, ww1, hq2⟩ := bow_at HM.out.bow hb
    have ks := fun W (hW : Below w.heap.size w W) => m_Shift m.bats[a].dist v m.bows[b].shift W (hv.keep elOtc_good (Same.of_below hW) fun b h => Nat.lt_of_lt_of_le h hW.size)
    rw [← hz] at ks
    obtain ⟨n, hn⟩ : ∃ n, n = m.bows[b].shift := ⟨_, rfl⟩
    rw [← hn] at ks ww1
    have KS := Lib.hid ks
    have g1 : ¬ (a : Int) < 0 := by omega
    have g2 : ¬ (m.bats.length : Int) ≤ (a : Int) := by omega
    have g3 : ¬ (b : Int) < 0 := by omega
    have g4 : ¬ (m.bows.length : Int) ≤ (b : Int) := by omega
    have i1 : (0 : Int) ≤ (a : Int) := by omega
    have i2 : (a : Int) < (m.bats.length : Int) := by omega
    have i3 : (0 : Int) ≤ (b : Int) := by omega
    have i4 : (b : Int) < (m.bows.length : Int) := by omega
    have Y1 := Lib.hid yy1
    have W1 := Lib.hid ww1
    have BL := Lib.hid hbl
    have BL1 := Lib.hid hbl1
    subst ea eb
    clear hq1 hq2 kc ks hn hz h0 yy0 yy1 ww0 ww1 hv hbl hbl1 ha hb
    go_enter Tryz.func23, Tryz.ntmps23
    go_wp2_with (go_at_call 17; refine (KC.out).mono ?_; rintro e w2 ⟨rfl, hb2⟩; have HX2 := Lib.hid (⟨HB.out.trans (hb2.mono HB.out.size), HX.out.below hb2 HX.out.lt⟩ : Below w.heap.size w w2 ∧ Blk w2 w.heap.size 36 #[.slice (some ⟨b0, o, none⟩) m.bats.length c, .slice (some ⟨b1, o1, none⟩) m.bows.length c']); obtain ⟨x0, x1, _, _⟩ := HX2.out.2.duo; clear hb2)
    have y1 : w2.cell? ⟨b0, o + a * 2 + 1, none⟩ = some v := (HX2.out.1.cell (p := ⟨b0, o + a * 2 + 1, none⟩) BL.out).trans Y1.out
    have z1 : w2.cell? ⟨b1, o1 + b * 2 + 1, none⟩ = some (.int .i64 n) := (HX2.out.1.cell (p := ⟨b1, o1 + b * 2 + 1, none⟩) BL1.out).trans W1.out
    have HB2 := Lib.hid (Below.drew HX2.out.1)
    have HX3 := Lib.hid HX2.out.2.drew
    go_region_held3 (fun w' => w'.cell? ⟨w.heap.size, 0, none⟩ = some (.slice (some ⟨b0, o, none⟩) m.bats.length c) ∧ w'.cell? ⟨w.heap.size, 1, none⟩ = some (.slice (some ⟨b1, o1, none⟩) m.bows.length c') ∧ w'.cell? ⟨b0, o + a * 2 + 1, none⟩ = some v ∧ w'.cell? ⟨b1, o1 + b * 2 + 1, none⟩ = some (.int .i64 n)) (first | exact ⟨u0, u1, u2, u3⟩ | go_keep) ((go_at_call 10; refine (KS.out _ HB2.out).mono ?_; rintro e w4 ⟨v4, rfl, hs4, hb4⟩; obtain ⟨A4, c4, rfl, hc41, hc42⟩ := hs4.shape; obtain ⟨u0, u1, _, _⟩ := (HX3.out.below hb4 HX3.out.lt).duo; have u2 := (hb4.cell (p := ⟨b0, o + a * 2 + 1, none⟩) (Nat.lt_of_lt_of_le BL.out HB2.out.size)).trans y1; have u3 := (hb4.cell (p := ⟨b1, o1 + b * 2 + 1, none⟩) (Nat.lt_of_lt_of_le BL1.out HB2.out.size)).trans z1; have HS4 := Lib.hid hs4; have HB4 := Lib.hid hb4; clear hs4 hb4))
    all_goals go_wp2
    go_ret2
    exact ⟨_, rfl, HS4.out.keep elOtc_good (Same.refl _ _) fun b h => ⟨Nat.le_trans HB2.out.size h.1, h.2⟩, HB2.out.trans (HB4.out.mono HB2.out.size)⟩
set_option maxRecDepth 100000 in
set_option maxHeartbeats 4000000 in
theorem r_Ball (m : Mdl) (bv wv : Value) (i j : Int) (w : World) (h : MdlAt w (· < w.heap.size) bv wv m) :
    Calls Tryz.prog 24 #[.agg #[bv, wv], .int .i64 i, .int .i64 j] w (OtcPost w (ballS m i j)) := by
  obtain ⟨z, hzz⟩ : ∃ z, z = ballS m i j := ⟨_, rfl⟩
  have hw := ball_ways m i j
  rw [← hzz] at hw ⊢
  obtain ⟨A, c, rfl, hc, hc2⟩ := h.bat.shape
  obtain ⟨A', c', rfl, hc', hc2'⟩ := h.bow.shape
  have hb1 : Below w.heap.size w (w.alloc (.cells #[.slice A m.bats.length c, .slice A' m.bows.length c'] 36)) := Below.alloc (Below.refl _ _) (Nat.le_refl _) _
  have HX := Lib.hid (Blk.new w 36 #[.slice A m.bats.length c, .slice A' m.bows.length c'])
  have HB := Lib.hid hb1
  have kc := r_Check m _ _ _ (h.below hb1)
  have HM := Lib.hid h
  clear hzz h hb1
  obtain ⟨u, hu⟩ : ∃ u, u = checkM m := ⟨_, rfl⟩
  rw [← hu] at kc hw
  clear hu
  rcases hw with ⟨h0, hz⟩ | ⟨h0, h1, hz⟩ | ⟨h0, h1, h2, hz⟩ | ⟨h0, h1, h2, h3, hz⟩ | ⟨h0, h1, h2, h3, h4, hz⟩ | ⟨h0, a, b, ha, hb, ea, eb, hz⟩
  · have eu : (u != 0) = true := by simp [h0]
    have KC := Lib.hid kc
    have HZ := Lib.hid hz
    clear kc hz h0
    go_enter Tryz.func24, Tryz.ntmps24
    go_wp2_with (go_at_call 18; refine (KC.out).mono ?_; rintro e w2 ⟨rfl, hb2⟩; have HX2 := Lib.hid (⟨HB.out.trans (hb2.mono HB.out.size), HX.out.below hb2 HX.out.lt⟩ : Below w.heap.size w w2 ∧ Blk w2 w.heap.size 36 #[.slice A m.bats.length c, .slice A' m.bows.length c']); obtain ⟨x0, x1, _, _⟩ := HX2.out.2.duo; clear hb2)
    go_ret2
    exact otcPost_none HZ.out HX2.out.1
  · rw [h0] at kc
    have KC := Lib.hid kc
    have HZ := Lib.hid hz
    clear kc hz h0
    go_enter Tryz.func24, Tryz.ntmps24
    go_wp2_with (go_at_call 18; refine (KC.out).mono ?_; rintro e w2 ⟨rfl, hb2⟩; have HX2 := Lib.hid (⟨HB.out.trans (hb2.mono HB.out.size), HX.out.below hb2 HX.out.lt⟩ : Below w.heap.size w w2 ∧ Blk w2 w.heap.size 36 #[.slice A m.bats.length c, .slice A' m.bows.length c']); obtain ⟨x0, x1, _, _⟩ := HX2.out.2.duo; clear hb2)
    go_ret2
    exact otcPost_none HZ.out HX2.out.1
  · rw [h0] at kc
    have KC := Lib.hid kc
    have HZ := Lib.hid hz
    clear kc hz h0
    go_enter Tryz.func24, Tryz.ntmps24
    go_wp2_with (go_at_call 18; refine (KC.out).mono ?_; rintro e w2 ⟨rfl, hb2⟩; have HX2 := Lib.hid (⟨HB.out.trans (hb2.mono HB.out.size), HX.out.below hb2 HX.out.lt⟩ : Below w.heap.size w w2 ∧ Blk w2 w.heap.size 36 #[.slice A m.bats.length c, .slice A' m.bows.length c']); obtain ⟨x0, x1, _, _⟩ := HX2.out.2.duo; clear hb2)
    go_ret2
    exact otcPost_none HZ.out HX2.out.1
  · rw [h0] at kc
    have KC := Lib.hid kc
    have HZ := Lib.hid hz
    clear kc hz h0
    go_enter Tryz.func24, Tryz.ntmps24
    go_wp2_with (go_at_call 18; refine (KC.out).mono ?_; rintro e w2 ⟨rfl, hb2⟩; have HX2 := Lib.hid (⟨HB.out.trans (hb2.mono HB.out.size), HX.out.below hb2 HX.out.lt⟩ : Below w.heap.size w w2 ∧ Blk w2 w.heap.size 36 #[.slice A m.bats.length c, .slice A' m.bows.length c']); obtain ⟨x0, x1, _, _⟩ := HX2.out.2.duo; clear hb2)
    go_ret2
    exact otcPost_none HZ.out HX2.out.1
  · rw [h0] at kc
    have KC := Lib.hid kc
    have HZ := Lib.hid hz
    clear kc hz h0
    go_enter Tryz.func24, Tryz.ntmps24
    go_wp2_with (go_at_call 18; refine (KC.out).mono ?_; rintro e w2 ⟨rfl, hb2⟩; have HX2 := Lib.hid (⟨HB.out.trans (hb2.mono HB.out.size), HX.out.below hb2 HX.out.lt⟩ : Below w.heap.size w w2 ∧ Blk w2 w.heap.size 36 #[.slice A m.bats.length c, .slice A' m.bows.length c']); obtain ⟨x0, x1, _, _⟩ := HX2.out.2.duo; clear hb2)
    go_ret2
    exact otcPost_none HZ.out HX2.out.1
  · rw [h0] at kc
    have KC := Lib.hid kc
    obtain ⟨b0, o, v, rfl, hbl, yy0, yy1, hv, hq1⟩ := bat_at HM.out.bat ha
    obtain ⟨b1, o1, rfl, hbl1, ww0, ww1, hq2⟩ := bow_at HM.out.bow hb
    have ks := fun W (hW : Below w.heap.size w W) => r_Shift m.bats[a].dist v m.bows[b].shift W (hv.keep elOtc_good (Same.of_below hW) fun b h => Nat.lt_of_lt_of_le h hW.size)
    rw [← hz] at ks
    obtain ⟨n, hn⟩ : ∃ n, n = m.bows[b].shift := ⟨_, rfl⟩
    rw [← hn] at ks ww1
    have KS := Lib.hid ks
    have g1 : ¬ (a : Int) < 0 := by omega
    have g2 : ¬ (m.bats.length : Int) ≤ (a : Int) := by omega
    have g3 : ¬ (b : Int) < 0 := by omega
    have g4 : ¬ (m.bows.length : Int) ≤ (b : Int) := by omega
    have i1 : (0 : Int) ≤ (a : Int) := by omega
    have i2 : (a : Int) < (m.bats.length : Int) := by omega
    have i3 : (0 : Int) ≤ (b : Int) := by omega
    have i4 : (b : Int) < (m.bows.length : Int) := by omega
    have Y1 := Lib.hid yy1
    have W1 := Lib.hid ww1
    have BL := Lib.hid hbl
    have BL1 := Lib.hid hbl1
    subst ea eb
    clear hq1 hq2 kc ks hn hz h0 yy0 yy1 ww0 ww1 hv hbl hbl1 ha hb
    go_enter Tryz.func24, Tryz.ntmps24
    go_wp2_with (go_at_call 18; refine (KC.out).mono ?_; rintro e w2 ⟨rfl, hb2⟩; have HX2 := Lib.hid (⟨HB.out.trans (hb2.mono HB.out.size), HX.out.below hb2 HX.out.lt⟩ : Below w.heap.size w w2 ∧ Blk w2 w.heap.size 36 #[.slice (some ⟨b0, o, none⟩) m.bats.length c, .slice (some ⟨b1, o1, none⟩) m.bows.length c']); obtain ⟨x0, x1, _, _⟩ := HX2.out.2.duo; clear hb2)
    have y1 : w2.cell? ⟨b0, o + a * 2 + 1, none⟩ = some v := (HX2.out.1.cell (p := ⟨b0, o + a * 2 + 1, none⟩) BL.out).trans Y1.out
    have z1 : w2.cell? ⟨b1, o1 + b * 2 + 1, none⟩ = some (.int .i64 n) := (HX2.out.1.cell (p := ⟨b1, o1 + b * 2 + 1, none⟩) BL1.out).trans W1.out
    have HB2 := Lib.hid (Below.drew HX2.out.1)
    have HX3 := Lib.hid HX2.out.2.drew
    go_region_held3 (fun w' => w'.cell? ⟨w.heap.size, 0, none⟩ = some (.slice (some ⟨b0, o, none⟩) m.bats.length c) ∧ w'.cell? ⟨w.heap.size, 1, none⟩ = some (.slice (some ⟨b1, o1, none⟩) m.bows.length c') ∧ w'.cell? ⟨b0, o + a * 2 + 1, none⟩ = some v ∧ w'.cell? ⟨b1, o1 + b * 2 + 1, none⟩ = some (.int .i64 n)) (first | exact ⟨u0, u1, u2, u3⟩ | go_keep) ((go_at_call 11; refine (KS.out _ HB2.out).mono ?_; rintro e w4 ⟨v4, rfl, hs4, hb4⟩; obtain ⟨A4, c4, rfl, hc41, hc42⟩ := hs4.shape; obtain ⟨u0, u1, _, _⟩ := (HX3.out.below hb4 HX3.out.lt).duo; have u2 := (hb4.cell (p := ⟨b0, o + a * 2 + 1, none⟩) (Nat.lt_of_lt_of_le BL.out HB2.out.size)).trans y1; have u3 := (hb4.cell (p := ⟨b1, o1 + b * 2 + 1, none⟩) (Nat.lt_of_lt_of_le BL1.out HB2.out.size)).trans z1; have HS4 := Lib.hid hs4; have HB4 := Lib.hid hb4; clear hs4 hb4))
    all_goals go_wp2
    go_ret2
    exact ⟨_, rfl, HS4.out.keep elOtc_good (Same.refl _ _) fun b h => ⟨Nat.le_trans HB2.out.size h.1, h.2⟩, HB2.out.trans (HB4.out.mono HB2.out.size)⟩
end Go.Proofs.YticfopjbaoigfaaGreatDoor

namespace Go.Proofs.YticfopjbaoigfaaGreatDoor
open Go.ChangeShapes Go.WideShapes Go.ChangeAt Go.RowKit

theorem cellsBat : Tryz.prog.cellsOf 43 = 2 := by kernel_rfl
theorem cellsBow : Tryz.prog.cellsOf 45 = 2 := by kernel_rfl
theorem cellsMdl : Tryz.prog.cellsOf 36 = 2 := by kernel_rfl
theorem cellsOtcs : Tryz.prog.cellsOf 22 = 1 := by kernel_rfl
theorem cellsBats : Tryz.prog.cellsOf 33 = 1 := by kernel_rfl
theorem cellsBows : Tryz.prog.cellsOf 34 = 1 := by kernel_rfl
section
variable {H : Type} {enc : TypeId × Value → H} {W : World}
instance : Inhabited Bat := ⟨⟨[], []⟩⟩
instance : Inhabited Bow := ⟨⟨[], 0⟩⟩
set_option maxRecDepth 100000 in
theorem bat_one {fuel : Nat} {held : Bool} {cs : List Value} {x : DataW H × List MemPlace} (h : DataW.trod enc Tryz.prog W 0 (fun _ => true) held fuel 43 cs = some x) :
    ∃ f : Bat, elBat W (· < W.heap.size) cs f := by
  obtain ⟨ys, n, _, rfl, hc, hl, hf⟩ := DataW.trod_struct Tryz.underlying43 h
  rw [cellsBat] at hc
  match cs, hc with
  | [u0, u1], _ =>
    match ys, hl with
    | [z0, z1], _ =>
      have k0 := hf 0 _ rfl
      have k1 := hf 1 _ rfl
      obtain ⟨s, e0, _, hs⟩ := DataW.trod_string Tryz.underlying9 k0
      obtain ⟨v, l, e1, hsl⟩ := sl_raw (size := 3) (el := elOtc) Tryz.underlying22 cellsOtc (by decide) (fun h => otc_one h) k1
      have g0 : u0 = .string s := by simpa [Value.cells, cellsStr, cellsOtcs] using e0
      have g1 : u1 = v := by simpa [Value.cells, cellsStr, cellsOtcs] using e1
      subst g0 g1
      exact ⟨⟨s.data.toList, l⟩, ⟨_, by rw [S_of], hsl⟩, by simpa using hs⟩
set_option maxRecDepth 100000 in
theorem bow_one {F : Nat → Prop} {fuel : Nat} {held : Bool} {cs : List Value} {x : DataW H × List MemPlace} (h : DataW.trod enc Tryz.prog W 0 (fun _ => true) held fuel 45 cs = some x) :
    ∃ f : Bow, elBow W F cs f := by
  obtain ⟨ys, n, _, rfl, hc, hl, hf⟩ := DataW.trod_struct Tryz.underlying45 h
  rw [cellsBow] at hc
  match cs, hc with
  | [u0, u1], _ =>
    match ys, hl with
    | [z0, z1], _ =>
      have k0 := hf 0 _ rfl
      have k1 := hf 1 _ rfl
      obtain ⟨s, e0, _, hs⟩ := DataW.trod_string Tryz.underlying9 k0
      obtain ⟨a1, e1, _, _⟩ := DataW.trod_int Tryz.underlying3 k1
      have g0 : u0 = .string s := by simpa [Value.cells, cellsStr, cellsI'] using e0
      have g1 : u1 = .int .i64 a1 := by simpa [Value.cells, cellsStr, cellsI'] using e1
      subst g0 g1
      exact ⟨⟨s.data.toList, a1⟩, by rw [S_of], by simpa using hs⟩
set_option maxRecDepth 100000 in
/-- A model that came in. -/
theorem open_model {r : Reach} {b0 : Nat} {v : Value} {d : DataW H} {p : List MemPlace} (hv : Value.okWide Tryz.prog W r b0 36 v) (h : DataW.Trod enc Tryz.prog W 0 (fun _ => true) true 36 v d p) :
    ∃ (m : Mdl) (bv wv : Value), v = mdlV bv wv ∧ MdlAt W (· < W.heap.size) bv wv m := by
  obtain ⟨cs, rfl, hsz⟩ := okWide_struct Tryz.underlying36 hv
  obtain ⟨fuel, hf⟩ := h
  obtain ⟨l⟩ := cs
  match l, hsz.trans cellsMdl with
  | [c0, c1], _ =>
    obtain ⟨ys, n, _, _, _, hl, hf⟩ := DataW.trod_struct Tryz.underlying36 hf
    match ys, hl with
    | [z0, z1], _ =>
      have k0 := hf 0 _ rfl
      have k1 := hf 1 _ rfl
      obtain ⟨vb, lb, e0, hb⟩ := sl_raw (size := 2) (el := elBat) Tryz.underlying33 cellsBat (by decide) (fun h => bat_one h) k0
      obtain ⟨vw, lw, e1, hw⟩ := sl_raw (size := 2) (el := elBow) Tryz.underlying34 cellsBow (by decide) (fun h => bow_one h) k1
      have g0 : c0 = vb := by simpa [Value.cells, cellsBats, cellsBows] using e0
      have g1 : c1 = vw := by simpa [Value.cells, cellsBats, cellsBows] using e1
      subst g0 g1
      exact ⟨⟨lb, lw⟩, _, _, rfl, hb, hw⟩
end
end Go.Proofs.YticfopjbaoigfaaGreatDoor

namespace Go.Proofs.YticfopjbaoigfaaGreatDoor
open Go.RowKit

/-! A region that draws its order, some of whose operations are not wanted. -/
structure FreeG (P : Program) (ops : Array Oper) (V : Tab) (G : World → Prop) (needs : Nat → List Nat) (init : List Nat) (N : Nat) : Prop where
  back : ∀ (i : Nat) (o : Oper), ops[i]? = some o → ∀ e ∈ o.after, e.on < i
  dst : ∀ (i : Nat) (o : Oper), ops[i]? = some o → ∃ d, o.dst = some d ∧ d < N
  need : ∀ (i : Nat) (o : Oper), ops[i]? = some o → ∀ d ∈ needs i, d ∈ init ∨ ∃ e ∈ o.after, Region.binds .any e = true ∧ ∃ p, ops[e.on]? = some p ∧ p.dst = some d
  sV : ∀ d w w' v, V d w v → Below w.heap.size w w' → V d w' v
  sG : ∀ w w', G w → Below w.heap.size w w' → G w'
  step : ∀ (i : Nat) (o : Oper), ops[i]? = some o → ∀ a w, G w → (∀ x ∈ needs i, Holds V a w x) → (Region.wanted o (yielded ops a.tmps) = true ∧ Meets P V o a w) ∨ (Region.wanted o (yielded ops a.tmps) = false ∧ ∀ d, o.dst = some d → V d w undef)
section
variable {P : Program} {ops : Array Oper} {V : Tab} {G : World → Prop} {needs : Nat → List Nat} {init : List Nat} {N : Nat} {Q : Exit → Act → World → Prop} {a0 : Act} {w0 : World}
theorem all_listedG (hback : ∀ (i : Nat) (o : Oper), ops[i]? = some o → ∀ e ∈ o.after, e.on < i) {listed : Array Bool} (hr : Region.ready .any ops listed = []) (hsz : listed.size = ops.size) : ∀ i, i < ops.size → listed.getD i false = true := by
  intro i
  induction i using Nat.strongRecOn with
  | ind i ih =>
    intro hi
    cases hl : listed.getD i false with
    | true => rfl
    | false =>
      exfalso
      have h2 : listed.getD i true = false := by
        have hlt : i < listed.size := by omega
        simp [hlt] at hl ⊢; exact hl
      have ho : ops[i]? = some ops[i] := Array.getElem?_eq_getElem hi
      have : i ∈ Region.ready .any ops listed := mem_ready.2 ⟨h2, _, ho, fun e he _ => ih e.on (hback i _ ho e he) (by have := hback i _ ho e he; omega)⟩
      rw [hr] at this
      cases this
theorem wpAny_freeG (hF : FreeG P ops V G needs init N) (hN : N ≤ a0.tmps.size) (fin : ∀ a w, RIn ops V G init a0 w0 (Array.replicate ops.size true) a w → Q .normal a w) :
    ∀ (fuel : Nat) (listed : Array Bool) (a : Act) (w : World), listed.size = ops.size → listed.toList.count false ≤ fuel → RIn ops V G init a0 w0 listed a w → wpAny P .any ops Q fuel listed a w := by
  have hfin : ∀ (listed : Array Bool) (a : Act) (w : World), listed.size = ops.size → Region.ready .any ops listed = [] → RIn ops V G init a0 w0 listed a w → Q .normal a w := by
    intro listed a w hsz hr h
    refine fin a w ⟨h.size, h.dfr, h.g, h.below, h.ini, fun i o d ho _ hd => h.done i o d ho (all_listedG hF.back hr hsz i (Array.getElem?_eq_some_iff.1 ho).1) hd, h.keep⟩
  intro fuel
  induction fuel with
  | zero =>
    intro listed a w hsz hc h
    have hr : Region.ready .any ops listed = [] := by
      cases hr : Region.ready .any ops listed with
      | nil => rfl
      | cons j t =>
        exfalso
        have hj : j ∈ Region.ready .any ops listed := by rw [hr]; simp
        obtain ⟨h1, o, ho, _⟩ := mem_ready.1 hj
        have hlt : j < listed.size := by have := (Array.getElem?_eq_some_iff.1 ho).1; omega
        have h2 : listed[j]? = some false := by
          rw [Array.getElem?_eq_getElem hlt]; simp [hlt] at h1; rw [h1]
        have : false ∈ listed.toList := Array.mem_toList_iff.2 (Array.mem_of_getElem? h2)
        have := List.count_pos_iff.2 this
        omega
    exact ⟨hr, hfin listed a w hsz hr h⟩
  | succ fuel ih =>
    intro listed a w hsz hc h
    refine ⟨fun hr => hfin listed a w hsz hr h, fun i hi => ?_⟩
    obtain ⟨h1, o, ho, hall⟩ := mem_ready.1 hi
    obtain ⟨d, hd, hdN⟩ := hF.dst i o ho
    have hlt : i < listed.size := by have := (Array.getElem?_eq_some_iff.1 ho).1; omega
    have h2 : listed[i]? = some false := by
      rw [Array.getElem?_eq_getElem hlt]; simp [hlt] at h1; rw [h1]
    have hcnt := count_set listed.toList i (by rw [Array.getElem?_toList]; exact h2)
    have hneeds : ∀ x ∈ needs i, Holds V a w x := fun x hx => by
      rcases hF.need i o ho x hx with hx | ⟨e, he, hbi, p, hp, hpd⟩
      · exact h.ini x hx
      · exact h.done e.on p x hp (hall e he hbi) hpd
    have go : ∀ v w', Below w.heap.size w w' → V d w' v → wpAny P .any ops Q fuel (listed.setIfInBounds i true) (a.put o.dst v) w' := fun v w' hb hv => by
      rw [hd]
      refine ih _ _ _ (by simpa using hsz) (by rw [Array.toList_setIfInBounds]; omega) ⟨by unfold Act.put; simpa using h.size, h.dfr, hF.sG _ _ h.g hb, h.below.trans (hb.mono h.below.size), fun x hx => (h.ini x hx).put hF.sV hb hv, fun j p x hj hl hx => ?_, fun k hk => ?_⟩
      · by_cases hji : j = i
        · subst hji
          rw [ho] at hj; obtain rfl := Option.some.inj hj
          have hdx : d = x := Option.some.inj (hd.symm.trans hx)
          subst hdx
          refine ⟨v, ?_, hv⟩
          rw [put_get, if_pos ⟨rfl, by rw [h.size]; exact Nat.lt_of_lt_of_le hdN hN⟩]
        · have hl' : listed.getD j false = true := by rw [getD_set_ne false (Ne.symm hji)] at hl; exact hl
          exact (h.done j p x hj hl' hx).put hF.sV hb hv
      · rw [put_get, if_neg (fun hc => hk i o ho (by rw [hd, hc.1]))]
        exact h.keep k hk
    unfold wpOp
    rw [ho]
    dsimp only
    rcases hF.step i o ho a w h.g hneeds with ⟨hw, hm⟩ | ⟨hw, hm⟩
    · rw [hw, if_pos rfl]
      exact .inl (hm d hd _ _ go)
    · rw [hw, if_neg (by simp)]
      exact go undef w (Below.refl _ _) (hm d hd)
theorem wp_region_freeG {ops' : Array Oper} {id : Nat} (he : ops = ops') (hm : P.follows .mixedOrders = true) (hF : FreeG P ops' V G needs init N) (hN : N ≤ a0.tmps.size) (hG : G w0) (hini : ∀ d ∈ init, Holds V a0 w0 d)
    (fin : ∀ a w, RIn ops' V G init a0 w0 (Array.replicate ops'.size true) a w → Q .normal a w) : (Code.region id ops true).wp P Q a0 w0 := by
  subst he
  have hb : Below w0.heap.size w0 { w0 with drawn := w0.drawn + 1 } := Below.drew (Below.refl _ _)
  refine wp_region_any hm (wpAny_freeG hF hN fin _ _ _ _ (by simp) (by simp) ⟨rfl, rfl, hF.sG _ _ hG hb, hb, fun d hd => ?_, fun i o d ho hl => ?_, fun _ _ => rfl⟩)
  · obtain ⟨v, h1, h2⟩ := hini d hd
    exact ⟨v, h1, hF.sV _ _ _ _ h2 hb⟩
  · exfalso
    have hlt := (Array.getElem?_eq_some_iff.1 ho).1
    simp [hlt] at hl
end
/-- The operations of a region of a function's text. -/
def findR6 (n : Nat) : Code → Option (Array Oper)
  | .region id ops _ => if id = n then some ops else none
  | .seq a b => match findR6 n a with
    | some x => some x
    | none => findR6 n b
  | .cond _ a b => match findR6 n a with
    | some x => some x
    | none => findR6 n b
  | .block _ c => findR6 n c
  | .loop c => findR6 n c
  | .scope c => findR6 n c
  | _ => none
def backG (ops : Array Oper) : Bool := (List.range ops.size).all fun i => match ops[i]? with
  | some o => o.after.toList.all fun e => decide (e.on < i)
  | none => true
def dstG (ops : Array Oper) (N : Nat) : Bool := (List.range ops.size).all fun i => match ops[i]? with
  | some o => (match o.dst with | some d => decide (d < N) | none => false)
  | none => true
def needG (ops : Array Oper) (needs : List (List Nat)) (init : List Nat) : Bool := (List.range ops.size).all fun i => match ops[i]? with
  | some o => (needs.getD i []).all fun d => init.contains d || o.after.toList.any fun e => Region.binds .any e && (match ops[e.on]? with | some p => p.dst == some d | none => false)
  | none => true
theorem backG_of {ops : Array Oper} (h : backG ops = true) : ∀ (i : Nat) (o : Oper), ops[i]? = some o → ∀ e ∈ o.after, e.on < i := by
  intro i o ho e he
  have := List.all_eq_true.1 h i (List.mem_range.2 (Array.getElem?_eq_some_iff.1 ho).1)
  rw [ho] at this
  exact of_decide_eq_true (List.all_eq_true.1 this e (Array.mem_toList_iff.2 he))
theorem dstG_of {ops : Array Oper} {N : Nat} (h : dstG ops N = true) : ∀ (i : Nat) (o : Oper), ops[i]? = some o → ∃ d, o.dst = some d ∧ d < N := by
  intro i o ho
  have h2 := List.all_eq_true.1 h i (List.mem_range.2 (Array.getElem?_eq_some_iff.1 ho).1)
  rw [ho] at h2
  dsimp only at h2
  cases hd : o.dst with
  | none => rw [hd] at h2; cases h2
  | some d => rw [hd] at h2; exact ⟨d, rfl, of_decide_eq_true h2⟩
theorem needG_of {ops : Array Oper} {needs : List (List Nat)} {init : List Nat} (h : needG ops needs init = true) : ∀ (i : Nat) (o : Oper), ops[i]? = some o → ∀ d ∈ needs.getD i [], d ∈ init ∨ ∃ e ∈ o.after, Region.binds .any e = true ∧ ∃ p, ops[e.on]? = some p ∧ p.dst = some d := by
  intro i o ho d hd
  have := List.all_eq_true.1 h i (List.mem_range.2 (Array.getElem?_eq_some_iff.1 ho).1)
  rw [ho] at this
  have := List.all_eq_true.1 this d hd
  rcases Bool.or_eq_true_iff.1 this with h1 | h1
  · exact .inl (by simpa using h1)
  · obtain ⟨e, he, h2⟩ := List.any_eq_true.1 h1
    rw [Bool.and_eq_true] at h2
    refine .inr ⟨e, Array.mem_toList_iff.1 he, h2.1, ?_⟩
    cases hp : ops[e.on]? with
    | none => rw [hp] at h2; cases h2.2
    | some p => rw [hp] at h2; exact ⟨p, rfl, by simpa using h2.2⟩
theorem opG_of {ops : Array Oper} {i : Nat} {o : Oper} {x : Op} {d : Option Tmp} (h : (ops[i]?).map (fun o => (o.op, o.dst)) = some (x, d)) (ho : ops[i]? = some o) : o.op = x ∧ o.dst = d := by
  rw [ho] at h
  simpa using h
/-- Slots with one value each. -/
def boolOf : Value → Option Bool
  | .bool b => some b
  | _ => none
def skipG (ops : Array Oper) (needs : List (List Nat)) (cls : Nat → Option Bool) (i : Nat) : Bool := match ops[i]? with
  | some o => match o.guard with
    | some (j, b) => match (ops[j]?).bind (·.dst) with
      | some d => (needs.getD i []).contains d && !(cls d == some b)
      | none => false
    | none => false
  | none => true
theorem skip_of {ops : Array Oper} {needs : List (List Nat)} {tab : Nat → Value} {cls : Nat → Option Bool} (hc : ∀ d, boolOf (tab d) = cls d) {i : Nat} {o : Oper} (h : skipG ops needs cls i = true) (ho : ops[i]? = some o) {a : Act} {w : World} (hn : ∀ x ∈ needs.getD i [], Holds (fun d _ v => v = tab d) a w x) :
    Region.wanted o (yielded ops a.tmps) = false := by
  unfold skipG at h
  rw [ho] at h
  dsimp only at h
  unfold Region.wanted
  cases hg : o.guard with
  | none => rw [hg] at h; cases h
  | some jb =>
    obtain ⟨j, b⟩ := jb
    rw [hg] at h
    dsimp only at h ⊢
    cases hd : (ops[j]?).bind (·.dst) with
    | none => rw [hd] at h; cases h
    | some d =>
      rw [hd] at h
      dsimp only at h
      rw [Bool.and_eq_true] at h
      obtain ⟨v, h1, h2⟩ := hn d (by simpa using h.1)
      subst h2
      have hk := hc d
      have h3 : yielded ops a.tmps j = cls d := by
        unfold yielded
        rw [hd]
        show (match (some d).bind (a.tmps[·]?) with | some (.bool b) => some b | _ => none) = cls d
        rw [Option.bind_some, h1, ← hk]
        cases tab d <;> rfl
      rw [h3]
      have := h.2
      simpa using this
theorem free_not {ops : Array Oper} {o : Oper} (h : o.guard = none) {t : Array Value} : Region.wanted o (yielded ops t) = true := by unfold Region.wanted; rw [h]
theorem RIn.atG {ops : Array Oper} {V : Tab} {G : World → Prop} {init : List Nat} {a0 a : Act} {w0 w : World} (h : RIn ops V G init a0 w0 (Array.replicate ops.size true) a w) (i d : Nat) (hd : (ops[i]?).bind (·.dst) = some d) : Holds V a w d := by
  cases ho : ops[i]? with
  | none => rw [ho] at hd; cases hd
  | some o =>
    rw [ho] at hd
    have hlt := (Array.getElem?_eq_some_iff.1 ho).1
    exact h.done i o d ho (by simp [hlt]) hd
theorem listG_cons {α : Type} {n : Nat} {l : List α} (h : l.length = n + 1) : ∃ x t, l = x :: t ∧ t.length = n := by
  cases l with
  | nil => simp at h
  | cons x t => exact ⟨x, t, rfl, by simpa using h⟩
/-- The region of the law's last statement. -/
noncomputable def mcOps : Array Oper := ((Tryz.f5.body).bind (findR6 3)).getD #[]
def mcNeeds : List (List Nat) := [[2], [7], [8], [9], [10], [10], [10], [10], [10], [10], [16], [16], [16], [16], [16], [16], [16], [10], [10], [25], [25], [25], [25], [25], [25], [25], [10], [10], [34]]
def mcTab (mv : Value) (g : Nat) (d : Nat) : Value := if d = 2 then .pointer (some ⟨g, 0, none⟩) else if d = 7 then mv else if d = 8 then .bool false else if d = 9 ∨ d = 10 ∨ d = 34 ∨ d = 4 then .bool true else undef
def mcCls (d : Nat) : Option Bool := if d = 2 then none else if d = 7 then none else if d = 8 then some false else if d = 9 ∨ d = 10 ∨ d = 34 ∨ d = 4 then some true else none
theorem mc_cls (cs : Array Value) (g d : Nat) : boolOf (mcTab (.agg cs) g d) = mcCls d := by
  unfold mcTab mcCls
  repeat' split
  all_goals rfl
theorem mc_skip : (List.range 23).all (fun k => skipG mcOps mcNeeds mcCls (k + 4) && decide ((mcOps[k + 4]?).bind (·.dst) = some (k + 11))) = true := by kernel_rfl
theorem mc_undef {mv : Value} {g k : Nat} (h : k < 23) : mcTab mv g (k + 11) = undef := by
  unfold mcTab
  rw [if_neg (by omega), if_neg (by omega), if_neg (by omega), if_neg (by omega)]
theorem mc_size : mcOps.size = 29 := by kernel_rfl
theorem guardG_of {ops : Array Oper} {i : Nat} {o : Oper} (h : (ops[i]?).map (·.guard) = some none) (ho : ops[i]? = some o) : o.guard = none := by
  rw [ho] at h
  simpa using h
theorem load_mdl {w : World} {g : Nat} {bv wv : Value} (h : Blk w g 36 #[bv, wv]) : (Instr.loadAt 36 (.pointer (some ⟨g, 0, none⟩))).run Tryz.prog w = .ok (.agg #[bv, wv]) w := by
  obtain ⟨c0, c1, _, _⟩ := h.duo
  simp [go_sem, c0, c1]
theorem mc_free {w : World} {bv wv : Value} (hk : ∀ W, Below w.heap.size w W → Calls Tryz.prog 16 #[.agg #[bv, wv]] W fun e W' => e = .returned (.bool false) ∧ Below W.heap.size W W') :
    FreeG Tryz.prog mcOps (fun d _ v => v = mcTab (.agg #[bv, wv]) w.heap.size d) (fun W => Below w.heap.size w W ∧ Blk W w.heap.size 36 #[bv, wv]) (fun i => mcNeeds.getD i []) [2] 35 := by
  refine ⟨backG_of (by kernel_rfl), dstG_of (by kernel_rfl), needG_of (by kernel_rfl), fun d w w' v h _ => h, fun W W' h hb => ⟨h.1.trans (hb.mono h.1.size), h.2.below hb h.2.lt⟩, ?_⟩
  intro i o ho a W hG hn
  have hlt : i < 29 := by rw [← mc_size]; exact (Array.getElem?_eq_some_iff.1 ho).1
  have val : ∀ d v, (∀ x ∈ mcNeeds.getD i [], Holds (fun d _ v => v = mcTab (.agg #[bv, wv]) w.heap.size d) a W x) → mcNeeds.getD i [] = [d] → mcTab (.agg #[bv, wv]) w.heap.size d = v → a.eval (.tmp d) = v := fun d v hn hd hv => by
    obtain ⟨u, h1, h2⟩ := hn d (by rw [hd]; simp)
    subst h2
    rw [← hv]; exact eval_tmp h1
  by_cases hs : 4 ≤ i ∧ i < 27
  · obtain ⟨k, rfl⟩ : ∃ k, i = k + 4 := ⟨i - 4, by omega⟩
    have h1 := List.all_eq_true.1 mc_skip k (List.mem_range.2 (by omega))
    rw [Bool.and_eq_true, decide_eq_true_eq] at h1
    refine .inr ⟨skip_of (mc_cls _ _) h1.1 ho hn, fun d hd => ?_⟩
    have h2 := h1.2
    rw [ho] at h2
    have h3 : o.dst = some (k + 11) := h2
    rw [h3] at hd
    obtain rfl := Option.some.inj hd
    exact (mc_undef (by omega)).symm
  · have hcase : i = 0 ∨ i = 1 ∨ i = 2 ∨ i = 3 ∨ i = 27 ∨ i = 28 := by omega
    rcases hcase with rfl | rfl | rfl | rfl | rfl | rfl
    · obtain ⟨h1, h2⟩ := opG_of (x := .load 36 (.tmp 2)) (d := some 7) (by kernel_rfl) ho
      refine .inl ⟨free_not (guardG_of (by kernel_rfl) ho), meets_load h1 (val 2 _ hn rfl rfl) (load_mdl hG.2) fun d hd => ?_⟩
      rw [h2] at hd; obtain rfl := Option.some.inj hd; rfl
    · obtain ⟨h1, h2⟩ := opG_of (x := .call { callee := .value (.func 16), args := #[.tmp 7], argTypes := #[36] }) (d := some 8) (by kernel_rfl) ho
      refine .inl ⟨free_not (guardG_of (by kernel_rfl) ho), meets_call (args := #[.agg #[bv, wv]]) h1 rfl rfl (by have e7 : a.eval (.tmp 7) = .agg #[bv, wv] := val 7 _ hn rfl rfl; simp [e7]) Tryz.func16 (by kernel_rfl) (by kernel_rfl) fun d hd => ?_⟩
      refine (hk W hG.1).mono ?_
      rintro e W' ⟨rfl, hb⟩
      rw [h2] at hd; obtain rfl := Option.some.inj hd
      exact ⟨_, rfl, hb, rfl⟩
    · obtain ⟨h1, h2⟩ := opG_of (x := .unOp .not 4 (.tmp 8)) (d := some 9) (by kernel_rfl) ho
      refine .inl ⟨free_not (guardG_of (by kernel_rfl) ho), meets_value (v := .bool true) (by have e8 : a.eval (.tmp 8) = .bool false := val 8 _ hn rfl rfl; unfold execOp; simp only [h1, e8]; simp [go_sem]) fun d hd => ?_⟩
      rw [h2] at hd; obtain rfl := Option.some.inj hd; rfl
    · obtain ⟨h1, h2⟩ := opG_of (x := .move (.tmp 9)) (d := some 10) (by kernel_rfl) ho
      refine .inl ⟨free_not (guardG_of (by kernel_rfl) ho), meets_move (.inl h1) fun d hd => ?_⟩
      rw [h2] at hd; obtain rfl := Option.some.inj hd
      exact val 9 _ hn rfl rfl
    · obtain ⟨h1, h2⟩ := opG_of (x := .pick (.tmp 10) (.const (.bool true)) (.tmp 33)) (d := some 34) (by kernel_rfl) ho
      refine .inl ⟨free_not (guardG_of (by kernel_rfl) ho), meets_value (v := .bool true) (by have e10 : a.eval (.tmp 10) = .bool true := val 10 _ hn rfl rfl; unfold execOp; simp only [h1, e10]; simp [go_sem, BigFrame.eval_const]) fun d hd => ?_⟩
      rw [h2] at hd; obtain rfl := Option.some.inj hd; rfl
    · obtain ⟨h1, h2⟩ := opG_of (x := .assign (.tmp 34)) (d := some 4) (by kernel_rfl) ho
      refine .inl ⟨free_not (guardG_of (by kernel_rfl) ho), meets_move (.inr h1) fun d hd => ?_⟩
      rw [h2] at hd; obtain rfl := Option.some.inj hd
      exact val 34 _ hn rfl rfl
set_option maxRecDepth 100000 in
set_option maxHeartbeats 4000000 in
theorem law_ModelChecks (m : Mdl) (bv wv : Value) (s : ByteArray) (w : World) (hg : GlobN w) (h : MdlAt w (· < w.heap.size) bv wv m) (_ : s.size ≤ maxLen) :
    Calls Tryz.prog 5 #[mdlV bv wv, .string s] w fun e w' => e = .returned (.bool true) ∧ Below w.heap.size w w' := by
  unfold mdlV
  obtain ⟨x, rfl⟩ : ∃ x, s = S x := ⟨s.data.toList, (S_of s).symm⟩
  obtain ⟨A, c, rfl, hc, hc2⟩ := h.bat.shape
  obtain ⟨A', c', rfl, hc', hc2'⟩ := h.bow.shape
  have hb1 : Below w.heap.size w (w.alloc (.cells #[.slice A m.bats.length c, .slice A' m.bows.length c'] 36)) := Below.alloc (Below.refl _ _) (Nat.le_refl _) _
  have HX0 := Lib.hid (⟨hb1, Blk.new w 36 #[.slice A m.bats.length c, .slice A' m.bows.length c']⟩ : Below w.heap.size w (w.alloc (.cells #[.slice A m.bats.length c, .slice A' m.bows.length c'] 36)) ∧ Blk (w.alloc (.cells #[.slice A m.bats.length c, .slice A' m.bows.length c'] 36)) w.heap.size 36 #[.slice A m.bats.length c, .slice A' m.bows.length c'])
  have KAW := Lib.hid (fun W (hW : Below w.heap.size w W) => law43_awake W (hg.below hW))
  have HM := Lib.hid h
  have k2 : ∀ W, Below w.heap.size w W → Calls Tryz.prog 16 #[.agg #[.slice A m.bats.length c, .slice A' m.bows.length c']] W fun e W' => e = .returned (.bool (smallM m)) ∧ Below W.heap.size W W' := fun W hW => law43_small m _ _ W (HM.out.below hW)
  have k3 : ∀ W, Below w.heap.size w W → Calls Tryz.prog 17 #[.agg #[.slice A m.bats.length c, .slice A' m.bows.length c']] W fun e W' => e = .returned (.int .i64 (checkM m)) ∧ Below W.heap.size W W' := fun W hW => m_Check m _ _ W (HM.out.below hW)
  have k4 : ∀ W, Below w.heap.size w W → Calls Tryz.prog 18 #[.agg #[.slice A m.bats.length c, .slice A' m.bows.length c']] W fun e W' => e = .returned (.int .i64 (checkM m)) ∧ Below W.heap.size W W' := fun W hW => r_Check m _ _ W (HM.out.below hW)
  have k5 : ∀ W, Below w.heap.size w W → Calls Tryz.prog 19 #[.agg #[.slice A m.bats.length c, .slice A' m.bows.length c'], .string (S x)] W fun e W' => e = .returned (.int .i64 (batI m.bats x)) ∧ Below W.heap.size W W' := fun W hW => m_Batter m _ _ x W (HM.out.below hW)
  have k6 : ∀ W, Below w.heap.size w W → Calls Tryz.prog 20 #[.agg #[.slice A m.bats.length c, .slice A' m.bows.length c'], .string (S x)] W fun e W' => e = .returned (.int .i64 (batI m.bats x)) ∧ Below W.heap.size W W' := fun W hW => r_Batter m _ _ x W (HM.out.below hW)
  have k7 : ∀ W, Below w.heap.size w W → Calls Tryz.prog 21 #[.agg #[.slice A m.bats.length c, .slice A' m.bows.length c'], .string (S x)] W fun e W' => e = .returned (.int .i64 (bowI m.bows x)) ∧ Below W.heap.size W W' := fun W hW => m_Bowler m _ _ x W (HM.out.below hW)
  have k8 : ∀ W, Below w.heap.size w W → Calls Tryz.prog 22 #[.agg #[.slice A m.bats.length c, .slice A' m.bows.length c'], .string (S x)] W fun e W' => e = .returned (.int .i64 (bowI m.bows x)) ∧ Below W.heap.size W W' := fun W hW => r_Bowler m _ _ x W (HM.out.below hW)
  obtain ⟨u, hu⟩ : ∃ u, u = checkM m := ⟨_, rfl⟩
  obtain ⟨i, hi⟩ : ∃ i, i = batI m.bats x := ⟨_, rfl⟩
  obtain ⟨j, hj⟩ : ∃ j, j = bowI m.bows x := ⟨_, rfl⟩
  rw [← hu] at k3 k4
  rw [← hi] at k5 k6
  rw [← hj] at k7 k8
  have K3 := Lib.hid k3
  have K4 := Lib.hid k4
  have K5 := Lib.hid k5
  have K6 := Lib.hid k6
  have K7 := Lib.hid k7
  have K8 := Lib.hid k8
  clear k3 k4 k5 k6 k7 k8 hu hi hj hg hb1 h HM
  have tok0 : True := trivial
  cases hs : smallM m
  · rw [hs] at k2
    have K2 := Lib.hid k2
    clear k2 hs
    go_enter Tryz.func5, Tryz.ntmps5
    go_wp2_with (clear tok0; go_at_call 9; refine (KAW.out _ HX0.out.1).mono ?_; rintro e w1 ⟨rfl, hb⟩; have HX1 := Lib.hid (⟨HX0.out.1.trans (hb.mono HX0.out.1.size), HX0.out.2.below hb HX0.out.2.lt⟩ : Below w.heap.size w w1 ∧ Blk w1 w.heap.size 36 #[.slice A m.bats.length c, .slice A' m.bows.length c']); obtain ⟨x0, x1, _, _⟩ := HX1.out.2.duo; clear hb; have tok1 : True := trivial)
    refine wp_region_freeG (by kernel_rfl : _ = mcOps) (by kernel_rfl) (mc_free (w := w) K2.out) (of_decide_eq_true (by kernel_rfl)) HX1.out (fun d hd => ?_) ?_
    · simp only [List.mem_cons, List.not_mem_nil, or_false] at hd
      subst hd
      exact ⟨_, rfl, rfl⟩
    · rintro ⟨⟨l⟩, df⟩ wx hin
      obtain ⟨v4, hv4, hs4⟩ := hin.atG 28 4 (by kernel_rfl)
      have hsz : l.length = 35 := hin.size
      have hdf : df = [] := hin.dfr
      have HG := Lib.hid hin.g
      clear hin
      subst hdf
      have hs4 : v4 = .bool true := hs4
      subst hs4
      dsimp only at hv4
      iterate 35 (obtain ⟨_, t, e, h2⟩ := listG_cons hsz; clear hsz; subst e; have hsz := h2; clear h2)
      have e0 := List.eq_nil_of_length_eq_zero hsz
      clear hsz
      subst e0
      simp only [List.getElem?_toArray, List.getElem?_cons_zero, List.getElem?_cons_succ, Option.some.injEq] at hv4
      subst hv4
      go_wp2
      go_ret
      exact ⟨rfl, HG.out.1⟩
  · rw [hs] at k2
    have K2 := Lib.hid k2
    clear k2 hs
    go_enter Tryz.func5, Tryz.ntmps5
    go_wp2_with (clear tok0; go_at_call 9; refine (KAW.out _ HX0.out.1).mono ?_; rintro e w1 ⟨rfl, hb⟩; have HX1 := Lib.hid (⟨HX0.out.1.trans (hb.mono HX0.out.1.size), HX0.out.2.below hb HX0.out.2.lt⟩ : Below w.heap.size w w1 ∧ Blk w1 w.heap.size 36 #[.slice A m.bats.length c, .slice A' m.bows.length c']); obtain ⟨x0, x1, _, _⟩ := HX1.out.2.duo; clear hb; have tok1 : True := trivial)
    obtain ⟨x0, x1, _, _⟩ := HX1.out.2.duo
    have HX2 := Lib.hid (⟨Below.drew HX1.out.1, HX1.out.2.drew⟩ : Below w.heap.size w w1.drew ∧ Blk w1.drew w.heap.size 36 #[.slice A m.bats.length c, .slice A' m.bows.length c'])
    have tok2 : True := trivial
    go_region_held3 (fun w' => w'.cell? ⟨w.heap.size, 0, none⟩ = some (.slice A m.bats.length c) ∧ w'.cell? ⟨w.heap.size, 1, none⟩ = some (.slice A' m.bows.length c')) (first | exact ⟨x0, x1⟩ | go_keep) (first
      | (clear tok2; go_at_call 16; refine (K2.out _ HX2.out.1).mono ?_; rintro e w3 ⟨rfl, hb⟩; have HX3 := Lib.hid (⟨HX2.out.1.trans (hb.mono HX2.out.1.size), HX2.out.2.below hb HX2.out.2.lt⟩ : Below w.heap.size w w3 ∧ Blk w3 w.heap.size 36 #[.slice A m.bats.length c, .slice A' m.bows.length c']); obtain ⟨x0, x1, _, _⟩ := HX3.out.2.duo; clear hb; have tok3 : True := trivial)
      | (clear tok3; go_at_call 17; refine (K3.out _ HX3.out.1).mono ?_; rintro e w4 ⟨rfl, hb⟩; have HX4 := Lib.hid (⟨HX3.out.1.trans (hb.mono HX3.out.1.size), HX3.out.2.below hb HX3.out.2.lt⟩ : Below w.heap.size w w4 ∧ Blk w4 w.heap.size 36 #[.slice A m.bats.length c, .slice A' m.bows.length c']); obtain ⟨x0, x1, _, _⟩ := HX4.out.2.duo; clear hb; have tok4 : True := trivial)
      | (clear tok4; go_at_call 18; refine (K4.out _ HX4.out.1).mono ?_; rintro e w5 ⟨rfl, hb⟩; have HX5 := Lib.hid (⟨HX4.out.1.trans (hb.mono HX4.out.1.size), HX4.out.2.below hb HX4.out.2.lt⟩ : Below w.heap.size w w5 ∧ Blk w5 w.heap.size 36 #[.slice A m.bats.length c, .slice A' m.bows.length c']); obtain ⟨x0, x1, _, _⟩ := HX5.out.2.duo; clear hb; have tok5 : True := trivial)
      | (clear tok5; go_at_call 19; refine (K5.out _ HX5.out.1).mono ?_; rintro e w6 ⟨rfl, hb⟩; have HX6 := Lib.hid (⟨HX5.out.1.trans (hb.mono HX5.out.1.size), HX5.out.2.below hb HX5.out.2.lt⟩ : Below w.heap.size w w6 ∧ Blk w6 w.heap.size 36 #[.slice A m.bats.length c, .slice A' m.bows.length c']); obtain ⟨x0, x1, _, _⟩ := HX6.out.2.duo; clear hb; have tok6 : True := trivial)
      | (clear tok6; go_at_call 20; refine (K6.out _ HX6.out.1).mono ?_; rintro e w7 ⟨rfl, hb⟩; have HX7 := Lib.hid (⟨HX6.out.1.trans (hb.mono HX6.out.1.size), HX6.out.2.below hb HX6.out.2.lt⟩ : Below w.heap.size w w7 ∧ Blk w7 w.heap.size 36 #[.slice A m.bats.length c, .slice A' m.bows.length c']); obtain ⟨x0, x1, _, _⟩ := HX7.out.2.duo; clear hb; have tok7 : True := trivial)
      | (clear tok7; go_at_call 21; refine (K7.out _ HX7.out.1).mono ?_; rintro e w8 ⟨rfl, hb⟩; have HX8 := Lib.hid (⟨HX7.out.1.trans (hb.mono HX7.out.1.size), HX7.out.2.below hb HX7.out.2.lt⟩ : Below w.heap.size w w8 ∧ Blk w8 w.heap.size 36 #[.slice A m.bats.length c, .slice A' m.bows.length c']); obtain ⟨x0, x1, _, _⟩ := HX8.out.2.duo; clear hb; have tok8 : True := trivial)
      | (clear tok8; go_at_call 22; refine (K8.out _ HX8.out.1).mono ?_; rintro e w9 ⟨rfl, hb⟩; have HX9 := Lib.hid (⟨HX8.out.1.trans (hb.mono HX8.out.1.size), HX8.out.2.below hb HX8.out.2.lt⟩ : Below w.heap.size w w9 ∧ Blk w9 w.heap.size 36 #[.slice A m.bats.length c, .slice A' m.bows.length c']); obtain ⟨x0, x1, _, _⟩ := HX9.out.2.duo; clear hb; have tok9 : True := trivial))
    all_goals go_wp2
    all_goals go_ret
    all_goals exact ⟨ret_b (by simp), HX9.out.1⟩
end Go.Proofs.YticfopjbaoigfaaGreatDoor

namespace Go.Proofs.YticfopjbaoigfaaGreatDoor.modelChecks
open Go.ChangeShapes Go.WideShapes Go.ChangeAt Go.RowKit
open Go.ChangeMaps (open_string)

set_option maxRecDepth 100000 in
theorem contract (H : Type) (enc : TypeId × Value → H) (W : World) (base : Nat) (args : Array Value) (ds gs : List (DataW H)) (before : List MemPlace)
    (hval : ∀ (j : Nat) t v, Tryz.f5.params[j]? = some t → args[j]? = some v → Value.okWide Tryz.prog W .any base t v)
    (hW : DataW.Whole enc Tryz.prog Tryz.f5.params.toList Rows.modelChecksSpec.vars false W args.toList ds gs before) (hsh : W.ShapedOpen Tryz.prog) (hL : laidMet Tryz.prog laidAll W) :
    Calls Tryz.prog 5 args W fun e W' => ∃ v, e = .returned v ∧ Rows.modelChecksSpec.post enc Tryz.prog Tryz.f5 false true false false W args v W' := by
  have hW' := hW
  obtain ⟨p, q, hA0, hV, rfl, hfz, hnd⟩ := hW
  have hA : DataW.TrodAll enc Tryz.prog W 0 (fun _ => true) true Tryz.f5.params.toList args.toList ds p := hA0
  rw [Tryz.params5] at hA hval
  obtain ⟨v0, vs0, d0, ds0, p0, q0, hargs, rfl, rfl, h0, r0⟩ := trodAll_cons hA
  obtain ⟨v1, vs1, d1, ds1, p1, q1, rfl, rfl, rfl, h1, r1⟩ := trodAll_cons r0
  obtain ⟨rfl, rfl, rfl⟩ := trodAll_nil r1
  obtain rfl : args = #[v0, v1] := by cases args; simp_all
  obtain ⟨rfl, rfl⟩ := trodVars_none hV
  clear hA0
  simp only [List.append_nil] at hW'
  have hlt := fun x hx => hW'.lt x hx
  have h0k := h0
  have h1k := h1
  obtain ⟨q0, bv0, wv0, rfl, hl0⟩ := open_model (hval 0 36 v0 rfl rfl) h0
  obtain ⟨s1, rfl, rfl, rfl, hs1⟩ := open_string Tryz.underlying9 (hval 1 9 v1 rfl rfl) h1
  refine (law_ModelChecks q0 bv0 wv0 s1 W (globN_of hsh hL) hl0 hs1).mono fun e W' ⟨he, hb⟩ => ?_
  subst he
  refine ⟨_, rfl, post_of_below hW' (fun _ _ _ => trodAll_cons_mk (shut_bool Tryz.underlying4 _) trodAll_mk0) (fun sp hsp => trodAll_cons_mk (trod_again laidOut (by kernel_rfl) (of_decide_eq_true (by kernel_rfl)) h0k hb (fun x hx => hlt x (by first | (simp [hx]; done) | cases hx)) (fun x hx => hsp x (by first | (simp [hx]; done) | cases hx))) (trodAll_cons_mk (trod_again laidOut (by kernel_rfl) (of_decide_eq_true (by kernel_rfl)) h1k hb (fun x hx => hlt x (by first | (simp [hx]; done) | cases hx)) (fun x hx => hsp x (by first | (simp [hx]; done) | cases hx))) (trodAll_mk0))) (fun _ _ => rfl) (by simp) hb (ok_one (by kernel_rfl) rfl (okWide_bool_mk Tryz.underlying4 _))⟩

theorem laid_met (os : Os) : laidMet Tryz.prog Rows.modelChecksRow.laid ((laidWorld os).forCall (fun _ _ => 0) ⟨#[], #[.agg #[.slice none 0 0, .slice none 0 0], .string ByteArray.empty], []⟩).memory :=
  laidMet_of_run' 8 (by kernel_rfl) (by kernel_rfl)
theorem reads (os : Os) {H : Type} (enc : TypeId × Value → H) : ∃ places, DataW.whole enc Tryz.prog ((laidWorld os).forCall (fun _ _ => 0) ⟨#[], #[.agg #[.slice none 0 0, .slice none 0 0], .string ByteArray.empty], []⟩).memory Tryz.f5.params.toList Rows.modelChecksSpec.vars false (#[.agg #[.slice none 0 0, .slice none 0 0], .string ByteArray.empty] : Array Value).toList 8 = some ([.agg [.nil, .nil], .lit (.string [])], [], places) :=
  ⟨[], by kernel_rfl⟩
set_option maxRecDepth 100000 in
theorem lifted (os : Os) (started : os.Started) (H : Type) (enc : TypeId × Value → H) (F : Stop.Interp) :
    ReturnsInHanded {} Tryz.checked os 5 .any ((OpenSpec.ofChange Rows.modelChecksSpec).preRow enc Tryz.prog Tryz.f5 Rows.modelChecksRow.domain false Rows.modelChecksRow.laid) (((OpenSpec.ofChange Rows.modelChecksSpec).at F).post enc Tryz.prog Tryz.f5 false true false false) := by
  obtain ⟨places, hx⟩ := reads os enc
  refine returnsInHanded_of_row (C := Tryz.checked) (s := OpenSpec.ofChange Rows.modelChecksSpec) own started (by kernel_rfl) Tryz.func5
    (witness_row_at (enc := enc) (C := Tryz.checked) false (laidWorld os) #[.agg #[.slice none 0 0, .slice none 0 0], .string ByteArray.empty] rfl (by kernel_rfl) (by kernel_rfl) (by kernel_rfl)
      (OpenSpec.preRow_of_cond 8 hx (by kernel_rfl) (fun k hk => by cases hk) (by kernel_rfl) (laid_met os))) ?_
  intro W base args ds gs before hval hW _ _ _ hL hsh _
  exact contract H enc W base args ds gs before hval hW hsh hL
theorem said : Rows.ModelChecksSaid :=
  OpenClaim.holds_of_cond 5 Tryz.f5 rfl rfl rfl rfl rfl rfl rfl ⟨rfl, rfl, rfl, rfl, rfl⟩ rfl rfl rfl rfl rfl (by kernel_rfl) Tryz.func5 (by kernel_rfl)
    (of_decide_eq_true (by kernel_rfl)) (by unfold Func.isWrapper; first | (rw [if_pos (by decide +kernel)]; kernel_rfl) | (rw [if_neg (by decide +kernel)]; exact ⟨rfl, rfl⟩))
    (fun os started H enc _ F => by rw [OpenClaim.pre_eq_preRow]; exact lifted os started H enc F)
theorem plain (f : FuncId) (fn : Func) (hf : Tryz.pinned.checked.prog.funcNamed Rows.modelChecksRow.func = some f) (hfn : Tryz.pinned.checked.prog.funcs[f]? = some fn) :
    true = Tryz.pinned.checked.prog.looks [] ∧ ∀ (j : Nat) t, fn.params[j]? = some t → Tryz.pinned.checked.prog.wantsStandIn t = false := by
  obtain rfl : f = 5 := Option.some.inj ((show Tryz.prog.funcNamed Rows.modelChecksRow.func = some 5 by kernel_rfl).symm.trans hf) |>.symm
  obtain rfl : fn = Tryz.f5 := (Option.some.inj (Tryz.func5.symm.trans hfn)).symm
  refine ⟨by kernel_rfl, fun j t ht => ?_⟩
  rw [Tryz.params5] at ht
  have ht' : t ∈ [36, 9] := by simpa using Array.mem_of_getElem? ht
  have key : ∀ t ∈ [36, 9], Tryz.prog.wantsStandIn t = false := by
    intro t h
    simp only [List.mem_cons, List.not_mem_nil, or_false] at h
    rcases h with rfl | rfl
    all_goals kernel_rfl
  exact key t ht'
theorem card : Rows.ModelChecksCardSaid :=
  Claim7.holds_tied_plain_at .later [] _ _ _ _ said (fun _ h => by cases h) (by kernel_rfl) (fun _ h => by cases h) modelChecks_row_tie rfl ⟨rfl, rfl⟩ (by kernel_rfl) rfl plain (by kernel_rfl)
end Go.Proofs.YticfopjbaoigfaaGreatDoor.modelChecks
namespace Go.Proofs.YticfopjbaoigfaaGreatDoor
/-- ModelChecks holds: the card that is the aim. -/
theorem modelChecks_card : Rows.ModelChecksCardSaid := modelChecks.card
end Go.Proofs.YticfopjbaoigfaaGreatDoor

