/-
  ModelBalls: for every input the law returns true and its arguments read as they did: the row, and the card tied to the program's text. No further conditions.
-/
import Derived.Test.YticfopjbaoigfaaGreatDoorJ0
import Derived.Test.YticfopjbaoigfaaGreatDoorH2
import Derived.Test.YticfopjbaoigfaaGreatDoorF0
import Derived.Test.YticfopjbaoigfaaGreatDoorJ9
import Derived.Deep.RegionHeld3
import Derived.Test.YticfopjbaoigfaaGreatDoorW6
import Derived.Test.YticfopjbaoigfaaGreatDoorJ10
set_option linter.unusedSimpArgs false
set_option linter.unusedVariables false
namespace Go.Proofs.YticfopjbaoigfaaGreatDoor
open Go.RowKit

theorem S_beq (a b : List UInt8) : (a == b) = decide (a = b) := by by_cases h : a = b <;> simp [h]
theorem mdlB (m : Mdl) {w : World} {bv wv : Value} (h : MdlAt w (· < w.heap.size) bv wv m) (o : Obj) : MdlAt (w.alloc o) (· < (w.alloc o).heap.size) bv wv m := h.below (Below.alloc (Below.refl _ _) (Nat.le_refl _) o)
set_option maxRecDepth 100000 in
theorem bat_clo (x y : List UInt8) (v : Value) (g : Nat) (w : World) (h : w.cell? ⟨g, 0, none⟩ = some (.string (S x))) (hg : g < w.heap.size) :
    Calls Tryz.prog 44 #[.agg #[.string (S y), v], .pointer (some ⟨g, 0, none⟩)] w fun e w' => e = .returned (.bool (decide (y = x))) ∧ Below w.heap.size w w' := by
  have e1 := S_beq y x
  have hc : (w.alloc (.cells #[.string (S y), v] 43)).cell? ⟨g, 0, none⟩ = some (.string (S x)) := (World.cell?_alloc_lt w _ ⟨g, 0, none⟩ hg).trans h
  clear h
  go_enter Tryz.func44, Tryz.ntmps44
  go_wp2
  go_ret
  exact ⟨rfl, (Below.refl _ _).alloc (Nat.le_refl _) _⟩
theorem bat_drop {l : List Bat} {x : List UInt8} {z : Int} {k : Nat} (hk : k < l.length) (h : z = indexF x ((l.drop k).map (·.name)) k) : z = if l[k].name = x then (k : Int) else indexF x ((l.drop (k + 1)).map (·.name)) (k + 1) := by
  rw [drop_get hk, List.map_cons, indexF] at h; exact h
set_option maxRecDepth 100000 in
set_option maxHeartbeats 2000000 in
theorem bat_IndexFunc (l : List Bat) (lv : Value) (x : List UInt8) (g : Nat) (w : World) (hl : Sl 2 elBat w (· < w.heap.size) lv l) (h : w.cell? ⟨g, 0, none⟩ = some (.string (S x))) (hg : g < w.heap.size) :
    Calls Tryz.prog 43 #[lv, .func (.func 44) #[] #[.pointer (some ⟨g, 0, none⟩)]] w fun e w' => e = .returned (.int .i64 (batI l x)) ∧ Below w.heap.size w w' := by
  obtain ⟨z, hz⟩ : ∃ z, z = batI l x := ⟨_, rfl⟩
  rw [← hz]
  obtain ⟨A, c, rfl, hc, hc2⟩ := hl.shape
  have HZ : Hid (z = indexF x ((l.drop 0).map (·.name)) 0) := hz
  have HL := Lib.hid hl
  have HH := Lib.hid h
  have HG := Lib.hid hg
  have HB := Lib.hid (Below.refl w.heap.size w)
  clear hz hl h hg
  go_enter Tryz.func43, Tryz.ntmps43
  go_wp2
  go_loopw [8] (fun i wr => ∃ k : Nat, k ≤ l.length ∧ i = .int .i64 k ∧ Below w.heap.size w wr ∧ Hid (z = indexF x ((l.drop k).map (·.name)) k)) (fun i _ => l.length - (intOf i).toNat)
  case atStart => exact ⟨0, Nat.zero_le _, rfl, HB.out, HZ⟩
  case round =>
    obtain ⟨k, hk, rfl, hb, hzz⟩ := hrel
    have HBB := Lib.hid hb
    have KC := Lib.hid (fun (y : List UInt8) (v : Value) => bat_clo x y v g wr ((hb.cell (p := ⟨g, 0, none⟩) HG.out).trans HH.out) (Nat.lt_of_lt_of_le HG.out hb.size))
    by_cases hlt : k < l.length
    · obtain ⟨b0, o, v, rfl, hbl, yy0, yy1, _, _⟩ := bat_at HL.out hlt
      have y0 := (hb.cell (p := ⟨b0, o + k * 2, none⟩) hbl).trans yy0
      have y1 := (hb.cell (p := ⟨b0, o + k * 2 + 1, none⟩) hbl).trans yy1
      obtain ⟨p, hp⟩ : ∃ p, p = l[k].name := ⟨_, rfl⟩
      have hz2 := bat_drop hlt hzz.out
      rw [← hp] at hz2 y0
      clear hb hzz hp yy0 yy1
      by_cases hin : p = x
      · rw [if_pos hin] at hz2
        have e1 : decide (p = x) = true := decide_eq_true hin
        have HZZ := Lib.hid hz2
        clear hz2 hin
        go_wp2_with (go_at_call 44; refine (KC.out _ _).mono ?_; rintro e w2 ⟨rfl, hb2⟩; rw [e1]; have HB2 := Lib.hid (HBB.out.trans (hb2.mono HBB.out.size)); clear hb2)
        go_ret
        exact ⟨ret_i HZZ.out.symm, HB2.out⟩
      · rw [if_neg hin] at hz2
        have e1 : decide (p = x) = false := decide_eq_false hin
        have HZZ := Lib.hid hz2
        clear hz2 hin
        go_wp2_with (go_at_call 44; refine (KC.out _ _).mono ?_; rintro e w2 ⟨rfl, hb2⟩; rw [e1]; have HB2 := Lib.hid (HBB.out.trans (hb2.mono HBB.out.size)); clear hb2)
        go_roundw
        case rel => exact ⟨k + 1, by omega, by go_num, HB2.out, HZZ⟩
        case measure => simp [intOf]; omega
    · obtain rfl : k = l.length := by omega
      have hz2 := hzz.out
      rw [List.drop_of_length_le (Nat.le_refl _), List.map_nil, indexF] at hz2
      have HZZ := Lib.hid hz2
      clear hb hzz hz2
      go_wp2
      go_ret
      exact ⟨ret_i HZZ.out.symm, HBB.out⟩
set_option maxRecDepth 100000 in
set_option maxHeartbeats 2000000 in
theorem m_Batter (m : Mdl) (bv wv : Value) (x : List UInt8) (w : World) (h : MdlAt w (· < w.heap.size) bv wv m) :
    Calls Tryz.prog 19 #[.agg #[bv, wv], .string (S x)] w fun e w' => e = .returned (.int .i64 (batI m.bats x)) ∧ Below w.heap.size w w' := by
  obtain ⟨z, hz⟩ : ∃ z, z = batI m.bats x := ⟨_, rfl⟩
  have hb1 : Below w.heap.size w (w.alloc (.cells #[bv, wv] 36)) := Below.alloc (Below.refl _ _) (Nat.le_refl _) _
  have hb2 : Below w.heap.size w ((w.alloc (.cells #[bv, wv] 36)).alloc (.cells #[.string (S x)] 9)) := hb1.alloc hb1.size _
  have hm := h.below hb2
  have hk := bat_IndexFunc m.bats _ x (w.heap.size + 1) _ hm.bat (by have := (Blk.new (w.alloc (.cells #[bv, wv] 36)) 9 #[.string (S x)]).cell 0; rw [World.size_alloc] at this; exact this) (by simp)
  rw [← hz] at hk ⊢
  have HK := Lib.hid hk
  have HB := Lib.hid hb2
  clear hz hb1 hb2 hm hk h
  go_enter Tryz.func19, Tryz.ntmps19
  go_wp2_with (go_at_call 43; refine HK.out.mono ?_; rintro e w2 ⟨rfl, hb⟩; have HB2 := Lib.hid (HB.out.trans (hb.mono HB.out.size)); clear hb)
  go_ret
  exact ⟨rfl, HB2.out⟩
set_option maxRecDepth 100000 in
set_option maxHeartbeats 2000000 in
theorem r_Batter (m : Mdl) (bv wv : Value) (x : List UInt8) (w : World) (h : MdlAt w (· < w.heap.size) bv wv m) :
    Calls Tryz.prog 20 #[.agg #[bv, wv], .string (S x)] w fun e w' => e = .returned (.int .i64 (batI m.bats x)) ∧ Below w.heap.size w w' := by
  obtain ⟨z, hz⟩ : ∃ z, z = batI m.bats x := ⟨_, rfl⟩
  rw [← hz]
  have hl := h.bat
  obtain ⟨l, hle⟩ : ∃ l, l = m.bats := ⟨_, rfl⟩
  rw [← hle] at hz hl
  clear h hle
  obtain ⟨vv, hvv⟩ : ∃ vv, vv = bv := ⟨_, rfl⟩
  rw [← hvv] at hl
  obtain ⟨A, c, hA, hc, hc2⟩ := hl.shape
  rw [hA] at hvv hl
  subst hvv
  clear hA
  have HZ : Hid (z = indexF x ((l.drop 0).map (·.name)) 0) := hz
  have HL := Lib.hid hl
  have HB := Lib.hid ((Below.refl w.heap.size w).alloc (Nat.le_refl _) (.cells #[.slice A l.length c, wv] 36))
  clear hz hl
  go_enter Tryz.func20, Tryz.ntmps20
  go_wp2
  go_loopw [10] (fun i wr => ∃ k : Nat, k ≤ l.length ∧ i = .int .i64 k ∧ Below w.heap.size w wr ∧ Hid (z = indexF x ((l.drop k).map (·.name)) k)) (fun i _ => l.length - (intOf i).toNat)
  case atStart => exact ⟨0, Nat.zero_le _, rfl, HB.out, HZ⟩
  case round =>
    obtain ⟨k, hk, rfl, hb, hzz⟩ := hrel
    have HBB := Lib.hid hb
    by_cases hlt : k < l.length
    · obtain ⟨b0, o, v, rfl, hbl, yy0, yy1, hv, _⟩ := bat_at HL.out hlt
      obtain ⟨A2, c2, hve, _, _⟩ := hv.shape
      obtain ⟨n2, hn2⟩ : ∃ n, n = l[k].dist.length := ⟨_, rfl⟩
      rw [← hn2] at hve
      subst hve
      have y0 := (hb.cell (p := ⟨b0, o + k * 2, none⟩) hbl).trans yy0
      have y1 := (hb.cell (p := ⟨b0, o + k * 2 + 1, none⟩) hbl).trans yy1
      obtain ⟨p, hp⟩ : ∃ p, p = l[k].name := ⟨_, rfl⟩
      have hz2 := bat_drop hlt hzz.out
      rw [← hp] at hz2 y0
      have e0 := S_beq p x
      clear hb hzz hp yy0 yy1 hv hn2
      by_cases hin : p = x
      · rw [if_pos hin] at hz2
        rw [decide_eq_true hin] at e0
        have HZZ := Lib.hid hz2
        clear hz2 hin
        go_wp2
        go_ret
        exact ⟨ret_i HZZ.out.symm, HBB.out.alloc HBB.out.size _⟩
      · rw [if_neg hin] at hz2
        rw [decide_eq_false hin] at e0
        have HZZ := Lib.hid hz2
        clear hz2 hin
        go_wp2
        go_roundw
        case rel => exact ⟨k + 1, by omega, by go_num, HBB.out.alloc HBB.out.size _, HZZ⟩
        case measure => simp [intOf]; omega
    · obtain rfl : k = l.length := by omega
      have hz2 := hzz.out
      rw [List.drop_of_length_le (Nat.le_refl _), List.map_nil, indexF] at hz2
      have HZZ := Lib.hid hz2
      clear hb hzz hz2
      go_wp2
      go_ret
      exact ⟨ret_i HZZ.out.symm, HBB.out⟩
set_option maxRecDepth 100000 in
theorem bow_clo (x y : List UInt8) (v : Value) (g : Nat) (w : World) (h : w.cell? ⟨g, 0, none⟩ = some (.string (S x))) (hg : g < w.heap.size) :
    Calls Tryz.prog 46 #[.agg #[.string (S y), v], .pointer (some ⟨g, 0, none⟩)] w fun e w' => e = .returned (.bool (decide (y = x))) ∧ Below w.heap.size w w' := by
  have e1 := S_beq y x
  have hc : (w.alloc (.cells #[.string (S y), v] 45)).cell? ⟨g, 0, none⟩ = some (.string (S x)) := (World.cell?_alloc_lt w _ ⟨g, 0, none⟩ hg).trans h
  clear h
  go_enter Tryz.func46, Tryz.ntmps46
  go_wp2
  go_ret
  exact ⟨rfl, (Below.refl _ _).alloc (Nat.le_refl _) _⟩
theorem bow_drop {l : List Bow} {x : List UInt8} {z : Int} {k : Nat} (hk : k < l.length) (h : z = indexF x ((l.drop k).map (·.name)) k) : z = if l[k].name = x then (k : Int) else indexF x ((l.drop (k + 1)).map (·.name)) (k + 1) := by
  rw [drop_get hk, List.map_cons, indexF] at h; exact h
set_option maxRecDepth 100000 in
set_option maxHeartbeats 2000000 in
theorem bow_IndexFunc (l : List Bow) (lv : Value) (x : List UInt8) (g : Nat) (w : World) (hl : Sl 2 elBow w (· < w.heap.size) lv l) (h : w.cell? ⟨g, 0, none⟩ = some (.string (S x))) (hg : g < w.heap.size) :
    Calls Tryz.prog 45 #[lv, .func (.func 46) #[] #[.pointer (some ⟨g, 0, none⟩)]] w fun e w' => e = .returned (.int .i64 (bowI l x)) ∧ Below w.heap.size w w' := by
  obtain ⟨z, hz⟩ : ∃ z, z = bowI l x := ⟨_, rfl⟩
  rw [← hz]
  obtain ⟨A, c, rfl, hc, hc2⟩ := hl.shape
  have HZ : Hid (z = indexF x ((l.drop 0).map (·.name)) 0) := hz
  have HL := Lib.hid hl
  have HH := Lib.hid h
  have HG := Lib.hid hg
  have HB := Lib.hid (Below.refl w.heap.size w)
  clear hz hl h hg
  go_enter Tryz.func45, Tryz.ntmps45
  go_wp2
  go_loopw [8] (fun i wr => ∃ k : Nat, k ≤ l.length ∧ i = .int .i64 k ∧ Below w.heap.size w wr ∧ Hid (z = indexF x ((l.drop k).map (·.name)) k)) (fun i _ => l.length - (intOf i).toNat)
  case atStart => exact ⟨0, Nat.zero_le _, rfl, HB.out, HZ⟩
  case round =>
    obtain ⟨k, hk, rfl, hb, hzz⟩ := hrel
    have HBB := Lib.hid hb
    have KC := Lib.hid (fun (y : List UInt8) (v : Value) => bow_clo x y v g wr ((hb.cell (p := ⟨g, 0, none⟩) HG.out).trans HH.out) (Nat.lt_of_lt_of_le HG.out hb.size))
    by_cases hlt : k < l.length
    · obtain ⟨b0, o, rfl, hbl, yy0, yy1, _⟩ := bow_at HL.out hlt
      have y0 := (hb.cell (p := ⟨b0, o + k * 2, none⟩) hbl).trans yy0
      have y1 := (hb.cell (p := ⟨b0, o + k * 2 + 1, none⟩) hbl).trans yy1
      obtain ⟨sh, hsh⟩ : ∃ s, s = l[k].shift := ⟨_, rfl⟩
      rw [← hsh] at y1
      obtain ⟨p, hp⟩ : ∃ p, p = l[k].name := ⟨_, rfl⟩
      have hz2 := bow_drop hlt hzz.out
      rw [← hp] at hz2 y0
      clear hb hzz hp yy0 yy1 hsh
      by_cases hin : p = x
      · rw [if_pos hin] at hz2
        have e1 : decide (p = x) = true := decide_eq_true hin
        have HZZ := Lib.hid hz2
        clear hz2 hin
        go_wp2_with (go_at_call 46; refine (KC.out _ _).mono ?_; rintro e w2 ⟨rfl, hb2⟩; rw [e1]; have HB2 := Lib.hid (HBB.out.trans (hb2.mono HBB.out.size)); clear hb2)
        go_ret
        exact ⟨ret_i HZZ.out.symm, HB2.out⟩
      · rw [if_neg hin] at hz2
        have e1 : decide (p = x) = false := decide_eq_false hin
        have HZZ := Lib.hid hz2
        clear hz2 hin
        go_wp2_with (go_at_call 46; refine (KC.out _ _).mono ?_; rintro e w2 ⟨rfl, hb2⟩; rw [e1]; have HB2 := Lib.hid (HBB.out.trans (hb2.mono HBB.out.size)); clear hb2)
        go_roundw
        case rel => exact ⟨k + 1, by omega, by go_num, HB2.out, HZZ⟩
        case measure => simp [intOf]; omega
    · obtain rfl : k = l.length := by omega
      have hz2 := hzz.out
      rw [List.drop_of_length_le (Nat.le_refl _), List.map_nil, indexF] at hz2
      have HZZ := Lib.hid hz2
      clear hb hzz hz2
      go_wp2
      go_ret
      exact ⟨ret_i HZZ.out.symm, HBB.out⟩
set_option maxRecDepth 100000 in
set_option maxHeartbeats 2000000 in
theorem m_Bowler (m : Mdl) (bv wv : Value) (x : List UInt8) (w : World) (h : MdlAt w (· < w.heap.size) bv wv m) :
    Calls Tryz.prog 21 #[.agg #[bv, wv], .string (S x)] w fun e w' => e = .returned (.int .i64 (bowI m.bows x)) ∧ Below w.heap.size w w' := by
  obtain ⟨z, hz⟩ : ∃ z, z = bowI m.bows x := ⟨_, rfl⟩
  have hb1 : Below w.heap.size w (w.alloc (.cells #[bv, wv] 36)) := Below.alloc (Below.refl _ _) (Nat.le_refl _) _
  have hb2 : Below w.heap.size w ((w.alloc (.cells #[bv, wv] 36)).alloc (.cells #[.string (S x)] 9)) := hb1.alloc hb1.size _
  have hm := h.below hb2
  have hk := bow_IndexFunc m.bows _ x (w.heap.size + 1) _ hm.bow (by have := (Blk.new (w.alloc (.cells #[bv, wv] 36)) 9 #[.string (S x)]).cell 0; rw [World.size_alloc] at this; exact this) (by simp)
  rw [← hz] at hk ⊢
  have HK := Lib.hid hk
  have HB := Lib.hid hb2
  clear hz hb1 hb2 hm hk h
  go_enter Tryz.func21, Tryz.ntmps21
  go_wp2_with (go_at_call 45; refine HK.out.mono ?_; rintro e w2 ⟨rfl, hb⟩; have HB2 := Lib.hid (HB.out.trans (hb.mono HB.out.size)); clear hb)
  go_ret
  exact ⟨rfl, HB2.out⟩
set_option maxRecDepth 100000 in
set_option maxHeartbeats 2000000 in
theorem r_Bowler (m : Mdl) (bv wv : Value) (x : List UInt8) (w : World) (h : MdlAt w (· < w.heap.size) bv wv m) :
    Calls Tryz.prog 22 #[.agg #[bv, wv], .string (S x)] w fun e w' => e = .returned (.int .i64 (bowI m.bows x)) ∧ Below w.heap.size w w' := by
  obtain ⟨z, hz⟩ : ∃ z, z = bowI m.bows x := ⟨_, rfl⟩
  rw [← hz]
  have hl := h.bow
  obtain ⟨l, hle⟩ : ∃ l, l = m.bows := ⟨_, rfl⟩
  rw [← hle] at hz hl
  clear h hle
  obtain ⟨vv, hvv⟩ : ∃ vv, vv = wv := ⟨_, rfl⟩
  rw [← hvv] at hl
  obtain ⟨A, c, hA, hc, hc2⟩ := hl.shape
  rw [hA] at hvv hl
  subst hvv
  clear hA
  have HZ : Hid (z = indexF x ((l.drop 0).map (·.name)) 0) := hz
  have HL := Lib.hid hl
  have HB := Lib.hid ((Below.refl w.heap.size w).alloc (Nat.le_refl _) (.cells #[bv, .slice A l.length c] 36))
  clear hz hl
  go_enter Tryz.func22, Tryz.ntmps22
  go_wp2
  go_loopw [10] (fun i wr => ∃ k : Nat, k ≤ l.length ∧ i = .int .i64 k ∧ Below w.heap.size w wr ∧ Hid (z = indexF x ((l.drop k).map (·.name)) k)) (fun i _ => l.length - (intOf i).toNat)
  case atStart => exact ⟨0, Nat.zero_le _, rfl, HB.out, HZ⟩
  case round =>
    obtain ⟨k, hk, rfl, hb, hzz⟩ := hrel
    have HBB := Lib.hid hb
    by_cases hlt : k < l.length
    · obtain ⟨b0, o, rfl, hbl, yy0, yy1, _⟩ := bow_at HL.out hlt
      have y0 := (hb.cell (p := ⟨b0, o + k * 2, none⟩) hbl).trans yy0
      have y1 := (hb.cell (p := ⟨b0, o + k * 2 + 1, none⟩) hbl).trans yy1
      obtain ⟨sh, hsh⟩ : ∃ s, s = l[k].shift := ⟨_, rfl⟩
      rw [← hsh] at y1
      obtain ⟨p, hp⟩ : ∃ p, p = l[k].name := ⟨_, rfl⟩
      have hz2 := bow_drop hlt hzz.out
      rw [← hp] at hz2 y0
      have e0 := S_beq p x
      clear hb hzz hp yy0 yy1 hsh
      by_cases hin : p = x
      · rw [if_pos hin] at hz2
        rw [decide_eq_true hin] at e0
        have HZZ := Lib.hid hz2
        clear hz2 hin
        go_wp2
        go_ret
        exact ⟨ret_i HZZ.out.symm, HBB.out.alloc HBB.out.size _⟩
      · rw [if_neg hin] at hz2
        rw [decide_eq_false hin] at e0
        have HZZ := Lib.hid hz2
        clear hz2 hin
        go_wp2
        go_roundw
        case rel => exact ⟨k + 1, by omega, by go_num, HBB.out.alloc HBB.out.size _, HZZ⟩
        case measure => simp [intOf]; omega
    · obtain rfl : k = l.length := by omega
      have hz2 := hzz.out
      rw [List.drop_of_length_le (Nat.le_refl _), List.map_nil, indexF] at hz2
      have HZZ := Lib.hid hz2
      clear hb hzz hz2
      go_wp2
      go_ret
      exact ⟨ret_i HZZ.out.symm, HBB.out⟩
end Go.Proofs.YticfopjbaoigfaaGreatDoor

namespace Go.Proofs.YticfopjbaoigfaaGreatDoor
open Go.RowKit

/-- A model boxed in block g, a copy of an element in block B. -/
structure TwoM (w W : World) (g B : Nat) (t : TypeId) (bv wv x v : Value) : Prop where
  bel : Below w.heap.size w W
  box : Blk W g 36 #[bv, wv]
  el : Blk W B t #[x, v]
theorem Blk.duo {w : World} {g : Nat} {t : TypeId} {a b : Value} (h : Blk w g t #[a, b]) : w.cell? ⟨g, 0, none⟩ = some a ∧ w.cell? ⟨g, 1, none⟩ = some b ∧ w.frozen? ⟨g, 0, none⟩ = false ∧ w.frozen? ⟨g, 1, none⟩ = false := ⟨h.cell 0, h.cell 1, h.frozen 0, h.frozen 1⟩
theorem TwoM.below {w W W' : World} {g B : Nat} {t : TypeId} {bv wv x v : Value} (h : TwoM w W g B t bv wv x v) (hb : Below W.heap.size W W') : TwoM w W' g B t bv wv x v := ⟨h.bel.trans (hb.mono h.bel.size), h.box.below hb h.box.lt, h.el.below hb h.el.lt⟩
theorem TwoM.cells {w W : World} {g B : Nat} {t : TypeId} {bv wv x v : Value} (h : TwoM w W g B t bv wv x v) : W.cell? ⟨g, 0, none⟩ = some bv ∧ W.cell? ⟨g, 1, none⟩ = some wv ∧ W.cell? ⟨B, 0, none⟩ = some x ∧ W.cell? ⟨B, 1, none⟩ = some v := ⟨h.box.duo.1, h.box.duo.2.1, h.el.duo.1, h.el.duo.2.1⟩
theorem TwoM.new {w W : World} {g : Nat} {bv wv : Value} (hb : Below w.heap.size w W) (hx : Blk W g 36 #[bv, wv]) (t : TypeId) (x v : Value) : TwoM w (W.alloc (.cells #[x, v] t)) g W.heap.size t bv wv x v := ⟨hb.alloc hb.size _, hx.alloc _, Blk.new _ _ _⟩
theorem bat_ways (pre : List (List UInt8)) (b : Bat) : (nameS b.name = false ∧ batErr pre b = 5) ∨ (nameS b.name = true ∧ decide (b.name ∈ pre) = true ∧ batErr pre b = 7) ∨ (nameS b.name = true ∧ decide (b.name ∈ pre) = false ∧ batErr pre b = checkD b.dist) := by
  unfold batErr
  cases h1 : nameS b.name
  · exact .inl ⟨rfl, by simp⟩
  · by_cases h2 : b.name ∈ pre
    · exact .inr (.inl ⟨rfl, by simp [h2], by rw [if_neg (by simp), if_pos h2]⟩)
    · exact .inr (.inr ⟨rfl, by simp [h2], by rw [if_neg (by simp), if_neg h2]⟩)
theorem bow_ways (pre : List (List UInt8)) (b : Bow) : (nameS b.name = false ∧ bowErr pre b = 5) ∨ (nameS b.name = true ∧ decide (b.name ∈ pre) = true ∧ bowErr pre b = 7) ∨ (nameS b.name = true ∧ decide (b.name ∈ pre) = false ∧ b.shift < -12 ∧ bowErr pre b = 2) ∨ (nameS b.name = true ∧ decide (b.name ∈ pre) = false ∧ ¬ b.shift < -12 ∧ 12 < b.shift ∧ bowErr pre b = 2) ∨ (nameS b.name = true ∧ decide (b.name ∈ pre) = false ∧ ¬ b.shift < -12 ∧ ¬ 12 < b.shift ∧ bowErr pre b = 0) := by
  unfold bowErr
  cases h1 : nameS b.name
  · exact .inl ⟨rfl, by simp⟩
  · by_cases h2 : b.name ∈ pre
    · exact .inr (.inl ⟨rfl, by simp [h2], by rw [if_neg (by simp), if_pos h2]⟩)
    · by_cases h3 : b.shift < -12
      · exact .inr (.inr (.inl ⟨rfl, by simp [h2], h3, by rw [if_neg (by simp), if_neg h2, if_pos (.inl h3)]⟩))
      · by_cases h4 : 12 < b.shift
        · exact .inr (.inr (.inr (.inl ⟨rfl, by simp [h2], h3, h4, by rw [if_neg (by simp), if_neg h2, if_pos (.inr h4)]⟩)))
        · exact .inr (.inr (.inr (.inr ⟨rfl, by simp [h2], h3, h4, by rw [if_neg (by simp), if_neg h2, if_neg (by omega)]⟩)))
/-- What is left of a check: the batters from k on, then the bowlers. -/
def restM (m : Mdl) (k : Nat) : Int := if batsF ((m.bats.take k).map (·.name)) (m.bats.drop k) ≠ 0 then batsF ((m.bats.take k).map (·.name)) (m.bats.drop k) else bowsF [] m.bows
def restW (m : Mdl) (k : Nat) : Int := bowsF ((m.bows.take k).map (·.name)) (m.bows.drop k)
theorem restM_at {m : Mdl} {k : Nat} (hk : k < m.bats.length) : restM m k = if batErr ((m.bats.take k).map (·.name)) m.bats[k] ≠ 0 then batErr ((m.bats.take k).map (·.name)) m.bats[k] else restM m (k + 1) := by
  unfold restM
  rw [batsF_at hk]
  by_cases h : batErr ((m.bats.take k).map (·.name)) m.bats[k] ≠ 0
  · simp only [if_pos h]
  · rw [if_neg h, if_neg h]
theorem restM_end {m : Mdl} : restM m m.bats.length = restW m 0 := by
  unfold restM restW
  rw [List.drop_of_length_le (Nat.le_refl _), batsF, if_neg (by simp)]
  simp
theorem restW_at {m : Mdl} {k : Nat} (hk : k < m.bows.length) : restW m k = if bowErr ((m.bows.take k).map (·.name)) m.bows[k] ≠ 0 then bowErr ((m.bows.take k).map (·.name)) m.bows[k] else restW m (k + 1) := bowsF_at hk
theorem restW_end {m : Mdl} : restW m m.bows.length = 0 := by
  unfold restW
  rw [List.drop_of_length_le (Nat.le_refl _), bowsF]
theorem checkM_rest {m : Mdl} (h1 : ¬ (m.bats.length = 0 ∨ m.bows.length = 0)) (h2 : ¬ (11 < m.bats.length ∨ 11 < m.bows.length)) : checkM m = restM m 0 := by
  unfold checkM restM
  rw [if_neg h1, if_neg h2]; simp
set_option maxRecDepth 100000 in
set_option maxHeartbeats 4000000 in
theorem m_Check (m : Mdl) (bv wv : Value) (w : World) (h : MdlAt w (· < w.heap.size) bv wv m) :
    Calls Tryz.prog 17 #[.agg #[bv, wv]] w fun e w' => e = .returned (.int .i64 (checkM m)) ∧ Below w.heap.size w w' := by
  obtain ⟨z, hz⟩ : ∃ z, z = checkM m := ⟨_, rfl⟩
  rw [← hz]
  obtain ⟨A, c, rfl, hc, hc2⟩ := h.bat.shape
  obtain ⟨A', c', rfl, hc', hc2'⟩ := h.bow.shape
  have HM := Lib.hid h
  have hb1 : Below w.heap.size w (w.alloc (.cells #[.slice A m.bats.length c, .slice A' m.bows.length c'] 36)) := Below.alloc (Below.refl _ _) (Nat.le_refl _) _
  have hx1 := Blk.new w 36 #[.slice A m.bats.length c, .slice A' m.bows.length c']
  by_cases h1 : m.bats.length = 0 ∨ m.bows.length = 0
  · have HZ := Lib.hid (show z = 6 by rw [hz]; unfold checkM; rw [if_pos h1])
    have HB1 := Lib.hid hb1
    clear hz h hb1 hx1
    by_cases h2 : m.bats.length = 0
    · have e1 : ((m.bats.length : Int) == 0) = true := beq_iff_eq.2 (by omega)
      have h3 := Lib.hid h2
      clear h1 h2
      go_enter Tryz.func17, Tryz.ntmps17
      go_wp2
      go_ret
      exact ⟨ret_i HZ.out.symm, HB1.out⟩
    · have e1 : ((m.bats.length : Int) == 0) = false := beq_eq_false_iff_ne.2 (by omega)
      have e2 : ((m.bows.length : Int) == 0) = true := beq_iff_eq.2 (by omega)
      have h3 := Lib.hid h2
      clear h1 h2
      go_enter Tryz.func17, Tryz.ntmps17
      go_wp2
      go_ret
      exact ⟨ret_i HZ.out.symm, HB1.out⟩
  have e1 : ((m.bats.length : Int) == 0) = false := beq_eq_false_iff_ne.2 (by omega)
  have e2 : ((m.bows.length : Int) == 0) = false := beq_eq_false_iff_ne.2 (by omega)
  by_cases h2 : 11 < m.bats.length ∨ 11 < m.bows.length
  · have HZ := Lib.hid (show z = 9 by rw [hz]; unfold checkM; rw [if_neg h1, if_pos h2])
    have HB1 := Lib.hid hb1
    clear hz h hb1 hx1 h1
    by_cases h3 : 11 < m.bats.length
    · have e3 : (11 : Int) < (m.bats.length : Int) := by omega
      clear h2 h3
      go_enter Tryz.func17, Tryz.ntmps17
      go_wp2
      go_ret
      exact ⟨ret_i HZ.out.symm, HB1.out⟩
    · have e3 : ¬ (11 : Int) < (m.bats.length : Int) := by omega
      have e4 : (11 : Int) < (m.bows.length : Int) := by omega
      clear h2 h3
      go_enter Tryz.func17, Tryz.ntmps17
      go_wp2
      go_ret
      exact ⟨ret_i HZ.out.symm, HB1.out⟩
  have HZ0 := Lib.hid (show z = restM m 0 by rw [hz, checkM_rest h1 h2])
  have e3 : ¬ (11 : Int) < (m.bats.length : Int) := by omega
  have e4 : ¬ (11 : Int) < (m.bows.length : Int) := by omega
  have HB1 := Lib.hid hb1
  have HX1 := Lib.hid hx1
  clear hz h hb1 hx1 h1 h2
  go_enter Tryz.func17, Tryz.ntmps17
  go_wp2
  go_loopw [33] (fun i wr => ∃ k : Nat, k ≤ m.bats.length ∧ i = .int .i64 k ∧ Hid (Below w.heap.size w wr ∧ Blk wr w.heap.size 36 #[.slice A m.bats.length c, .slice A' m.bows.length c']) ∧ Hid (z = restM m k)) (fun i _ => m.bats.length - (intOf i).toNat)
  case atStart => exact ⟨0, Nat.zero_le _, rfl, Lib.hid ⟨HB1.out, HX1.out⟩, HZ0⟩
  case round =>
    clear HB1 HX1
    obtain ⟨k, hk, rfl, HW, hzz⟩ := hrel
    obtain ⟨r0, r1, _, _⟩ := HW.out.2.duo
    by_cases hlt : k < m.bats.length
    · obtain ⟨b0, o, v, rfl, hbl, yy0, yy1, hv, hpl⟩ := bat_at HM.out.bat hlt
      have y0 := (HW.out.1.cell (p := ⟨b0, o + k * 2, none⟩) hbl).trans yy0
      have y1 := (HW.out.1.cell (p := ⟨b0, o + k * 2 + 1, none⟩) hbl).trans yy1
      have hz2 := hzz.out
      rw [restM_at hlt] at hz2
      have hbf := batI_before hlt
      have hw := bat_ways ((m.bats.take k).map (·.name)) m.bats[k]
      obtain ⟨⟨p, d⟩, hp⟩ : ∃ b, b = m.bats[k] := ⟨_, rfl⟩
      rw [← hp] at y0 hv hpl hz2 hbf hw
      dsimp only at y0 hv hpl hbf hw
      obtain ⟨A2, c2, hve, _, _⟩ := hv.shape
      obtain ⟨n2, hn2⟩ : ∃ n, n = d.length := ⟨_, rfl⟩
      rw [← hn2] at hve
      subst hve
      generalize (m.bats.take k).map (·.name) = pre at hz2 hbf hw
      have hx := TwoM.new HW.out.1 HW.out.2 43 (.string (S p)) (.slice A2 n2 c2)
      obtain ⟨x0, x1, x2, x3⟩ := hx.cells
      have HX := Lib.hid hx
      clear hzz hp yy0 yy1 hx
      have tok0 : True := trivial
      have kb : ∀ W, Below w.heap.size w W → Calls Tryz.prog 19 #[.agg #[.slice (some ⟨b0, o, none⟩) m.bats.length c, .slice A' m.bows.length c'], .string (S p)] W fun e W' => e = .returned (.int .i64 (batI m.bats p)) ∧ Below W.heap.size W W' := fun W hW => m_Batter m _ _ p W (HM.out.below hW)
      have kd : ∀ W, Below w.heap.size w W → Calls Tryz.prog 13 #[.slice A2 n2 c2] W fun e W' => e = .returned (.int .i64 (checkD d)) ∧ Below W.heap.size W W' := fun W hW => ch_Check d _ W (hv.keep elOtc_good (Same.of_below hW) fun b h => Nat.lt_of_lt_of_le h hW.size)
      obtain ⟨i, hi⟩ : ∃ i, i = batI m.bats p := ⟨_, rfl⟩
      obtain ⟨u, hu⟩ : ∃ u, u = checkD d := ⟨_, rfl⟩
      rw [← hi] at kb hbf
      rw [← hu] at kd hw
      have KB := Lib.hid kb
      have KD := Lib.hid kd
      clear kb kd hi hu hn2
      rcases hw with ⟨hnm, he⟩ | ⟨hnm, hin, he⟩ | ⟨hnm, hin, he⟩
      · rw [he, if_pos (by decide)] at hz2
        have kn : ∀ W, Calls Tryz.prog 41 #[.string (S p)] W fun e W' => e = .returned (.bool false) ∧ Below W.heap.size W W' := fun W => (text_Name (S p) W (by rw [S_size]; exact hpl)).mono fun e W' h => by rw [S_data, hnm] at h; exact h
        have KN := Lib.hid kn
        have HZZ := Lib.hid hz2
        clear kn hz2 he hnm hbf hv hpl
        go_wp2_with (first
          | (clear tok0; go_at_call 41; refine (KN.out _).mono ?_; rintro e w2 ⟨rfl, hb2⟩; have HX2 := Lib.hid (HX.out.below hb2); obtain ⟨p0, p1, p2, p3⟩ := HX2.out.cells; clear hb2; have tok1 : True := trivial))
        go_ret
        exact ⟨ret_i HZZ.out.symm, HX2.out.bel⟩
      · rw [he, if_pos (by decide)] at hz2
        have kn : ∀ W, Calls Tryz.prog 41 #[.string (S p)] W fun e W' => e = .returned (.bool true) ∧ Below W.heap.size W W' := fun W => (text_Name (S p) W (by rw [S_size]; exact hpl)).mono fun e W' h => by rw [S_data, hnm] at h; exact h
        have KN := Lib.hid kn
        have HZZ := Lib.hid hz2
        rw [hin] at hbf
        clear kn hz2 he hnm hin hv hpl
        go_wp2_with (first
          | (clear tok0; go_at_call 41; refine (KN.out _).mono ?_; rintro e w2 ⟨rfl, hb2⟩; have HX2 := Lib.hid (HX.out.below hb2); obtain ⟨p0, p1, p2, p3⟩ := HX2.out.cells; clear hb2; have tok1 : True := trivial)
          | (clear tok1; go_at_call 19; refine (KB.out _ HX2.out.bel).mono ?_; rintro e w3 ⟨rfl, hb3⟩; have HX3 := Lib.hid (HX2.out.below hb3); obtain ⟨q0, q1, q2, q3⟩ := HX3.out.cells; clear hb3; have tok2 : True := trivial))
        go_ret
        exact ⟨ret_i HZZ.out.symm, HX3.out.bel⟩
      · rw [he] at hz2
        have kn : ∀ W, Calls Tryz.prog 41 #[.string (S p)] W fun e W' => e = .returned (.bool true) ∧ Below W.heap.size W W' := fun W => (text_Name (S p) W (by rw [S_size]; exact hpl)).mono fun e W' h => by rw [S_data, hnm] at h; exact h
        have KN := Lib.hid kn
        rw [hin] at hbf
        by_cases hu0 : u = 0
        · rw [if_neg (by simp [hu0])] at hz2
          have eu : (u != 0) = false := by simp [hu0]
          have HZZ := Lib.hid hz2
          clear kn hz2 he hnm hin hu0 hv hpl
          go_wp2_with (first
          | (clear tok0; go_at_call 41; refine (KN.out _).mono ?_; rintro e w2 ⟨rfl, hb2⟩; have HX2 := Lib.hid (HX.out.below hb2); obtain ⟨p0, p1, p2, p3⟩ := HX2.out.cells; clear hb2; have tok1 : True := trivial)
          | (clear tok1; go_at_call 19; refine (KB.out _ HX2.out.bel).mono ?_; rintro e w3 ⟨rfl, hb3⟩; have HX3 := Lib.hid (HX2.out.below hb3); obtain ⟨q0, q1, q2, q3⟩ := HX3.out.cells; clear hb3; have tok2 : True := trivial)
          | (clear tok2; go_at_call 13; refine (KD.out _ HX3.out.bel).mono ?_; rintro e w4 ⟨rfl, hb4⟩; have HX4 := Lib.hid (HX3.out.below hb4); clear hb4; have tok3 : True := trivial))
          go_roundw
          case rel => exact ⟨k + 1, by omega, by go_num, Lib.hid ⟨HX4.out.bel, HX4.out.box⟩, HZZ⟩
          case measure => simp [intOf]; omega
        · rw [if_pos hu0] at hz2
          have eu : (u != 0) = true := by simp [hu0]
          have HZZ := Lib.hid hz2
          clear kn hz2 he hnm hin hu0 hv hpl
          go_wp2_with (first
          | (clear tok0; go_at_call 41; refine (KN.out _).mono ?_; rintro e w2 ⟨rfl, hb2⟩; have HX2 := Lib.hid (HX.out.below hb2); obtain ⟨p0, p1, p2, p3⟩ := HX2.out.cells; clear hb2; have tok1 : True := trivial)
          | (clear tok1; go_at_call 19; refine (KB.out _ HX2.out.bel).mono ?_; rintro e w3 ⟨rfl, hb3⟩; have HX3 := Lib.hid (HX2.out.below hb3); obtain ⟨q0, q1, q2, q3⟩ := HX3.out.cells; clear hb3; have tok2 : True := trivial)
          | (clear tok2; go_at_call 13; refine (KD.out _ HX3.out.bel).mono ?_; rintro e w4 ⟨rfl, hb4⟩; have HX4 := Lib.hid (HX3.out.below hb4); clear hb4; have tok3 : True := trivial))
          go_ret
          exact ⟨ret_i HZZ.out.symm, HX4.out.bel⟩
    · obtain rfl : k = m.bats.length := by omega
      have hz2 := hzz.out
      rw [restM_end] at hz2
      have HZ1 := Lib.hid hz2
      have HW1 := HW
      clear hzz hz2 HW HZ0
      obtain ⟨wo, rfl⟩ : ∃ wo : World, wo = wr := ⟨_, rfl⟩
      go_wp2
      go_loopw [60] (fun i wr => ∃ k : Nat, k ≤ m.bows.length ∧ i = .int .i64 k ∧ Hid (Below w.heap.size w wr ∧ Blk wr w.heap.size 36 #[.slice A m.bats.length c, .slice A' m.bows.length c']) ∧ Hid (z = restW m k)) (fun i _ => m.bows.length - (intOf i).toNat)
      case atStart => exact ⟨0, Nat.zero_le _, rfl, HW1, HZ1⟩
      case round =>
        clear HW1 HZ1 r0 r1
        obtain ⟨k, hk, rfl, HW, hzz⟩ := hrel
        obtain ⟨r0, r1, _, _⟩ := HW.out.2.duo
        by_cases hlt : k < m.bows.length
        · obtain ⟨b0, o, rfl, hbl, yy0, yy1, hpl⟩ := bow_at HM.out.bow hlt
          have y0 := (HW.out.1.cell (p := ⟨b0, o + k * 2, none⟩) hbl).trans yy0
          have y1 := (HW.out.1.cell (p := ⟨b0, o + k * 2 + 1, none⟩) hbl).trans yy1
          have hz2 := hzz.out
          rw [restW_at hlt] at hz2
          have hbf := bowI_before hlt
          have hw := bow_ways ((m.bows.take k).map (·.name)) m.bows[k]
          obtain ⟨⟨p, d⟩, hp⟩ : ∃ b, b = m.bows[k] := ⟨_, rfl⟩
          rw [← hp] at y0 y1 hpl hz2 hbf hw
          dsimp only at y0 y1 hpl hbf hw
          generalize (m.bows.take k).map (·.name) = pre at hz2 hbf hw
          have hx := TwoM.new HW.out.1 HW.out.2 45 (.string (S p)) (.int .i64 d)
          obtain ⟨x0, x1, x2, x3⟩ := hx.cells
          have HX := Lib.hid hx
          clear hzz hp yy0 yy1 hx
          have tok0 : True := trivial
          have kb : ∀ W, Below w.heap.size w W → Calls Tryz.prog 21 #[.agg #[.slice A m.bats.length c, .slice (some ⟨b0, o, none⟩) m.bows.length c'], .string (S p)] W fun e W' => e = .returned (.int .i64 (bowI m.bows p)) ∧ Below W.heap.size W W' := fun W hW => m_Bowler m _ _ p W (HM.out.below hW)
          obtain ⟨i, hi⟩ : ∃ i, i = bowI m.bows p := ⟨_, rfl⟩
          rw [← hi] at kb hbf
          have KB := Lib.hid kb
          clear kb hi
          rcases hw with ⟨hnm, he⟩ | ⟨hnm, hin, he⟩ | ⟨hnm, hin, hs, he⟩ | ⟨hnm, hin, hs, hs2, he⟩ | ⟨hnm, hin, hs, hs2, he⟩
          · rw [he, if_pos (by decide)] at hz2
            have kn : ∀ W, Calls Tryz.prog 41 #[.string (S p)] W fun e W' => e = .returned (.bool false) ∧ Below W.heap.size W W' := fun W => (text_Name (S p) W (by rw [S_size]; exact hpl)).mono fun e W' h => by rw [S_data, hnm] at h; exact h
            have KN := Lib.hid kn
            have HZZ := Lib.hid hz2
            clear kn hz2 he hnm hbf hpl
            go_wp2_with (first
          | (clear tok0; go_at_call 41; refine (KN.out _).mono ?_; rintro e w2 ⟨rfl, hb2⟩; have HX2 := Lib.hid (HX.out.below hb2); obtain ⟨p0, p1, p2, p3⟩ := HX2.out.cells; clear hb2; have tok1 : True := trivial))
            go_ret
            exact ⟨ret_i HZZ.out.symm, HX2.out.bel⟩
          · rw [he, if_pos (by decide)] at hz2
            have kn : ∀ W, Calls Tryz.prog 41 #[.string (S p)] W fun e W' => e = .returned (.bool true) ∧ Below W.heap.size W W' := fun W => (text_Name (S p) W (by rw [S_size]; exact hpl)).mono fun e W' h => by rw [S_data, hnm] at h; exact h
            have KN := Lib.hid kn
            have HZZ := Lib.hid hz2
            rw [hin] at hbf
            clear kn hz2 he hnm hin hpl
            go_wp2_with (first
          | (clear tok0; go_at_call 41; refine (KN.out _).mono ?_; rintro e w2 ⟨rfl, hb2⟩; have HX2 := Lib.hid (HX.out.below hb2); obtain ⟨p0, p1, p2, p3⟩ := HX2.out.cells; clear hb2; have tok1 : True := trivial)
          | (clear tok1; go_at_call 21; refine (KB.out _ HX2.out.bel).mono ?_; rintro e w3 ⟨rfl, hb3⟩; have HX3 := Lib.hid (HX2.out.below hb3); obtain ⟨q0, q1, q2, q3⟩ := HX3.out.cells; clear hb3; have tok2 : True := trivial))
            go_ret
            exact ⟨ret_i HZZ.out.symm, HX3.out.bel⟩
          · rw [he, if_pos (by decide)] at hz2
            have kn : ∀ W, Calls Tryz.prog 41 #[.string (S p)] W fun e W' => e = .returned (.bool true) ∧ Below W.heap.size W W' := fun W => (text_Name (S p) W (by rw [S_size]; exact hpl)).mono fun e W' h => by rw [S_data, hnm] at h; exact h
            have KN := Lib.hid kn
            have HZZ := Lib.hid hz2
            rw [hin] at hbf
            clear kn hz2 he hnm hin hpl
            go_wp2_with (first
          | (clear tok0; go_at_call 41; refine (KN.out _).mono ?_; rintro e w2 ⟨rfl, hb2⟩; have HX2 := Lib.hid (HX.out.below hb2); obtain ⟨p0, p1, p2, p3⟩ := HX2.out.cells; clear hb2; have tok1 : True := trivial)
          | (clear tok1; go_at_call 21; refine (KB.out _ HX2.out.bel).mono ?_; rintro e w3 ⟨rfl, hb3⟩; have HX3 := Lib.hid (HX2.out.below hb3); obtain ⟨q0, q1, q2, q3⟩ := HX3.out.cells; clear hb3; have tok2 : True := trivial))
            go_ret
            exact ⟨ret_i HZZ.out.symm, HX3.out.bel⟩
          · rw [he, if_pos (by decide)] at hz2
            have kn : ∀ W, Calls Tryz.prog 41 #[.string (S p)] W fun e W' => e = .returned (.bool true) ∧ Below W.heap.size W W' := fun W => (text_Name (S p) W (by rw [S_size]; exact hpl)).mono fun e W' h => by rw [S_data, hnm] at h; exact h
            have KN := Lib.hid kn
            have HZZ := Lib.hid hz2
            rw [hin] at hbf
            clear kn hz2 he hnm hin hpl
            go_wp2_with (first
          | (clear tok0; go_at_call 41; refine (KN.out _).mono ?_; rintro e w2 ⟨rfl, hb2⟩; have HX2 := Lib.hid (HX.out.below hb2); obtain ⟨p0, p1, p2, p3⟩ := HX2.out.cells; clear hb2; have tok1 : True := trivial)
          | (clear tok1; go_at_call 21; refine (KB.out _ HX2.out.bel).mono ?_; rintro e w3 ⟨rfl, hb3⟩; have HX3 := Lib.hid (HX2.out.below hb3); obtain ⟨q0, q1, q2, q3⟩ := HX3.out.cells; clear hb3; have tok2 : True := trivial))
            go_ret
            exact ⟨ret_i HZZ.out.symm, HX3.out.bel⟩
          · rw [he, if_neg (by decide)] at hz2
            have kn : ∀ W, Calls Tryz.prog 41 #[.string (S p)] W fun e W' => e = .returned (.bool true) ∧ Below W.heap.size W W' := fun W => (text_Name (S p) W (by rw [S_size]; exact hpl)).mono fun e W' h => by rw [S_data, hnm] at h; exact h
            have KN := Lib.hid kn
            have HZZ := Lib.hid hz2
            rw [hin] at hbf
            clear kn hz2 he hnm hin hpl
            go_wp2_with (first
          | (clear tok0; go_at_call 41; refine (KN.out _).mono ?_; rintro e w2 ⟨rfl, hb2⟩; have HX2 := Lib.hid (HX.out.below hb2); obtain ⟨p0, p1, p2, p3⟩ := HX2.out.cells; clear hb2; have tok1 : True := trivial)
          | (clear tok1; go_at_call 21; refine (KB.out _ HX2.out.bel).mono ?_; rintro e w3 ⟨rfl, hb3⟩; have HX3 := Lib.hid (HX2.out.below hb3); obtain ⟨q0, q1, q2, q3⟩ := HX3.out.cells; clear hb3; have tok2 : True := trivial))
            go_roundw
            case rel => exact ⟨k + 1, by omega, by go_num, Lib.hid ⟨HX3.out.bel, HX3.out.box⟩, HZZ⟩
            case measure => simp [intOf]; omega
        · obtain rfl : k = m.bows.length := by omega
          have hz2 := hzz.out
          rw [restW_end] at hz2
          have HZ2 := Lib.hid hz2
          clear hzz hz2
          go_wp2
          go_ret
          exact ⟨ret_i HZ2.out.symm, HW.out.1⟩
set_option maxRecDepth 100000 in
set_option maxHeartbeats 4000000 in
theorem r_Check (m : Mdl) (bv wv : Value) (w : World) (h : MdlAt w (· < w.heap.size) bv wv m) :
    Calls Tryz.prog 18 #[.agg #[bv, wv]] w fun e w' => e = .returned (.int .i64 (checkM m)) ∧ Below w.heap.size w w' := by
  obtain ⟨z, hz⟩ : ∃ z, z = checkM m := ⟨_, rfl⟩
  rw [← hz]
  obtain ⟨A, c, rfl, hc, hc2⟩ := h.bat.shape
  obtain ⟨A', c', rfl, hc', hc2'⟩ := h.bow.shape
  have HM := Lib.hid h
  have hb1 : Below w.heap.size w (w.alloc (.cells #[.slice A m.bats.length c, .slice A' m.bows.length c'] 36)) := Below.alloc (Below.refl _ _) (Nat.le_refl _) _
  have hx1 := Blk.new w 36 #[.slice A m.bats.length c, .slice A' m.bows.length c']
  by_cases h1 : m.bats.length = 0 ∨ m.bows.length = 0
  · have HZ := Lib.hid (show z = 6 by rw [hz]; unfold checkM; rw [if_pos h1])
    have HB1 := Lib.hid hb1
    clear hz h hb1 hx1
    by_cases h2 : m.bats.length = 0
    · have e1 : ((m.bats.length : Int) == 0) = true := beq_iff_eq.2 (by omega)
      have h3 := Lib.hid h2
      clear h1 h2
      go_enter Tryz.func18, Tryz.ntmps18
      go_wp2
      go_ret
      exact ⟨ret_i HZ.out.symm, HB1.out⟩
    · have e1 : ((m.bats.length : Int) == 0) = false := beq_eq_false_iff_ne.2 (by omega)
      have e2 : ((m.bows.length : Int) == 0) = true := beq_iff_eq.2 (by omega)
      have h3 := Lib.hid h2
      clear h1 h2
      go_enter Tryz.func18, Tryz.ntmps18
      go_wp2
      go_ret
      exact ⟨ret_i HZ.out.symm, HB1.out⟩
  have e1 : ((m.bats.length : Int) == 0) = false := beq_eq_false_iff_ne.2 (by omega)
  have e2 : ((m.bows.length : Int) == 0) = false := beq_eq_false_iff_ne.2 (by omega)
  by_cases h2 : 11 < m.bats.length ∨ 11 < m.bows.length
  · have HZ := Lib.hid (show z = 9 by rw [hz]; unfold checkM; rw [if_neg h1, if_pos h2])
    have HB1 := Lib.hid hb1
    clear hz h hb1 hx1 h1
    by_cases h3 : 11 < m.bats.length
    · have e3 : (11 : Int) < (m.bats.length : Int) := by omega
      clear h2 h3
      go_enter Tryz.func18, Tryz.ntmps18
      go_wp2
      go_ret
      exact ⟨ret_i HZ.out.symm, HB1.out⟩
    · have e3 : ¬ (11 : Int) < (m.bats.length : Int) := by omega
      have e4 : (11 : Int) < (m.bows.length : Int) := by omega
      clear h2 h3
      go_enter Tryz.func18, Tryz.ntmps18
      go_wp2
      go_ret
      exact ⟨ret_i HZ.out.symm, HB1.out⟩
  have HZ0 := Lib.hid (show z = restM m 0 by rw [hz, checkM_rest h1 h2])
  have e3 : ¬ (11 : Int) < (m.bats.length : Int) := by omega
  have e4 : ¬ (11 : Int) < (m.bows.length : Int) := by omega
  have HB1 := Lib.hid hb1
  have HX1 := Lib.hid hx1
  clear hz h hb1 hx1 h1 h2
  go_enter Tryz.func18, Tryz.ntmps18
  go_wp2
  go_loopw [31] (fun i wr => ∃ k : Nat, k ≤ m.bats.length ∧ i = .int .i64 k ∧ Hid (Below w.heap.size w wr ∧ Blk wr w.heap.size 36 #[.slice A m.bats.length c, .slice A' m.bows.length c']) ∧ Hid (z = restM m k)) (fun i _ => m.bats.length - (intOf i).toNat)
  case atStart => exact ⟨0, Nat.zero_le _, rfl, Lib.hid ⟨HB1.out, HX1.out⟩, HZ0⟩
  case round =>
    clear HB1 HX1
    obtain ⟨k, hk, rfl, HW, hzz⟩ := hrel
    obtain ⟨r0, r1, _, _⟩ := HW.out.2.duo
    by_cases hlt : k < m.bats.length
    · obtain ⟨b0, o, v, rfl, hbl, yy0, yy1, hv, hpl⟩ := bat_at HM.out.bat hlt
      have y0 := (HW.out.1.cell (p := ⟨b0, o + k * 2, none⟩) hbl).trans yy0
      have y1 := (HW.out.1.cell (p := ⟨b0, o + k * 2 + 1, none⟩) hbl).trans yy1
      have hz2 := hzz.out
      rw [restM_at hlt] at hz2
      have hbf := batI_before hlt
      have hw := bat_ways ((m.bats.take k).map (·.name)) m.bats[k]
      obtain ⟨⟨p, d⟩, hp⟩ : ∃ b, b = m.bats[k] := ⟨_, rfl⟩
      rw [← hp] at y0 hv hpl hz2 hbf hw
      dsimp only at y0 hv hpl hbf hw
      obtain ⟨A2, c2, hve, _, _⟩ := hv.shape
      obtain ⟨n2, hn2⟩ : ∃ n, n = d.length := ⟨_, rfl⟩
      rw [← hn2] at hve
      subst hve
      generalize (m.bats.take k).map (·.name) = pre at hz2 hbf hw
      have hx := TwoM.new HW.out.1 HW.out.2 43 (.string (S p)) (.slice A2 n2 c2)
      obtain ⟨x0, x1, x2, x3⟩ := hx.cells
      have HX := Lib.hid hx
      clear hzz hp yy0 yy1 hx
      have tok0 : True := trivial
      have kb : ∀ W, Below w.heap.size w W → Calls Tryz.prog 20 #[.agg #[.slice (some ⟨b0, o, none⟩) m.bats.length c, .slice A' m.bows.length c'], .string (S p)] W fun e W' => e = .returned (.int .i64 (batI m.bats p)) ∧ Below W.heap.size W W' := fun W hW => r_Batter m _ _ p W (HM.out.below hW)
      have kd : ∀ W, Below w.heap.size w W → Calls Tryz.prog 35 #[.slice A2 n2 c2] W fun e W' => e = .returned (.int .i64 (checkD d)) ∧ Below W.heap.size W W' := fun W hW => ref_CCheck d _ W (hv.keep elOtc_good (Same.of_below hW) fun b h => Nat.lt_of_lt_of_le h hW.size)
      obtain ⟨i, hi⟩ : ∃ i, i = batI m.bats p := ⟨_, rfl⟩
      obtain ⟨u, hu⟩ : ∃ u, u = checkD d := ⟨_, rfl⟩
      rw [← hi] at kb hbf
      rw [← hu] at kd hw
      have KB := Lib.hid kb
      have KD := Lib.hid kd
      clear kb kd hi hu hn2
      rcases hw with ⟨hnm, he⟩ | ⟨hnm, hin, he⟩ | ⟨hnm, hin, he⟩
      · rw [he, if_pos (by decide)] at hz2
        have kn : ∀ W, Calls Tryz.prog 42 #[.string (S p)] W fun e W' => e = .returned (.bool false) ∧ Below W.heap.size W W' := fun W => (ref_Name (S p) W (by rw [S_size]; exact hpl)).mono fun e W' h => by rw [S_data, hnm] at h; exact ⟨h.1, h.2 ▸ Below.refl _ _⟩
        have KN := Lib.hid kn
        have HZZ := Lib.hid hz2
        clear kn hz2 he hnm hbf hv hpl
        go_wp2_with (first
          | (clear tok0; go_at_call 42; refine (KN.out _).mono ?_; rintro e w2 ⟨rfl, hb2⟩; have HX2 := Lib.hid (HX.out.below hb2); obtain ⟨p0, p1, p2, p3⟩ := HX2.out.cells; clear hb2; have tok1 : True := trivial))
        go_ret
        exact ⟨ret_i HZZ.out.symm, HX2.out.bel⟩
      · rw [he, if_pos (by decide)] at hz2
        have kn : ∀ W, Calls Tryz.prog 42 #[.string (S p)] W fun e W' => e = .returned (.bool true) ∧ Below W.heap.size W W' := fun W => (ref_Name (S p) W (by rw [S_size]; exact hpl)).mono fun e W' h => by rw [S_data, hnm] at h; exact ⟨h.1, h.2 ▸ Below.refl _ _⟩
        have KN := Lib.hid kn
        have HZZ := Lib.hid hz2
        rw [hin] at hbf
        clear kn hz2 he hnm hin hv hpl
        go_wp2_with (first
          | (clear tok0; go_at_call 42; refine (KN.out _).mono ?_; rintro e w2 ⟨rfl, hb2⟩; have HX2 := Lib.hid (HX.out.below hb2); obtain ⟨p0, p1, p2, p3⟩ := HX2.out.cells; clear hb2; have tok1 : True := trivial)
          | (clear tok1; go_at_call 20; refine (KB.out _ HX2.out.bel).mono ?_; rintro e w3 ⟨rfl, hb3⟩; have HX3 := Lib.hid (HX2.out.below hb3); obtain ⟨q0, q1, q2, q3⟩ := HX3.out.cells; clear hb3; have tok2 : True := trivial))
        go_ret
        exact ⟨ret_i HZZ.out.symm, HX3.out.bel⟩
      · rw [he] at hz2
        have kn : ∀ W, Calls Tryz.prog 42 #[.string (S p)] W fun e W' => e = .returned (.bool true) ∧ Below W.heap.size W W' := fun W => (ref_Name (S p) W (by rw [S_size]; exact hpl)).mono fun e W' h => by rw [S_data, hnm] at h; exact ⟨h.1, h.2 ▸ Below.refl _ _⟩
        have KN := Lib.hid kn
        rw [hin] at hbf
        by_cases hu0 : u = 0
        · rw [if_neg (by simp [hu0])] at hz2
          have eu : (u != 0) = false := by simp [hu0]
          have HZZ := Lib.hid hz2
          clear kn hz2 he hnm hin hu0 hv hpl
          go_wp2_with (first
          | (clear tok0; go_at_call 42; refine (KN.out _).mono ?_; rintro e w2 ⟨rfl, hb2⟩; have HX2 := Lib.hid (HX.out.below hb2); obtain ⟨p0, p1, p2, p3⟩ := HX2.out.cells; clear hb2; have tok1 : True := trivial)
          | (clear tok1; go_at_call 20; refine (KB.out _ HX2.out.bel).mono ?_; rintro e w3 ⟨rfl, hb3⟩; have HX3 := Lib.hid (HX2.out.below hb3); obtain ⟨q0, q1, q2, q3⟩ := HX3.out.cells; clear hb3; have tok2 : True := trivial)
          | (clear tok2; go_at_call 35; refine (KD.out _ HX3.out.bel).mono ?_; rintro e w4 ⟨rfl, hb4⟩; have HX4 := Lib.hid (HX3.out.below hb4); clear hb4; have tok3 : True := trivial))
          go_roundw
          case rel => exact ⟨k + 1, by omega, by go_num, Lib.hid ⟨HX4.out.bel, HX4.out.box⟩, HZZ⟩
          case measure => simp [intOf]; omega
        · rw [if_pos hu0] at hz2
          have eu : (u != 0) = true := by simp [hu0]
          have HZZ := Lib.hid hz2
          clear kn hz2 he hnm hin hu0 hv hpl
          go_wp2_with (first
          | (clear tok0; go_at_call 42; refine (KN.out _).mono ?_; rintro e w2 ⟨rfl, hb2⟩; have HX2 := Lib.hid (HX.out.below hb2); obtain ⟨p0, p1, p2, p3⟩ := HX2.out.cells; clear hb2; have tok1 : True := trivial)
          | (clear tok1; go_at_call 20; refine (KB.out _ HX2.out.bel).mono ?_; rintro e w3 ⟨rfl, hb3⟩; have HX3 := Lib.hid (HX2.out.below hb3); obtain ⟨q0, q1, q2, q3⟩ := HX3.out.cells; clear hb3; have tok2 : True := trivial)
          | (clear tok2; go_at_call 35; refine (KD.out _ HX3.out.bel).mono ?_; rintro e w4 ⟨rfl, hb4⟩; have HX4 := Lib.hid (HX3.out.below hb4); clear hb4; have tok3 : True := trivial))
          go_ret
          exact ⟨ret_i HZZ.out.symm, HX4.out.bel⟩
    · obtain rfl : k = m.bats.length := by omega
      have hz2 := hzz.out
      rw [restM_end] at hz2
      have HZ1 := Lib.hid hz2
      have HW1 := HW
      clear hzz hz2 HW HZ0
      obtain ⟨wo, rfl⟩ : ∃ wo : World, wo = wr := ⟨_, rfl⟩
      go_wp2
      go_loopw [56] (fun i wr => ∃ k : Nat, k ≤ m.bows.length ∧ i = .int .i64 k ∧ Hid (Below w.heap.size w wr ∧ Blk wr w.heap.size 36 #[.slice A m.bats.length c, .slice A' m.bows.length c']) ∧ Hid (z = restW m k)) (fun i _ => m.bows.length - (intOf i).toNat)
      case atStart => exact ⟨0, Nat.zero_le _, rfl, HW1, HZ1⟩
      case round =>
        clear HW1 HZ1 r0 r1
        obtain ⟨k, hk, rfl, HW, hzz⟩ := hrel
        obtain ⟨r0, r1, _, _⟩ := HW.out.2.duo
        by_cases hlt : k < m.bows.length
        · obtain ⟨b0, o, rfl, hbl, yy0, yy1, hpl⟩ := bow_at HM.out.bow hlt
          have y0 := (HW.out.1.cell (p := ⟨b0, o + k * 2, none⟩) hbl).trans yy0
          have y1 := (HW.out.1.cell (p := ⟨b0, o + k * 2 + 1, none⟩) hbl).trans yy1
          have hz2 := hzz.out
          rw [restW_at hlt] at hz2
          have hbf := bowI_before hlt
          have hw := bow_ways ((m.bows.take k).map (·.name)) m.bows[k]
          obtain ⟨⟨p, d⟩, hp⟩ : ∃ b, b = m.bows[k] := ⟨_, rfl⟩
          rw [← hp] at y0 y1 hpl hz2 hbf hw
          dsimp only at y0 y1 hpl hbf hw
          generalize (m.bows.take k).map (·.name) = pre at hz2 hbf hw
          have hx := TwoM.new HW.out.1 HW.out.2 45 (.string (S p)) (.int .i64 d)
          obtain ⟨x0, x1, x2, x3⟩ := hx.cells
          have HX := Lib.hid hx
          clear hzz hp yy0 yy1 hx
          have tok0 : True := trivial
          have kb : ∀ W, Below w.heap.size w W → Calls Tryz.prog 22 #[.agg #[.slice A m.bats.length c, .slice (some ⟨b0, o, none⟩) m.bows.length c'], .string (S p)] W fun e W' => e = .returned (.int .i64 (bowI m.bows p)) ∧ Below W.heap.size W W' := fun W hW => r_Bowler m _ _ p W (HM.out.below hW)
          obtain ⟨i, hi⟩ : ∃ i, i = bowI m.bows p := ⟨_, rfl⟩
          rw [← hi] at kb hbf
          have KB := Lib.hid kb
          clear kb hi
          rcases hw with ⟨hnm, he⟩ | ⟨hnm, hin, he⟩ | ⟨hnm, hin, hs, he⟩ | ⟨hnm, hin, hs, hs2, he⟩ | ⟨hnm, hin, hs, hs2, he⟩
          · rw [he, if_pos (by decide)] at hz2
            have kn : ∀ W, Calls Tryz.prog 42 #[.string (S p)] W fun e W' => e = .returned (.bool false) ∧ Below W.heap.size W W' := fun W => (ref_Name (S p) W (by rw [S_size]; exact hpl)).mono fun e W' h => by rw [S_data, hnm] at h; exact ⟨h.1, h.2 ▸ Below.refl _ _⟩
            have KN := Lib.hid kn
            have HZZ := Lib.hid hz2
            clear kn hz2 he hnm hbf hpl
            go_wp2_with (first
          | (clear tok0; go_at_call 42; refine (KN.out _).mono ?_; rintro e w2 ⟨rfl, hb2⟩; have HX2 := Lib.hid (HX.out.below hb2); obtain ⟨p0, p1, p2, p3⟩ := HX2.out.cells; clear hb2; have tok1 : True := trivial))
            go_ret
            exact ⟨ret_i HZZ.out.symm, HX2.out.bel⟩
          · rw [he, if_pos (by decide)] at hz2
            have kn : ∀ W, Calls Tryz.prog 42 #[.string (S p)] W fun e W' => e = .returned (.bool true) ∧ Below W.heap.size W W' := fun W => (ref_Name (S p) W (by rw [S_size]; exact hpl)).mono fun e W' h => by rw [S_data, hnm] at h; exact ⟨h.1, h.2 ▸ Below.refl _ _⟩
            have KN := Lib.hid kn
            have HZZ := Lib.hid hz2
            rw [hin] at hbf
            clear kn hz2 he hnm hin hpl
            go_wp2_with (first
          | (clear tok0; go_at_call 42; refine (KN.out _).mono ?_; rintro e w2 ⟨rfl, hb2⟩; have HX2 := Lib.hid (HX.out.below hb2); obtain ⟨p0, p1, p2, p3⟩ := HX2.out.cells; clear hb2; have tok1 : True := trivial)
          | (clear tok1; go_at_call 22; refine (KB.out _ HX2.out.bel).mono ?_; rintro e w3 ⟨rfl, hb3⟩; have HX3 := Lib.hid (HX2.out.below hb3); obtain ⟨q0, q1, q2, q3⟩ := HX3.out.cells; clear hb3; have tok2 : True := trivial))
            go_ret
            exact ⟨ret_i HZZ.out.symm, HX3.out.bel⟩
          · rw [he, if_pos (by decide)] at hz2
            have kn : ∀ W, Calls Tryz.prog 42 #[.string (S p)] W fun e W' => e = .returned (.bool true) ∧ Below W.heap.size W W' := fun W => (ref_Name (S p) W (by rw [S_size]; exact hpl)).mono fun e W' h => by rw [S_data, hnm] at h; exact ⟨h.1, h.2 ▸ Below.refl _ _⟩
            have KN := Lib.hid kn
            have HZZ := Lib.hid hz2
            rw [hin] at hbf
            clear kn hz2 he hnm hin hpl
            go_wp2_with (first
          | (clear tok0; go_at_call 42; refine (KN.out _).mono ?_; rintro e w2 ⟨rfl, hb2⟩; have HX2 := Lib.hid (HX.out.below hb2); obtain ⟨p0, p1, p2, p3⟩ := HX2.out.cells; clear hb2; have tok1 : True := trivial)
          | (clear tok1; go_at_call 22; refine (KB.out _ HX2.out.bel).mono ?_; rintro e w3 ⟨rfl, hb3⟩; have HX3 := Lib.hid (HX2.out.below hb3); obtain ⟨q0, q1, q2, q3⟩ := HX3.out.cells; clear hb3; have tok2 : True := trivial))
            go_ret
            exact ⟨ret_i HZZ.out.symm, HX3.out.bel⟩
          · rw [he, if_pos (by decide)] at hz2
            have kn : ∀ W, Calls Tryz.prog 42 #[.string (S p)] W fun e W' => e = .returned (.bool true) ∧ Below W.heap.size W W' := fun W => (ref_Name (S p) W (by rw [S_size]; exact hpl)).mono fun e W' h => by rw [S_data, hnm] at h; exact ⟨h.1, h.2 ▸ Below.refl _ _⟩
            have KN := Lib.hid kn
            have HZZ := Lib.hid hz2
            rw [hin] at hbf
            clear kn hz2 he hnm hin hpl
            go_wp2_with (first
          | (clear tok0; go_at_call 42; refine (KN.out _).mono ?_; rintro e w2 ⟨rfl, hb2⟩; have HX2 := Lib.hid (HX.out.below hb2); obtain ⟨p0, p1, p2, p3⟩ := HX2.out.cells; clear hb2; have tok1 : True := trivial)
          | (clear tok1; go_at_call 22; refine (KB.out _ HX2.out.bel).mono ?_; rintro e w3 ⟨rfl, hb3⟩; have HX3 := Lib.hid (HX2.out.below hb3); obtain ⟨q0, q1, q2, q3⟩ := HX3.out.cells; clear hb3; have tok2 : True := trivial))
            go_ret
            exact ⟨ret_i HZZ.out.symm, HX3.out.bel⟩
          · rw [he, if_neg (by decide)] at hz2
            have kn : ∀ W, Calls Tryz.prog 42 #[.string (S p)] W fun e W' => e = .returned (.bool true) ∧ Below W.heap.size W W' := fun W => (ref_Name (S p) W (by rw [S_size]; exact hpl)).mono fun e W' h => by rw [S_data, hnm] at h; exact ⟨h.1, h.2 ▸ Below.refl _ _⟩
            have KN := Lib.hid kn
            have HZZ := Lib.hid hz2
            rw [hin] at hbf
            clear kn hz2 he hnm hin hpl
            go_wp2_with (first
          | (clear tok0; go_at_call 42; refine (KN.out _).mono ?_; rintro e w2 ⟨rfl, hb2⟩; have HX2 := Lib.hid (HX.out.below hb2); obtain ⟨p0, p1, p2, p3⟩ := HX2.out.cells; clear hb2; have tok1 : True := trivial)
          | (clear tok1; go_at_call 22; refine (KB.out _ HX2.out.bel).mono ?_; rintro e w3 ⟨rfl, hb3⟩; have HX3 := Lib.hid (HX2.out.below hb3); obtain ⟨q0, q1, q2, q3⟩ := HX3.out.cells; clear hb3; have tok2 : True := trivial))
            go_roundw
            case rel => exact ⟨k + 1, by omega, by go_num, Lib.hid ⟨HX3.out.bel, HX3.out.box⟩, HZZ⟩
            case measure => simp [intOf]; omega
        · obtain rfl : k = m.bows.length := by omega
          have hz2 := hzz.out
          rw [restW_end] at hz2
          have HZ2 := Lib.hid hz2
          clear hzz hz2
          go_wp2
          go_ret
          exact ⟨ret_i HZ2.out.symm, HW.out.1⟩
end Go.Proofs.YticfopjbaoigfaaGreatDoor

namespace Go.Proofs.YticfopjbaoigfaaGreatDoor
open Go.RowKit

def smallM (m : Mdl) : Bool := m.bats.all (fun b => decide (b.dist.length ≤ 100)) && decide (m.bats.length ≤ 30) && decide (m.bows.length ≤ 30)
theorem ball_ways (m : Mdl) (i j : Int) : (checkM m ≠ 0 ∧ ballS m i j = ([], checkM m)) ∨ (checkM m = 0 ∧ i < 0 ∧ ballS m i j = ([], 6)) ∨ (checkM m = 0 ∧ ¬ i < 0 ∧ (m.bats.length : Int) ≤ i ∧ ballS m i j = ([], 6)) ∨ (checkM m = 0 ∧ ¬ i < 0 ∧ ¬ (m.bats.length : Int) ≤ i ∧ j < 0 ∧ ballS m i j = ([], 6)) ∨ (checkM m = 0 ∧ ¬ i < 0 ∧ ¬ (m.bats.length : Int) ≤ i ∧ ¬ j < 0 ∧ (m.bows.length : Int) ≤ j ∧ ballS m i j = ([], 6)) ∨
    (checkM m = 0 ∧ ∃ (a b : Nat) (ha : a < m.bats.length) (hb : b < m.bows.length), i = a ∧ j = b ∧ ballS m i j = shiftS m.bats[a].dist m.bows[b].shift) := by
  unfold ballS
  by_cases h0 : checkM m ≠ 0
  · exact .inl ⟨h0, by rw [if_pos h0]⟩
  refine .inr ?_
  rw [if_neg h0]
  have h0' : checkM m = 0 := by omega
  by_cases h1 : i < 0
  · exact .inl ⟨h0', h1, by rw [if_pos (by omega)]⟩
  refine .inr ?_
  by_cases h2 : (m.bats.length : Int) ≤ i
  · exact .inl ⟨h0', h1, h2, by rw [if_pos (by omega)]⟩
  refine .inr ?_
  by_cases h3 : j < 0
  · exact .inl ⟨h0', h1, h2, h3, by rw [if_pos (by omega)]⟩
  refine .inr ?_
  by_cases h4 : (m.bows.length : Int) ≤ j
  · exact .inl ⟨h0', h1, h2, h3, h4, by rw [if_pos (by omega)]⟩
  refine .inr ⟨h0', i.toNat, j.toNat, by omega, by omega, by omega, by omega, ?_⟩
  rw [if_neg (by omega), List.getElem?_eq_getElem (show i.toNat < m.bats.length by omega), List.getElem?_eq_getElem (show j.toNat < m.bows.length by omega)]
theorem otcPost_none {w W : World} {u : Int} {l : List Otc × Int} (hl : l = ([], u)) (hb : Below w.heap.size w W) : OtcPost w l (.returned (.tuple #[.slice none 0 0, .int .i64 u])) W := by
  rw [hl]; exact ⟨_, rfl, Sl.nil _ _, hb⟩
theorem small_drop {l : List Bat} {k : Nat} (hk : k < l.length) : (l.drop k).all (fun b => decide (b.dist.length ≤ 100)) = (decide (l[k].dist.length ≤ 100) && (l.drop (k + 1)).all (fun b => decide (b.dist.length ≤ 100))) := by
  rw [drop_get hk, List.all_cons]
set_option maxRecDepth 100000 in
set_option maxHeartbeats 2000000 in
theorem law43_small (m : Mdl) (bv wv : Value) (w : World) (h : MdlAt w (· < w.heap.size) bv wv m) :
    Calls Tryz.prog 16 #[.agg #[bv, wv]] w fun e w' => e = .returned (.bool (smallM m)) ∧ Below w.heap.size w w' := by
  obtain ⟨z, hz⟩ : ∃ z, z = smallM m := ⟨_, rfl⟩
  rw [← hz]
  unfold smallM at hz
  obtain ⟨A, c, rfl, hc, hc2⟩ := h.bat.shape
  obtain ⟨A', c', rfl, hc', hc2'⟩ := h.bow.shape
  have HL := Lib.hid h.bat
  obtain ⟨bl, hbl⟩ : ∃ b, b = (decide (m.bats.length ≤ 30) && decide (m.bows.length ≤ 30)) := ⟨_, rfl⟩
  rw [Bool.and_assoc, ← hbl] at hz
  have HZ : Hid (z = ((m.bats.drop 0).all (fun b => decide (b.dist.length ≤ 100)) && bl)) := hz
  have HBL := Lib.hid hbl
  have HW0 := Lib.hid (⟨Below.alloc (Below.refl _ _) (Nat.le_refl _) _, Blk.new w 36 #[.slice A m.bats.length c, .slice A' m.bows.length c']⟩ : Below w.heap.size w (w.alloc (.cells #[.slice A m.bats.length c, .slice A' m.bows.length c'] 36)) ∧ _)
  clear hz h hbl
  go_enter Tryz.func16, Tryz.ntmps16
  go_wp2
  go_loopw [8] (fun i wr => ∃ k : Nat, k ≤ m.bats.length ∧ i = .int .i64 k ∧ Hid (Below w.heap.size w wr ∧ Blk wr w.heap.size 36 #[.slice A m.bats.length c, .slice A' m.bows.length c']) ∧ Hid (z = ((m.bats.drop k).all (fun b => decide (b.dist.length ≤ 100)) && bl))) (fun i _ => m.bats.length - (intOf i).toNat)
  case atStart => exact ⟨0, Nat.zero_le _, rfl, HW0, HZ⟩
  case round =>
    clear HW0 HZ
    obtain ⟨k, hk, rfl, HW, hzz⟩ := hrel
    obtain ⟨r0, r1, _, _⟩ := HW.out.2.duo
    by_cases hlt : k < m.bats.length
    · obtain ⟨b0, o, v, rfl, hbl, yy0, yy1, hv, hpl⟩ := bat_at HL.out hlt
      have y0 := (HW.out.1.cell (p := ⟨b0, o + k * 2, none⟩) hbl).trans yy0
      have y1 := (HW.out.1.cell (p := ⟨b0, o + k * 2 + 1, none⟩) hbl).trans yy1
      have hz2 := hzz.out
      rw [small_drop hlt] at hz2
      obtain ⟨A2, c2, hve, _, _⟩ := hv.shape
      obtain ⟨p, hp⟩ : ∃ b, b = m.bats[k] := ⟨_, rfl⟩
      rw [← hp] at y0 hz2 hve
      obtain ⟨n2, hn2⟩ : ∃ n, n = p.dist.length := ⟨_, rfl⟩
      obtain ⟨pn, hpn⟩ : ∃ n, n = p.name := ⟨_, rfl⟩
      rw [← hn2] at hve hz2
      rw [← hpn] at y0
      subst hve
      have HA := Lib.hid (⟨HW.out.1.alloc HW.out.1.size _, HW.out.2.alloc _⟩ : Below w.heap.size w (wr.alloc (.cells #[.string (S pn), .slice A2 n2 c2] 43)) ∧ Blk (wr.alloc (.cells #[.string (S pn), .slice A2 n2 c2] 43)) w.heap.size 36 #[.slice (some ⟨b0, o, none⟩) m.bats.length c, .slice A' m.bows.length c'])
      clear hzz hp hn2 hpn yy0 yy1 hv hpl
      by_cases hs : n2 ≤ 100
      · rw [decide_eq_true hs, Bool.true_and] at hz2
        have HZZ := Lib.hid hz2
        have g1 : ¬ (100 : Int) < (n2 : Int) := by omega
        clear hz2 hs
        go_wp2
        go_roundw
        case rel => exact ⟨k + 1, by omega, by go_num, HA, HZZ⟩
        case measure => simp [intOf]; omega
      · rw [decide_eq_false hs, Bool.false_and] at hz2
        have HZZ := Lib.hid hz2
        have g1 : (100 : Int) < (n2 : Int) := by omega
        clear hz2 hs
        go_wp2
        go_ret
        exact ⟨ret_b HZZ.out.symm, HA.out.1⟩
    · obtain rfl : k = m.bats.length := by omega
      have hz2 := hzz.out
      rw [List.drop_of_length_le (Nat.le_refl _), List.all_nil, Bool.true_and] at hz2
      have hbl := HBL.out
      by_cases h1 : m.bats.length ≤ 30
      · rw [decide_eq_true h1, Bool.true_and] at hbl
        have g1 : (m.bats.length : Int) ≤ 30 := by omega
        by_cases h3 : m.bows.length ≤ 30
        · rw [decide_eq_true h3] at hbl
          have g2 : (m.bows.length : Int) ≤ 30 := by omega
          have HZZ := Lib.hid (hz2.trans hbl)
          clear hz2 hzz hbl h1 h3
          go_wp2
          go_ret
          exact ⟨ret_b HZZ.out.symm, HW.out.1⟩
        · rw [decide_eq_false h3] at hbl
          have g2 : ¬ (m.bows.length : Int) ≤ 30 := by omega
          have HZZ := Lib.hid (hz2.trans hbl)
          clear hz2 hzz hbl h1 h3
          go_wp2
          go_ret
          exact ⟨ret_b HZZ.out.symm, HW.out.1⟩
      · rw [decide_eq_false h1, Bool.false_and] at hbl
        have g1 : ¬ (m.bats.length : Int) ≤ 30 := by omega
        have HZZ := Lib.hid (hz2.trans hbl)
        clear hz2 hzz hbl h1
        go_wp2
        go_ret
        exact ⟨ret_b HZZ.out.symm, HW.out.1⟩
set_option maxRecDepth 100000 in
set_option maxHeartbeats 4000000 in
theorem m_Ball (m : Mdl) (bv wv : Value) (i j : Int) (w : World) (h : MdlAt w (· < w.heap.size) bv wv m) :
    Calls Tryz.prog 23 #[.agg #[bv, wv], .int .i64 i, .int .i64 j] w (OtcPost w (ballS m i j)) := by
  obtain ⟨z, hzz⟩ : ∃ z, z = ballS m i j := ⟨_, rfl⟩
  have hw := ball_ways m i j
  rw [← hzz] at hw ⊢
  obtain ⟨A, c, rfl, hc, hc2⟩ := h.bat.shape
  obtain ⟨A', c', rfl, hc', hc2'⟩ := h.bow.shape
  have hb1 : Below w.heap.size w (w.alloc (.cells #[.slice A m.bats.length c, .slice A' m.bows.length c'] 36)) := Below.alloc (Below.refl _ _) (Nat.le_refl _) _
  have HX := Lib.hid (Blk.new w 36 #[.slice A m.bats.length c, .slice A' m.bows.length c'])
  have HB := Lib.hid hb1
  have kc := m_Check m _ _ _ (h.below hb1)
  have HM := Lib.hid h
  clear hzz h hb1
  obtain ⟨u, hu⟩ : ∃ u, u = checkM m := ⟨_, rfl⟩
  rw [← hu] at kc hw
  clear hu
  rcases hw with ⟨h0, hz⟩ | ⟨h0, h1, hz⟩ | ⟨h0, h1, h2, hz⟩ | ⟨h0, h1, h2, h3, hz⟩ | ⟨h0, h1, h2, h3, h4, hz⟩ | ⟨h0, a, b, ha, hb, ea, eb, hz⟩
  · have eu : (u != 0) = true := by simp [h0]
    have KC := Lib.hid kc
    have HZ := Lib.hid hz
    clear kc hz h0
    go_enter Tryz.func23, Tryz.ntmps23
    go_wp2_with (go_at_call 17; refine (KC.out).mono ?_; rintro e w2 ⟨rfl, hb2⟩; have HX2 := Lib.hid (⟨HB.out.trans (hb2.mono HB.out.size), HX.out.below hb2 HX.out.lt⟩ : Below w.heap.size w w2 ∧ Blk w2 w.heap.size 36 #[.slice A m.bats.length c, .slice A' m.bows.length c']); obtain ⟨x0, x1, _, _⟩ := HX2.out.2.duo; clear hb2)
    go_ret2
    exact otcPost_none HZ.out HX2.out.1
  · rw [h0] at kc
    have KC := Lib.hid kc
    have HZ := Lib.hid hz
    clear kc hz h0
    go_enter Tryz.func23, Tryz.ntmps23
    go_wp2_with (go_at_call 17; refine (KC.out).mono ?_; rintro e w2 ⟨rfl, hb2⟩; have HX2 := Lib.hid (⟨HB.out.trans (hb2.mono HB.out.size), HX.out.below hb2 HX.out.lt⟩ : Below w.heap.size w w2 ∧ Blk w2 w.heap.size 36 #[.slice A m.bats.length c, .slice A' m.bows.length c']); obtain ⟨x0, x1, _, _⟩ := HX2.out.2.duo; clear hb2)
    go_ret2
    exact otcPost_none HZ.out HX2.out.1
  · rw [h0] at kc
    have KC := Lib.hid kc
    have HZ := Lib.hid hz
    clear kc hz h0
    go_enter Tryz.func23, Tryz.ntmps23
    go_wp2_with (go_at_call 17; refine (KC.out).mono ?_; rintro e w2 ⟨rfl, hb2⟩; have HX2 := Lib.hid (⟨HB.out.trans (hb2.mono HB.out.size), HX.out.below hb2 HX.out.lt⟩ : Below w.heap.size w w2 ∧ Blk w2 w.heap.size 36 #[.slice A m.bats.length c, .slice A' m.bows.length c']); obtain ⟨x0, x1, _, _⟩ := HX2.out.2.duo; clear hb2)
    go_ret2
    exact otcPost_none HZ.out HX2.out.1
  · rw [h0] at kc
    have KC := Lib.hid kc
    have HZ := Lib.hid hz
    clear kc hz h0
    go_enter Tryz.func23, Tryz.ntmps23
    go_wp2_with (go_at_call 17; refine (KC.out).mono ?_; rintro e w2 ⟨rfl, hb2⟩; have HX2 := Lib.hid (⟨HB.out.trans (hb2.mono HB.out.size), HX.out.below hb2 HX.out.lt⟩ : Below w.heap.size w w2 ∧ Blk w2 w.heap.size 36 #[.slice A m.bats.length c, .slice A' m.bows.length c']); obtain ⟨x0, x1, _, _⟩ := HX2.out.2.duo; clear hb2)
    go_ret2
    exact otcPost_none HZ.out HX2.out.1
  · rw [h0] at kc
    have KC := Lib.hid kc
    have HZ := Lib.hid hz
    clear kc hz h0
    go_enter Tryz.func23, Tryz.ntmps23
    go_wp2_with (go_at_call 17; refine (KC.out).mono ?_; rintro e w2 ⟨rfl, hb2⟩; have HX2 := Lib.hid (⟨HB.out.trans (hb2.mono HB.out.size), HX.out.below hb2 HX.out.lt⟩ : Below w.heap.size w w2 ∧ Blk w2 w.heap.size 36 #[.slice A m.bats.length c, .slice A' m.bows.length c']); obtain ⟨x0, x1, _, _⟩ := HX2.out.2.duo; clear hb2)
    go_ret2
    exact otcPost_none HZ.out HX2.out.1
  · rw [h0] at kc
    have KC := Lib.hid kc
    obtain ⟨b0, o, v, rfl, hbl, yy0, yy1, hv, hq1⟩ := bat_at HM.out.bat ha
    obtain ⟨b1, o1, rfl, hbl1, ww0, ww1, hq2⟩ := bow_at HM.out.bow hb
    have ks := fun W (hW : Below w.heap.size w W) => m_Shift m.bats[a].dist v m.bows[b].shift W (hv.keep elOtc_good (Same.of_below hW) fun b h => Nat.lt_of_lt_of_le h hW.size)
    rw [← hz] at ks
    obtain ⟨n, hn⟩ : ∃ n, n = m.bows[b].shift := ⟨_, rfl⟩
    rw [← hn] at ks ww1
    have KS := Lib.hid ks
    have g1 : ¬ (a : Int) < 0 := by omega
    have g2 : ¬ (m.bats.length : Int) ≤ (a : Int) := by omega
    have g3 : ¬ (b : Int) < 0 := by omega
    have g4 : ¬ (m.bows.length : Int) ≤ (b : Int) := by omega
    have i1 : (0 : Int) ≤ (a : Int) := by omega
    have i2 : (a : Int) < (m.bats.length : Int) := by omega
    have i3 : (0 : Int) ≤ (b : Int) := by omega
    have i4 : (b : Int) < (m.bows.length : Int) := by omega
    have Y1 := Lib.hid yy1
    have W1 := Lib.hid ww1
    have BL := Lib.hid hbl
    have BL1 := Lib.hid hbl1
    subst ea eb
    clear hq1 hq2 kc ks hn hz h0 yy0 yy1 ww0 ww1 hv hbl hbl1 ha hb
    go_enter Tryz.func23, Tryz.ntmps23
    go_wp2_with (go_at_call 17; refine (KC.out).mono ?_; rintro e w2 ⟨rfl, hb2⟩; have HX2 := Lib.hid (⟨HB.out.trans (hb2.mono HB.out.size), HX.out.below hb2 HX.out.lt⟩ : Below w.heap.size w w2 ∧ Blk w2 w.heap.size 36 #[.slice (some ⟨b0, o, none⟩) m.bats.length c, .slice (some ⟨b1, o1, none⟩) m.bows.length c']); obtain ⟨x0, x1, _, _⟩ := HX2.out.2.duo; clear hb2)
    have y1 : w2.cell? ⟨b0, o + a * 2 + 1, none⟩ = some v := (HX2.out.1.cell (p := ⟨b0, o + a * 2 + 1, none⟩) BL.out).trans Y1.out
    have z1 : w2.cell? ⟨b1, o1 + b * 2 + 1, none⟩ = some (.int .i64 n) := (HX2.out.1.cell (p := ⟨b1, o1 + b * 2 + 1, none⟩) BL1.out).trans W1.out
    have HB2 := Lib.hid (Below.drew HX2.out.1)
    have HX3 := Lib.hid HX2.out.2.drew
    go_region_held3 (fun w' => w'.cell? ⟨w.heap.size, 0, none⟩ = some (.slice (some ⟨b0, o, none⟩) m.bats.length c) ∧ w'.cell? ⟨w.heap.size, 1, none⟩ = some (.slice (some ⟨b1, o1, none⟩) m.bows.length c') ∧ w'.cell? ⟨b0, o + a * 2 + 1, none⟩ = some v ∧ w'.cell? ⟨b1, o1 + b * 2 + 1, none⟩ = some (.int .i64 n)) (first | exact ⟨u0, u1, u2, u3⟩ | go_keep) ((go_at_call 10; refine (KS.out _ HB2.out).mono ?_; rintro e w4 ⟨v4, rfl, hs4, hb4⟩; obtain ⟨A4, c4, rfl, hc41, hc42⟩ := hs4.shape; obtain ⟨u0, u1, _, _⟩ := (HX3.out.below hb4 HX3.out.lt).duo; have u2 := (hb4.cell (p := ⟨b0, o + a * 2 + 1, none⟩) (Nat.lt_of_lt_of_le BL.out HB2.out.size)).trans y1; have u3 := (hb4.cell (p := ⟨b1, o1 + b * 2 + 1, none⟩) (Nat.lt_of_lt_of_le BL1.out HB2.out.size)).trans z1; have HS4 := Lib.hid hs4; have HB4 := Lib.hid hb4; clear hs4 hb4))
    all_goals go_wp2
    go_ret2
    exact ⟨_, rfl, HS4.out.keep elOtc_good (Same.refl _ _) fun b h => ⟨Nat.le_trans HB2.out.size h.1, h.2⟩, HB2.out.trans (HB4.out.mono HB2.out.size)⟩
set_option maxRecDepth 100000 in
set_option maxHeartbeats 4000000 in
theorem r_Ball (m : Mdl) (bv wv : Value) (i j : Int) (w : World) (h : MdlAt w (· < w.heap.size) bv wv m) :
    Calls Tryz.prog 24 #[.agg #[bv, wv], .int .i64 i, .int .i64 j] w (OtcPost w (ballS m i j)) := by
  obtain ⟨z, hzz⟩ : ∃ z, z = ballS m i j := ⟨_, rfl⟩
  have hw := ball_ways m i j
  rw [← hzz] at hw ⊢
  obtain ⟨A, c, rfl, hc, hc2⟩ := h.bat.shape
  obtain ⟨A', c', rfl, hc', hc2'⟩ := h.bow.shape
  have hb1 : Below w.heap.size w (w.alloc (.cells #[.slice A m.bats.length c, .slice A' m.bows.length c'] 36)) := Below.alloc (Below.refl _ _) (Nat.le_refl _) _
  have HX := Lib.hid (Blk.new w 36 #[.slice A m.bats.length c, .slice A' m.bows.length c'])
  have HB := Lib.hid hb1
  have kc := r_Check m _ _ _ (h.below hb1)
  have HM := Lib.hid h
  clear hzz h hb1
  obtain ⟨u, hu⟩ : ∃ u, u = checkM m := ⟨_, rfl⟩
  rw [← hu] at kc hw
  clear hu
  rcases hw with ⟨h0, hz⟩ | ⟨h0, h1, hz⟩ | ⟨h0, h1, h2, hz⟩ | ⟨h0, h1, h2, h3, hz⟩ | ⟨h0, h1, h2, h3, h4, hz⟩ | ⟨h0, a, b, ha, hb, ea, eb, hz⟩
  · have eu : (u != 0) = true := by simp [h0]
    have KC := Lib.hid kc
    have HZ := Lib.hid hz
    clear kc hz h0
    go_enter Tryz.func24, Tryz.ntmps24
    go_wp2_with (go_at_call 18; refine (KC.out).mono ?_; rintro e w2 ⟨rfl, hb2⟩; have HX2 := Lib.hid (⟨HB.out.trans (hb2.mono HB.out.size), HX.out.below hb2 HX.out.lt⟩ : Below w.heap.size w w2 ∧ Blk w2 w.heap.size 36 #[.slice A m.bats.length c, .slice A' m.bows.length c']); obtain ⟨x0, x1, _, _⟩ := HX2.out.2.duo; clear hb2)
    go_ret2
    exact otcPost_none HZ.out HX2.out.1
  · rw [h0] at kc
    have KC := Lib.hid kc
    have HZ := Lib.hid hz
    clear kc hz h0
    go_enter Tryz.func24, Tryz.ntmps24
    go_wp2_with (go_at_call 18; refine (KC.out).mono ?_; rintro e w2 ⟨rfl, hb2⟩; have HX2 := Lib.hid (⟨HB.out.trans (hb2.mono HB.out.size), HX.out.below hb2 HX.out.lt⟩ : Below w.heap.size w w2 ∧ Blk w2 w.heap.size 36 #[.slice A m.bats.length c, .slice A' m.bows.length c']); obtain ⟨x0, x1, _, _⟩ := HX2.out.2.duo; clear hb2)
    go_ret2
    exact otcPost_none HZ.out HX2.out.1
  · rw [h0] at kc
    have KC := Lib.hid kc
    have HZ := Lib.hid hz
    clear kc hz h0
    go_enter Tryz.func24, Tryz.ntmps24
    go_wp2_with (go_at_call 18; refine (KC.out).mono ?_; rintro e w2 ⟨rfl, hb2⟩; have HX2 := Lib.hid (⟨HB.out.trans (hb2.mono HB.out.size), HX.out.below hb2 HX.out.lt⟩ : Below w.heap.size w w2 ∧ Blk w2 w.heap.size 36 #[.slice A m.bats.length c, .slice A' m.bows.length c']); obtain ⟨x0, x1, _, _⟩ := HX2.out.2.duo; clear hb2)
    go_ret2
    exact otcPost_none HZ.out HX2.out.1
  · rw [h0] at kc
    have KC := Lib.hid kc
    have HZ := Lib.hid hz
    clear kc hz h0
    go_enter Tryz.func24, Tryz.ntmps24
    go_wp2_with (go_at_call 18; refine (KC.out).mono ?_; rintro e w2 ⟨rfl, hb2⟩; have HX2 := Lib.hid (⟨HB.out.trans (hb2.mono HB.out.size), HX.out.below hb2 HX.out.lt⟩ : Below w.heap.size w w2 ∧ Blk w2 w.heap.size 36 #[.slice A m.bats.length c, .slice A' m.bows.length c']); obtain ⟨x0, x1, _, _⟩ := HX2.out.2.duo; clear hb2)
    go_ret2
    exact otcPost_none HZ.out HX2.out.1
  · rw [h0] at kc
    have KC := Lib.hid kc
    have HZ := Lib.hid hz
    clear kc hz h0
    go_enter Tryz.func24, Tryz.ntmps24
    go_wp2_with (go_at_call 18; refine (KC.out).mono ?_; rintro e w2 ⟨rfl, hb2⟩; have HX2 := Lib.hid (⟨HB.out.trans (hb2.mono HB.out.size), HX.out.below hb2 HX.out.lt⟩ : Below w.heap.size w w2 ∧ Blk w2 w.heap.size 36 #[.slice A m.bats.length c, .slice A' m.bows.length c']); obtain ⟨x0, x1, _, _⟩ := HX2.out.2.duo; clear hb2)
    go_ret2
    exact otcPost_none HZ.out HX2.out.1
  · rw [h0] at kc
    have KC := Lib.hid kc
    obtain ⟨b0, o, v, rfl, hbl, yy0, yy1, hv, hq1⟩ := bat_at HM.out.bat ha
    obtain ⟨b1, o1, rfl, hbl1, ww0, ww1, hq2⟩ := bow_at HM.out.bow hb
    have ks := fun W (hW : Below w.heap.size w W) => r_Shift m.bats[a].dist v m.bows[b].shift W (hv.keep elOtc_good (Same.of_below hW) fun b h => Nat.lt_of_lt_of_le h hW.size)
    rw [← hz] at ks
    obtain ⟨n, hn⟩ : ∃ n, n = m.bows[b].shift := ⟨_, rfl⟩
    rw [← hn] at ks ww1
    have KS := Lib.hid ks
    have g1 : ¬ (a : Int) < 0 := by omega
    have g2 : ¬ (m.bats.length : Int) ≤ (a : Int) := by omega
    have g3 : ¬ (b : Int) < 0 := by omega
    have g4 : ¬ (m.bows.length : Int) ≤ (b : Int) := by omega
    have i1 : (0 : Int) ≤ (a : Int) := by omega
    have i2 : (a : Int) < (m.bats.length : Int) := by omega
    have i3 : (0 : Int) ≤ (b : Int) := by omega
    have i4 : (b : Int) < (m.bows.length : Int) := by omega
    have Y1 := Lib.hid yy1
    have W1 := Lib.hid ww1
    have BL := Lib.hid hbl
    have BL1 := Lib.hid hbl1
    subst ea eb
    clear hq1 hq2 kc ks hn hz h0 yy0 yy1 ww0 ww1 hv hbl hbl1 ha hb
    go_enter Tryz.func24, Tryz.ntmps24
    go_wp2_with (go_at_call 18; refine (KC.out).mono ?_; rintro e w2 ⟨rfl, hb2⟩; have HX2 := Lib.hid (⟨HB.out.trans (hb2.mono HB.out.size), HX.out.below hb2 HX.out.lt⟩ : Below w.heap.size w w2 ∧ Blk w2 w.heap.size 36 #[.slice (some ⟨b0, o, none⟩) m.bats.length c, .slice (some ⟨b1, o1, none⟩) m.bows.length c']); obtain ⟨x0, x1, _, _⟩ := HX2.out.2.duo; clear hb2)
    have y1 : w2.cell? ⟨b0, o + a * 2 + 1, none⟩ = some v := (HX2.out.1.cell (p := ⟨b0, o + a * 2 + 1, none⟩) BL.out).trans Y1.out
    have z1 : w2.cell? ⟨b1, o1 + b * 2 + 1, none⟩ = some (.int .i64 n) := (HX2.out.1.cell (p := ⟨b1, o1 + b * 2 + 1, none⟩) BL1.out).trans W1.out
    have HB2 := Lib.hid (Below.drew HX2.out.1)
    have HX3 := Lib.hid HX2.out.2.drew
    go_region_held3 (fun w' => w'.cell? ⟨w.heap.size, 0, none⟩ = some (.slice (some ⟨b0, o, none⟩) m.bats.length c) ∧ w'.cell? ⟨w.heap.size, 1, none⟩ = some (.slice (some ⟨b1, o1, none⟩) m.bows.length c') ∧ w'.cell? ⟨b0, o + a * 2 + 1, none⟩ = some v ∧ w'.cell? ⟨b1, o1 + b * 2 + 1, none⟩ = some (.int .i64 n)) (first | exact ⟨u0, u1, u2, u3⟩ | go_keep) ((go_at_call 11; refine (KS.out _ HB2.out).mono ?_; rintro e w4 ⟨v4, rfl, hs4, hb4⟩; obtain ⟨A4, c4, rfl, hc41, hc42⟩ := hs4.shape; obtain ⟨u0, u1, _, _⟩ := (HX3.out.below hb4 HX3.out.lt).duo; have u2 := (hb4.cell (p := ⟨b0, o + a * 2 + 1, none⟩) (Nat.lt_of_lt_of_le BL.out HB2.out.size)).trans y1; have u3 := (hb4.cell (p := ⟨b1, o1 + b * 2 + 1, none⟩) (Nat.lt_of_lt_of_le BL1.out HB2.out.size)).trans z1; have HS4 := Lib.hid hs4; have HB4 := Lib.hid hb4; clear hs4 hb4))
    all_goals go_wp2
    go_ret2
    exact ⟨_, rfl, HS4.out.keep elOtc_good (Same.refl _ _) fun b h => ⟨Nat.le_trans HB2.out.size h.1, h.2⟩, HB2.out.trans (HB4.out.mono HB2.out.size)⟩
end Go.Proofs.YticfopjbaoigfaaGreatDoor

namespace Go.Proofs.YticfopjbaoigfaaGreatDoor
open Go.ChangeShapes Go.WideShapes Go.ChangeAt Go.RowKit

theorem cellsBat : Tryz.prog.cellsOf 43 = 2 := by kernel_rfl
theorem cellsBow : Tryz.prog.cellsOf 45 = 2 := by kernel_rfl
theorem cellsMdl : Tryz.prog.cellsOf 36 = 2 := by kernel_rfl
theorem cellsOtcs : Tryz.prog.cellsOf 22 = 1 := by kernel_rfl
theorem cellsBats : Tryz.prog.cellsOf 33 = 1 := by kernel_rfl
theorem cellsBows : Tryz.prog.cellsOf 34 = 1 := by kernel_rfl
section
variable {H : Type} {enc : TypeId × Value → H} {W : World}
instance : Inhabited Bat := ⟨⟨[], []⟩⟩
instance : Inhabited Bow := ⟨⟨[], 0⟩⟩
set_option maxRecDepth 100000 in
theorem bat_one {fuel : Nat} {held : Bool} {cs : List Value} {x : DataW H × List MemPlace} (h : DataW.trod enc Tryz.prog W 0 (fun _ => true) held fuel 43 cs = some x) :
    ∃ f : Bat, elBat W (· < W.heap.size) cs f := by
  obtain ⟨ys, n, _, rfl, hc, hl, hf⟩ := DataW.trod_struct Tryz.underlying43 h
  rw [cellsBat] at hc
  match cs, hc with
  | [u0, u1], _ =>
    match ys, hl with
    | [z0, z1], _ =>
      have k0 := hf 0 _ rfl
      have k1 := hf 1 _ rfl
      obtain ⟨s, e0, _, hs⟩ := DataW.trod_string Tryz.underlying9 k0
      obtain ⟨v, l, e1, hsl⟩ := sl_raw (size := 3) (el := elOtc) Tryz.underlying22 cellsOtc (by decide) (fun h => otc_one h) k1
      have g0 : u0 = .string s := by simpa [Value.cells, cellsStr, cellsOtcs] using e0
      have g1 : u1 = v := by simpa [Value.cells, cellsStr, cellsOtcs] using e1
      subst g0 g1
      exact ⟨⟨s.data.toList, l⟩, ⟨_, by rw [S_of], hsl⟩, by simpa using hs⟩
set_option maxRecDepth 100000 in
theorem bow_one {F : Nat → Prop} {fuel : Nat} {held : Bool} {cs : List Value} {x : DataW H × List MemPlace} (h : DataW.trod enc Tryz.prog W 0 (fun _ => true) held fuel 45 cs = some x) :
    ∃ f : Bow, elBow W F cs f := by
  obtain ⟨ys, n, _, rfl, hc, hl, hf⟩ := DataW.trod_struct Tryz.underlying45 h
  rw [cellsBow] at hc
  match cs, hc with
  | [u0, u1], _ =>
    match ys, hl with
    | [z0, z1], _ =>
      have k0 := hf 0 _ rfl
      have k1 := hf 1 _ rfl
      obtain ⟨s, e0, _, hs⟩ := DataW.trod_string Tryz.underlying9 k0
      obtain ⟨a1, e1, _, _⟩ := DataW.trod_int Tryz.underlying3 k1
      have g0 : u0 = .string s := by simpa [Value.cells, cellsStr, cellsI'] using e0
      have g1 : u1 = .int .i64 a1 := by simpa [Value.cells, cellsStr, cellsI'] using e1
      subst g0 g1
      exact ⟨⟨s.data.toList, a1⟩, by rw [S_of], by simpa using hs⟩
set_option maxRecDepth 100000 in
/-- A model that came in. -/
theorem open_model {r : Reach} {b0 : Nat} {v : Value} {d : DataW H} {p : List MemPlace} (hv : Value.okWide Tryz.prog W r b0 36 v) (h : DataW.Trod enc Tryz.prog W 0 (fun _ => true) true 36 v d p) :
    ∃ (m : Mdl) (bv wv : Value), v = mdlV bv wv ∧ MdlAt W (· < W.heap.size) bv wv m := by
  obtain ⟨cs, rfl, hsz⟩ := okWide_struct Tryz.underlying36 hv
  obtain ⟨fuel, hf⟩ := h
  obtain ⟨l⟩ := cs
  match l, hsz.trans cellsMdl with
  | [c0, c1], _ =>
    obtain ⟨ys, n, _, _, _, hl, hf⟩ := DataW.trod_struct Tryz.underlying36 hf
    match ys, hl with
    | [z0, z1], _ =>
      have k0 := hf 0 _ rfl
      have k1 := hf 1 _ rfl
      obtain ⟨vb, lb, e0, hb⟩ := sl_raw (size := 2) (el := elBat) Tryz.underlying33 cellsBat (by decide) (fun h => bat_one h) k0
      obtain ⟨vw, lw, e1, hw⟩ := sl_raw (size := 2) (el := elBow) Tryz.underlying34 cellsBow (by decide) (fun h => bow_one h) k1
      have g0 : c0 = vb := by simpa [Value.cells, cellsBats, cellsBows] using e0
      have g1 : c1 = vw := by simpa [Value.cells, cellsBats, cellsBows] using e1
      subst g0 g1
      exact ⟨⟨lb, lw⟩, _, _, rfl, hb, hw⟩
end
end Go.Proofs.YticfopjbaoigfaaGreatDoor

namespace Go.Proofs.YticfopjbaoigfaaGreatDoor
open Go.RowKit

set_option maxRecDepth 100000 in
set_option maxHeartbeats 4000000 in
theorem law_ModelBalls (m : Mdl) (bv wv : Value) (i j : Int) (w : World) (hg : GlobN w) (h : MdlAt w (· < w.heap.size) bv wv m) :
    Calls Tryz.prog 6 #[mdlV bv wv, .int .i64 i, .int .i64 j] w fun e w' => e = .returned (.bool true) ∧ Below w.heap.size w w' := by
  unfold mdlV
  obtain ⟨A, c, rfl, hc, hc2⟩ := h.bat.shape
  obtain ⟨A', c', rfl, hc', hc2'⟩ := h.bow.shape
  have hb1 : Below w.heap.size w (w.alloc (.cells #[.slice A m.bats.length c, .slice A' m.bows.length c'] 36)) := Below.alloc (Below.refl _ _) (Nat.le_refl _) _
  have HX0 := Lib.hid (⟨hb1, Blk.new w 36 #[.slice A m.bats.length c, .slice A' m.bows.length c']⟩ : Below w.heap.size w (w.alloc (.cells #[.slice A m.bats.length c, .slice A' m.bows.length c'] 36)) ∧ Blk (w.alloc (.cells #[.slice A m.bats.length c, .slice A' m.bows.length c'] 36)) w.heap.size 36 #[.slice A m.bats.length c, .slice A' m.bows.length c'])
  have KAW := Lib.hid (fun W (hW : Below w.heap.size w W) => law43_awake W (hg.below hW))
  have HM := Lib.hid h
  have k2 : ∀ W, Below w.heap.size w W → Calls Tryz.prog 16 #[.agg #[.slice A m.bats.length c, .slice A' m.bows.length c']] W fun e W' => e = .returned (.bool (smallM m)) ∧ Below W.heap.size W W' := fun W hW => law43_small m _ _ W (HM.out.below hW)
  obtain ⟨⟨l, u⟩, hn⟩ : ∃ x, x = ballS m i j := ⟨_, rfl⟩
  have k3 := fun W (hW : Below w.heap.size w W) => (m_Ball m _ _ i j W (HM.out.below hW)).mono fun e w' h => by rw [← hn] at h; exact otc_ex3 h
  have k4 := fun W (hW : Below w.heap.size w W) => (r_Ball m _ _ i j W (HM.out.below hW)).mono fun e w' h => by rw [← hn] at h; exact otc_ex3 h
  have k5 := fun W v1 v2 (h1 : Sl 3 elOtc W (· < W.heap.size) v1 l) (h2 : Sl 3 elOtc W (· < W.heap.size) v2 l) => law43_equal l v1 v2 _ _ W h1 h2
  have K3 := Lib.hid k3
  have K4 := Lib.hid k4
  have K5 := Lib.hid k5
  have tok0 : True := trivial
  cases hs : smallM m
  · rw [hs] at k2
    have K2 := Lib.hid k2
    clear k2 hs k3 k4 k5 hn hg hb1 h HM
    go_enter Tryz.func6, Tryz.ntmps6
    go_wp2_with (first
      | (clear tok0; go_at_call 9; refine (KAW.out _ HX0.out.1).mono ?_; rintro e w1 ⟨rfl, hb⟩; have HX1 := Lib.hid (⟨HX0.out.1.trans (hb.mono HX0.out.1.size), HX0.out.2.below hb HX0.out.2.lt⟩ : Below w.heap.size w w1 ∧ Blk w1 w.heap.size 36 #[.slice A m.bats.length c, .slice A' m.bows.length c']); obtain ⟨x0, x1, _, _⟩ := HX1.out.2.duo; clear hb; have tok1 : True := trivial)
      | (clear tok1; go_at_call 16; refine (K2.out _ HX1.out.1).mono ?_; rintro e w2 ⟨rfl, hb⟩; have HX2 := Lib.hid (⟨HX1.out.1.trans (hb.mono HX1.out.1.size), HX1.out.2.below hb HX1.out.2.lt⟩ : Below w.heap.size w w2 ∧ Blk w2 w.heap.size 36 #[.slice A m.bats.length c, .slice A' m.bows.length c']); obtain ⟨x0, x1, _, _⟩ := HX2.out.2.duo; clear hb; have tok2 : True := trivial))
    go_ret
    exact ⟨rfl, HX2.out.1⟩
  · rw [hs] at k2
    have K2 := Lib.hid k2
    by_cases h0 : u = 0
    · have hok := ballS_ok (m := m) (i := i) (j := j) (by rw [← hn]; exact h0)
      rw [← hn] at hok
      obtain ⟨hcm, b, bw, i0, i1, j0, j1, hb, hw, hsh, _⟩ := hok
      obtain ⟨a, rfl⟩ : ∃ a : Nat, i = (a : Int) := ⟨i.toNat, by omega⟩
      obtain ⟨e, rfl⟩ : ∃ a : Nat, j = (a : Int) := ⟨j.toNat, by omega⟩
      rw [Int.toNat_natCast] at hb hw
      have ha : a < m.bats.length := by omega
      have he : e < m.bows.length := by omega
      have hb' : m.bats[a] = b := by rw [List.getElem?_eq_getElem ha] at hb; exact Option.some.inj hb
      have hw' : m.bows[e] = bw := by rw [List.getElem?_eq_getElem he] at hw; exact Option.some.inj hw
      obtain ⟨b0, o, v, rfl, hbl, yy0, yy1, hv, hq1⟩ := bat_at HM.out.bat ha
      obtain ⟨b1, o1, rfl, hbl1, ww0, ww1, hq2⟩ := bow_at HM.out.bow he
      rw [hb'] at hv
      rw [hw'] at ww1
      have k6 := fun W (hW : Below w.heap.size w W) => (m_Shift b.dist v bw.shift W (hv.keep elOtc_good (Same.of_below hW) fun b h => Nat.lt_of_lt_of_le h hW.size)).mono fun e w' h => by rw [← hsh] at h; exact otc_ex3 h
      obtain ⟨n, hnn⟩ : ∃ n, n = bw.shift := ⟨_, rfl⟩
      rw [← hnn] at k6 ww1
      have K6 := Lib.hid k6
      subst h0
      have Y1 := Lib.hid yy1
      have W1 := Lib.hid ww1
      have BL := Lib.hid hbl
      have BL1 := Lib.hid hbl1
      clear hq1 hq2 k2 hs k3 k4 k5 k6 hn hnn hg hb1 h HM hcm hb hw hsh ha he hb' hw' yy0 yy1 ww0 ww1 hv hbl hbl1
      go_enter Tryz.func6, Tryz.ntmps6
      go_wp2_with (first
        | (clear tok0; go_at_call 9; refine (KAW.out _ HX0.out.1).mono ?_; rintro e w1 ⟨rfl, hb⟩; have HX1 := Lib.hid (⟨HX0.out.1.trans (hb.mono HX0.out.1.size), HX0.out.2.below hb HX0.out.2.lt⟩ : Below w.heap.size w w1 ∧ Blk w1 w.heap.size 36 #[.slice (some ⟨b0, o, none⟩) m.bats.length c, .slice (some ⟨b1, o1, none⟩) m.bows.length c']); obtain ⟨x0, x1, _, _⟩ := HX1.out.2.duo; clear hb; have tok1 : True := trivial)
        | (clear tok1; go_at_call 16; refine (K2.out _ HX1.out.1).mono ?_; rintro e w2 ⟨rfl, hb⟩; have HX2 := Lib.hid (⟨HX1.out.1.trans (hb.mono HX1.out.1.size), HX1.out.2.below hb HX1.out.2.lt⟩ : Below w.heap.size w w2 ∧ Blk w2 w.heap.size 36 #[.slice (some ⟨b0, o, none⟩) m.bats.length c, .slice (some ⟨b1, o1, none⟩) m.bows.length c']); obtain ⟨x0, x1, _, _⟩ := HX2.out.2.duo; clear hb; have tok2 : True := trivial)
        | (clear tok2; go_at_call 23; refine (K3.out _ HX2.out.1).mono ?_; rintro e3 w3 ⟨A3, n3, c3, rfl, hb, hs3⟩; have HE3 := Lib.hid hs3; have HX3 := Lib.hid (⟨HX2.out.1.trans (hb.mono HX2.out.1.size), HX2.out.2.below hb HX2.out.2.lt⟩ : Below w.heap.size w w3 ∧ Blk w3 w.heap.size 36 #[.slice (some ⟨b0, o, none⟩) m.bats.length c, .slice (some ⟨b1, o1, none⟩) m.bows.length c']); obtain ⟨x0, x1, _, _⟩ := HX3.out.2.duo; clear hb hs3; have tok3 : True := trivial)
        | (clear tok3; go_at_call 24; refine (K4.out _ HX3.out.1).mono ?_; rintro e4 w4 ⟨A4, n4, c4, rfl, hb, hs4⟩; have HS4 := Lib.hid hs4; have HE4 := Lib.hid (sl_on3 HE3.out hb); have HX4 := Lib.hid (⟨HX3.out.1.trans (hb.mono HX3.out.1.size), HX3.out.2.below hb HX3.out.2.lt⟩ : Below w.heap.size w w4 ∧ Blk w4 w.heap.size 36 #[.slice (some ⟨b0, o, none⟩) m.bats.length c, .slice (some ⟨b1, o1, none⟩) m.bows.length c']); obtain ⟨x0, x1, _, _⟩ := HX4.out.2.duo; clear hb hs4; have tok4 : True := trivial)
        | (clear tok4; go_at_call 12; refine (K5.out _ _ _ HE4.out HS4.out).mono ?_; rintro e5 w5 ⟨rfl, hb⟩; have HE5 := Lib.hid (sl_on3 HE4.out hb); have HX5 := Lib.hid (⟨HX4.out.1.trans (hb.mono HX4.out.1.size), HX4.out.2.below hb HX4.out.2.lt⟩ : Below w.heap.size w w5 ∧ Blk w5 w.heap.size 36 #[.slice (some ⟨b0, o, none⟩) m.bats.length c, .slice (some ⟨b1, o1, none⟩) m.bows.length c']); obtain ⟨x0, x1, _, _⟩ := HX5.out.2.duo; clear hb; have tok5 : True := trivial))
      obtain ⟨x0, x1, _, _⟩ := HX5.out.2.duo
      have y1 : w5.cell? ⟨b0, o + a * 2 + 1, none⟩ = some v := (HX5.out.1.cell (p := ⟨b0, o + a * 2 + 1, none⟩) BL.out).trans Y1.out
      have z1 : w5.cell? ⟨b1, o1 + e * 2 + 1, none⟩ = some (.int .i64 n) := (HX5.out.1.cell (p := ⟨b1, o1 + e * 2 + 1, none⟩) BL1.out).trans W1.out
      have HX6 := Lib.hid (⟨Below.drew HX5.out.1, HX5.out.2.drew⟩ : Below w.heap.size w w5.drew ∧ Blk w5.drew w.heap.size 36 #[.slice (some ⟨b0, o, none⟩) m.bats.length c, .slice (some ⟨b1, o1, none⟩) m.bows.length c'])
      have tok6 : True := trivial
      go_region_held3 (fun w' => w'.cell? ⟨w.heap.size, 0, none⟩ = some (.slice (some ⟨b0, o, none⟩) m.bats.length c) ∧ w'.cell? ⟨w.heap.size, 1, none⟩ = some (.slice (some ⟨b1, o1, none⟩) m.bows.length c') ∧ w'.cell? ⟨b0, o + a * 2 + 1, none⟩ = some v ∧ w'.cell? ⟨b1, o1 + e * 2 + 1, none⟩ = some (.int .i64 n)) (first | exact ⟨x0, x1, u2, u3⟩ | exact ⟨x0, x1, y1, z1⟩ | go_keep) ((clear tok6; go_at_call 10; refine (K6.out _ HX6.out.1).mono ?_; rintro e7 w7 ⟨A7, n7, c7, rfl, hb, hs7⟩; have HE7 := Lib.hid (sl_on3 (sl_on3 HE5.out (Below.drew (Below.refl _ _))) hb); have HS7 := Lib.hid hs7; have u2 := (hb.cell (p := ⟨b0, o + a * 2 + 1, none⟩) (Nat.lt_of_lt_of_le BL.out HX6.out.1.size)).trans y1; have u3 := (hb.cell (p := ⟨b1, o1 + e * 2 + 1, none⟩) (Nat.lt_of_lt_of_le BL1.out HX6.out.1.size)).trans z1; have HX7 := Lib.hid (⟨HX6.out.1.trans (hb.mono HX6.out.1.size), HX6.out.2.below hb HX6.out.2.lt⟩ : Below w.heap.size w w7 ∧ Blk w7 w.heap.size 36 #[.slice (some ⟨b0, o, none⟩) m.bats.length c, .slice (some ⟨b1, o1, none⟩) m.bows.length c']); obtain ⟨x0, x1, _, _⟩ := HX7.out.2.duo;  clear hb hs7; have tok7 : True := trivial))
      go_wp2_with (clear tok7; go_at_call 12; refine (K5.out _ _ _ HE7.out HS7.out).mono ?_; rintro e8 w8 ⟨rfl, hb⟩; have HB8 := Lib.hid (HX7.out.1.trans (hb.mono HX7.out.1.size)); clear hb)
      go_ret
      exact ⟨rfl, HB8.out⟩
    · have hne := ballS_bad (m := m) (i := i) (j := j) (by rw [← hn]; exact h0)
      rw [← hn] at hne
      dsimp only at hne
      subst hne
      have eu : (u != 0) = true := by simp [h0]
      have k3n : ∀ W, Below w.heap.size w W → Calls Tryz.prog 23 #[.agg #[.slice A m.bats.length c, .slice A' m.bows.length c'], .int .i64 i, .int .i64 j] W fun e W' => ∃ A c, e = .returned (.tuple #[.slice A 0 c, .int .i64 u]) ∧ Below W.heap.size W W' ∧ Sl 3 elOtc W' (· < W'.heap.size) (.slice A 0 c) [] := fun W hW => (K3.out W hW).mono fun e w' h => by
        obtain ⟨A1, n1, c1, rfl, hb, hs⟩ := h
        obtain ⟨A2, c2, hz, _, _⟩ := hs.shape
        injection hz with z1 z2 z3
        subst z1 z2 z3
        exact ⟨_, _, rfl, hb, hs⟩
      have K3N := Lib.hid k3n
      clear k2 hs k3 k4 k5 k3n K3 hn hg hb1 h HM h0
      go_enter Tryz.func6, Tryz.ntmps6
      go_wp2_with (first
        | (clear tok0; go_at_call 9; refine (KAW.out _ HX0.out.1).mono ?_; rintro e w1 ⟨rfl, hb⟩; have HX1 := Lib.hid (⟨HX0.out.1.trans (hb.mono HX0.out.1.size), HX0.out.2.below hb HX0.out.2.lt⟩ : Below w.heap.size w w1 ∧ Blk w1 w.heap.size 36 #[.slice A m.bats.length c, .slice A' m.bows.length c']); obtain ⟨x0, x1, _, _⟩ := HX1.out.2.duo; clear hb; have tok1 : True := trivial)
        | (clear tok1; go_at_call 16; refine (K2.out _ HX1.out.1).mono ?_; rintro e w2 ⟨rfl, hb⟩; have HX2 := Lib.hid (⟨HX1.out.1.trans (hb.mono HX1.out.1.size), HX1.out.2.below hb HX1.out.2.lt⟩ : Below w.heap.size w w2 ∧ Blk w2 w.heap.size 36 #[.slice A m.bats.length c, .slice A' m.bows.length c']); obtain ⟨x0, x1, _, _⟩ := HX2.out.2.duo; clear hb; have tok2 : True := trivial)
        | (clear tok2; go_at_call 23; refine (K3N.out _ HX2.out.1).mono ?_; rintro e3 w3 ⟨A3, c3, rfl, hb, hs3⟩; have HE3 := Lib.hid hs3; have HX3 := Lib.hid (⟨HX2.out.1.trans (hb.mono HX2.out.1.size), HX2.out.2.below hb HX2.out.2.lt⟩ : Below w.heap.size w w3 ∧ Blk w3 w.heap.size 36 #[.slice A m.bats.length c, .slice A' m.bows.length c']); obtain ⟨x0, x1, _, _⟩ := HX3.out.2.duo; clear hb hs3; have tok3 : True := trivial)
        | (clear tok3; go_at_call 24; refine (K4.out _ HX3.out.1).mono ?_; rintro e4 w4 ⟨A4, n4, c4, rfl, hb, hs4⟩; have HS4 := Lib.hid hs4; have HE4 := Lib.hid (sl_on3 HE3.out hb); have HX4 := Lib.hid (⟨HX3.out.1.trans (hb.mono HX3.out.1.size), HX3.out.2.below hb HX3.out.2.lt⟩ : Below w.heap.size w w4 ∧ Blk w4 w.heap.size 36 #[.slice A m.bats.length c, .slice A' m.bows.length c']); obtain ⟨x0, x1, _, _⟩ := HX4.out.2.duo; clear hb hs4; have tok4 : True := trivial)
        | (clear tok4; go_at_call 12; refine (K5.out _ _ _ HE4.out HS4.out).mono ?_; rintro e5 w5 ⟨rfl, hb⟩; have HE5 := Lib.hid (sl_on3 HE4.out hb); have HX5 := Lib.hid (⟨HX4.out.1.trans (hb.mono HX4.out.1.size), HX4.out.2.below hb HX4.out.2.lt⟩ : Below w.heap.size w w5 ∧ Blk w5 w.heap.size 36 #[.slice A m.bats.length c, .slice A' m.bows.length c']); obtain ⟨x0, x1, _, _⟩ := HX5.out.2.duo; clear hb; have tok5 : True := trivial))
      go_ret
      exact ⟨rfl, HX5.out.1⟩
end Go.Proofs.YticfopjbaoigfaaGreatDoor

namespace Go.Proofs.YticfopjbaoigfaaGreatDoor.modelBalls
open Go.ChangeShapes Go.WideShapes Go.ChangeAt Go.RowKit
open Go.ChangeMaps (open_string)

set_option maxRecDepth 100000 in
theorem contract (H : Type) (enc : TypeId × Value → H) (W : World) (base : Nat) (args : Array Value) (ds gs : List (DataW H)) (before : List MemPlace)
    (hval : ∀ (j : Nat) t v, Tryz.f6.params[j]? = some t → args[j]? = some v → Value.okWide Tryz.prog W .any base t v)
    (hW : DataW.Whole enc Tryz.prog Tryz.f6.params.toList Rows.modelBallsSpec.vars false W args.toList ds gs before) (hsh : W.ShapedOpen Tryz.prog) (hL : laidMet Tryz.prog laidAll W) :
    Calls Tryz.prog 6 args W fun e W' => ∃ v, e = .returned v ∧ Rows.modelBallsSpec.post enc Tryz.prog Tryz.f6 false true false false W args v W' := by
  have hW' := hW
  obtain ⟨p, q, hA0, hV, rfl, hfz, hnd⟩ := hW
  have hA : DataW.TrodAll enc Tryz.prog W 0 (fun _ => true) true Tryz.f6.params.toList args.toList ds p := hA0
  rw [Tryz.params6] at hA hval
  obtain ⟨v0, vs0, d0, ds0, p0, q0, hargs, rfl, rfl, h0, r0⟩ := trodAll_cons hA
  obtain ⟨v1, vs1, d1, ds1, p1, q1, rfl, rfl, rfl, h1, r1⟩ := trodAll_cons r0
  obtain ⟨v2, vs2, d2, ds2, p2, q2, rfl, rfl, rfl, h2, r2⟩ := trodAll_cons r1
  obtain ⟨rfl, rfl, rfl⟩ := trodAll_nil r2
  obtain rfl : args = #[v0, v1, v2] := by cases args; simp_all
  obtain ⟨rfl, rfl⟩ := trodVars_none hV
  clear hA0
  simp only [List.append_nil] at hW'
  have hlt := fun x hx => hW'.lt x hx
  have h0k := h0
  have h1k := h1
  have h2k := h2
  obtain ⟨q0, bv0, wv0, rfl, hl0⟩ := open_model (hval 0 36 v0 rfl rfl) h0
  obtain ⟨x1, rfl, rfl, rfl, wx1⟩ := open_int Tryz.underlying3 (hval 1 3 v1 rfl rfl) h1
  obtain ⟨x2, rfl, rfl, rfl, wx2⟩ := open_int Tryz.underlying3 (hval 2 3 v2 rfl rfl) h2
  refine (law_ModelBalls q0 bv0 wv0 x1 x2 W (globN_of hsh hL) hl0).mono fun e W' ⟨he, hb⟩ => ?_
  subst he
  refine ⟨_, rfl, post_of_below hW' (fun _ _ _ => trodAll_cons_mk (shut_bool Tryz.underlying4 _) trodAll_mk0) (fun sp hsp => trodAll_cons_mk (trod_again laidOut (by kernel_rfl) (of_decide_eq_true (by kernel_rfl)) h0k hb (fun x hx => hlt x (by first | (simp [hx]; done) | cases hx)) (fun x hx => hsp x (by first | (simp [hx]; done) | cases hx))) (trodAll_cons_mk (trod_again laidOut (by kernel_rfl) (of_decide_eq_true (by kernel_rfl)) h1k hb (fun x hx => hlt x (by first | (simp [hx]; done) | cases hx)) (fun x hx => hsp x (by first | (simp [hx]; done) | cases hx))) (trodAll_cons_mk (trod_again laidOut (by kernel_rfl) (of_decide_eq_true (by kernel_rfl)) h2k hb (fun x hx => hlt x (by first | (simp [hx]; done) | cases hx)) (fun x hx => hsp x (by first | (simp [hx]; done) | cases hx))) (trodAll_mk0)))) (fun _ _ => rfl) (by simp) hb (ok_one (by kernel_rfl) rfl (okWide_bool_mk Tryz.underlying4 _))⟩

theorem laid_met (os : Os) : laidMet Tryz.prog Rows.modelBallsRow.laid ((laidWorld os).forCall (fun _ _ => 0) ⟨#[], #[.agg #[.slice none 0 0, .slice none 0 0], .int .i64 0, .int .i64 0], []⟩).memory :=
  laidMet_of_run' 8 (by kernel_rfl) (by kernel_rfl)
theorem reads (os : Os) {H : Type} (enc : TypeId × Value → H) : ∃ places, DataW.whole enc Tryz.prog ((laidWorld os).forCall (fun _ _ => 0) ⟨#[], #[.agg #[.slice none 0 0, .slice none 0 0], .int .i64 0, .int .i64 0], []⟩).memory Tryz.f6.params.toList Rows.modelBallsSpec.vars false (#[.agg #[.slice none 0 0, .slice none 0 0], .int .i64 0, .int .i64 0] : Array Value).toList 8 = some ([.agg [.nil, .nil], .lit (.int .i64 0), .lit (.int .i64 0)], [], places) :=
  ⟨[], by kernel_rfl⟩
set_option maxRecDepth 100000 in
theorem lifted (os : Os) (started : os.Started) (H : Type) (enc : TypeId × Value → H) (F : Stop.Interp) :
    ReturnsInHanded {} Tryz.checked os 6 .any ((OpenSpec.ofChange Rows.modelBallsSpec).preRow enc Tryz.prog Tryz.f6 Rows.modelBallsRow.domain false Rows.modelBallsRow.laid) (((OpenSpec.ofChange Rows.modelBallsSpec).at F).post enc Tryz.prog Tryz.f6 false true false false) := by
  obtain ⟨places, hx⟩ := reads os enc
  refine returnsInHanded_of_row (C := Tryz.checked) (s := OpenSpec.ofChange Rows.modelBallsSpec) own started (by kernel_rfl) Tryz.func6
    (witness_row_at (enc := enc) (C := Tryz.checked) false (laidWorld os) #[.agg #[.slice none 0 0, .slice none 0 0], .int .i64 0, .int .i64 0] rfl (by kernel_rfl) (by kernel_rfl) (by kernel_rfl)
      (OpenSpec.preRow_of_cond 8 hx (by kernel_rfl) (fun k hk => by cases hk) (by kernel_rfl) (laid_met os))) ?_
  intro W base args ds gs before hval hW _ _ _ hL hsh _
  exact contract H enc W base args ds gs before hval hW hsh hL
theorem said : Rows.ModelBallsSaid :=
  OpenClaim.holds_of_cond 6 Tryz.f6 rfl rfl rfl rfl rfl rfl rfl ⟨rfl, rfl, rfl, rfl, rfl⟩ rfl rfl rfl rfl rfl (by kernel_rfl) Tryz.func6 (by kernel_rfl)
    (of_decide_eq_true (by kernel_rfl)) (by unfold Func.isWrapper; first | (rw [if_pos (by decide +kernel)]; kernel_rfl) | (rw [if_neg (by decide +kernel)]; exact ⟨rfl, rfl⟩))
    (fun os started H enc _ F => by rw [OpenClaim.pre_eq_preRow]; exact lifted os started H enc F)
theorem plain (f : FuncId) (fn : Func) (hf : Tryz.pinned.checked.prog.funcNamed Rows.modelBallsRow.func = some f) (hfn : Tryz.pinned.checked.prog.funcs[f]? = some fn) :
    true = Tryz.pinned.checked.prog.looks [] ∧ ∀ (j : Nat) t, fn.params[j]? = some t → Tryz.pinned.checked.prog.wantsStandIn t = false := by
  obtain rfl : f = 6 := Option.some.inj ((show Tryz.prog.funcNamed Rows.modelBallsRow.func = some 6 by kernel_rfl).symm.trans hf) |>.symm
  obtain rfl : fn = Tryz.f6 := (Option.some.inj (Tryz.func6.symm.trans hfn)).symm
  refine ⟨by kernel_rfl, fun j t ht => ?_⟩
  rw [Tryz.params6] at ht
  have ht' : t ∈ [36, 3, 3] := by simpa using Array.mem_of_getElem? ht
  have key : ∀ t ∈ [36, 3, 3], Tryz.prog.wantsStandIn t = false := by
    intro t h
    simp only [List.mem_cons, List.not_mem_nil, or_false] at h
    rcases h with rfl | rfl | rfl
    all_goals kernel_rfl
  exact key t ht'
theorem card : Rows.ModelBallsCardSaid :=
  Claim7.holds_tied_plain_at .later [] _ _ _ _ said (fun _ h => by cases h) (by kernel_rfl) (fun _ h => by cases h) modelBalls_row_tie rfl ⟨rfl, rfl⟩ (by kernel_rfl) rfl plain (by kernel_rfl)
end Go.Proofs.YticfopjbaoigfaaGreatDoor.modelBalls
namespace Go.Proofs.YticfopjbaoigfaaGreatDoor
/-- ModelBalls holds: the card that is the aim. -/
theorem modelBalls_card : Rows.ModelBallsCardSaid := modelBalls.card
end Go.Proofs.YticfopjbaoigfaaGreatDoor

