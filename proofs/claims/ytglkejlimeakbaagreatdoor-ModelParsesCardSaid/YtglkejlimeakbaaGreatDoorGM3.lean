/- Several texts of this family in one: J13 F0 J14 J15 P65 J19 F3 H5 H6 H7 H8 H9 H12 H13 H21 J20 C5 F8 F9 F10 F11 F12. -/
import Derived.Test.YtglkejlimeakbaaGreatDoorGM1
import Derived.Test.YtglkejlimeakbaaGreatDoorGM0
import Derived.Test.YtglkejlimeakbaaGreatDoorGM2
import Derived.Deep.RegionHeld3
import Derived.Deep.AppendSrc
import Derived.Deep.Upon
set_option linter.unusedSimpArgs false
set_option linter.unusedVariables false
namespace Go.Proofs.YtglkejlimeakbaaGreatDoor
open Go.RowKit

theorem S_beq (a b : List UInt8) : (a == b) = decide (a = b) := by by_cases h : a = b <;> simp [h]
set_option maxRecDepth 100000 in
theorem bat_clo (x y : List UInt8) (v : Value) (g : Nat) (w : World) (h : w.cell? ⟨g, 0, none⟩ = some (.string (S x))) (hg : g < w.heap.size) :
    Calls Tryz.prog 125 #[.agg #[.string (S y), v], .pointer (some ⟨g, 0, none⟩)] w fun e w' => e = .returned (.bool (decide (y = x))) ∧ Below w.heap.size w w' := by
  have e1 := S_beq y x
  have hc : (w.alloc (.cells #[.string (S y), v] 82)).cell? ⟨g, 0, none⟩ = some (.string (S x)) := (World.cell?_alloc_lt w _ ⟨g, 0, none⟩ hg).trans h
  clear h
  go_enter Tryz.func125, Tryz.ntmps125
  go_wp2
  go_ret
  exact ⟨rfl, (Below.refl _ _).alloc (Nat.le_refl _) _⟩
theorem bat_drop {l : List Bat} {x : List UInt8} {z : Int} {k : Nat} (hk : k < l.length) (h : z = indexF x ((l.drop k).map (·.name)) k) : z = if l[k].name = x then (k : Int) else indexF x ((l.drop (k + 1)).map (·.name)) (k + 1) := by
  rw [drop_get hk, List.map_cons, indexF] at h; exact h
set_option maxRecDepth 100000 in
set_option maxHeartbeats 2000000 in
theorem bat_IndexFunc (l : List Bat) (lv : Value) (x : List UInt8) (g : Nat) (w : World) (hl : Sl 2 elBat w (· < w.heap.size) lv l) (h : w.cell? ⟨g, 0, none⟩ = some (.string (S x))) (hg : g < w.heap.size) :
    Calls Tryz.prog 124 #[lv, .func (.func 125) #[] #[.pointer (some ⟨g, 0, none⟩)]] w fun e w' => e = .returned (.int .i64 (batI l x)) ∧ Below w.heap.size w w' := by
  obtain ⟨z, hz⟩ : ∃ z, z = batI l x := ⟨_, rfl⟩
  rw [← hz]
  obtain ⟨A, c, rfl, hc, hc2⟩ := hl.shape
  have HZ : Hid (z = indexF x ((l.drop 0).map (·.name)) 0) := hz
  have HL := Lib.hid hl
  have HH := Lib.hid h
  have HG := Lib.hid hg
  have HB := Lib.hid (Below.refl w.heap.size w)
  clear hz hl h hg
  go_enter Tryz.func124, Tryz.ntmps124
  go_wp2
  go_loopw [8] (fun i wr => ∃ k : Nat, k ≤ l.length ∧ i = .int .i64 k ∧ Below w.heap.size w wr ∧ Hid (z = indexF x ((l.drop k).map (·.name)) k)) (fun i _ => l.length - (intOf i).toNat)
  case atStart => exact ⟨0, Nat.zero_le _, rfl, HB.out, HZ⟩
  case round =>
    obtain ⟨k, hk, rfl, hb, hzz⟩ := hrel
    have HBB := Lib.hid hb
    have KC := Lib.hid (fun (y : List UInt8) (v : Value) => bat_clo x y v g wr ((hb.cell (p := ⟨g, 0, none⟩) HG.out).trans HH.out) (Nat.lt_of_lt_of_le HG.out hb.size))
    by_cases hlt : k < l.length
    · obtain ⟨b0, o, v, rfl, hbl, yy0, yy1, _, _⟩ := bat_at HL.out hlt
      have y0 := (hb.cell (p := ⟨b0, o + k * 2, none⟩) hbl).trans yy0
      have y1 := (hb.cell (p := ⟨b0, o + k * 2 + 1, none⟩) hbl).trans yy1
      obtain ⟨p, hp⟩ : ∃ p, p = l[k].name := ⟨_, rfl⟩
      have hz2 := bat_drop hlt hzz.out
      rw [← hp] at hz2 y0
      clear hb hzz hp yy0 yy1
      by_cases hin : p = x
      · rw [if_pos hin] at hz2
        have e1 : decide (p = x) = true := decide_eq_true hin
        have HZZ := Lib.hid hz2
        clear hz2 hin
        go_wp2_with (go_at_call 125; refine (KC.out _ _).mono ?_; rintro e w2 ⟨rfl, hb2⟩; rw [e1]; have HB2 := Lib.hid (HBB.out.trans (hb2.mono HBB.out.size)); clear hb2)
        go_ret
        exact ⟨ret_i HZZ.out.symm, HB2.out⟩
      · rw [if_neg hin] at hz2
        have e1 : decide (p = x) = false := decide_eq_false hin
        have HZZ := Lib.hid hz2
        clear hz2 hin
        go_wp2_with (go_at_call 125; refine (KC.out _ _).mono ?_; rintro e w2 ⟨rfl, hb2⟩; rw [e1]; have HB2 := Lib.hid (HBB.out.trans (hb2.mono HBB.out.size)); clear hb2)
        go_roundw
        case rel => exact ⟨k + 1, by omega, by go_num, HB2.out, HZZ⟩
        case measure => simp [intOf]; omega
    · obtain rfl : k = l.length := by omega
      have hz2 := hzz.out
      rw [List.drop_of_length_le (Nat.le_refl _), List.map_nil, indexF] at hz2
      have HZZ := Lib.hid hz2
      clear hb hzz hz2
      go_wp2
      go_ret
      exact ⟨ret_i HZZ.out.symm, HBB.out⟩
set_option maxRecDepth 100000 in
set_option maxHeartbeats 2000000 in
theorem m_Batter (m : Mdl) (bv wv : Value) (x : List UInt8) (w : World) (h : MdlAt w (· < w.heap.size) bv wv m) :
    Calls Tryz.prog 86 #[.agg #[bv, wv], .string (S x)] w fun e w' => e = .returned (.int .i64 (batI m.bats x)) ∧ Below w.heap.size w w' := by
  obtain ⟨z, hz⟩ : ∃ z, z = batI m.bats x := ⟨_, rfl⟩
  have hb1 : Below w.heap.size w (w.alloc (.cells #[bv, wv] 35)) := Below.alloc (Below.refl _ _) (Nat.le_refl _) _
  have hb2 : Below w.heap.size w ((w.alloc (.cells #[bv, wv] 35)).alloc (.cells #[.string (S x)] 9)) := hb1.alloc hb1.size _
  have hm := h.below hb2
  have hk := bat_IndexFunc m.bats _ x (w.heap.size + 1) _ hm.bat (by have := (Blk.new (w.alloc (.cells #[bv, wv] 35)) 9 #[.string (S x)]).cell 0; rw [World.size_alloc] at this; exact this) (by simp)
  rw [← hz] at hk ⊢
  have HK := Lib.hid hk
  have HB := Lib.hid hb2
  clear hz hb1 hb2 hm hk h
  go_enter Tryz.func86, Tryz.ntmps86
  go_wp2_with (go_at_call 124; refine HK.out.mono ?_; rintro e w2 ⟨rfl, hb⟩; have HB2 := Lib.hid (HB.out.trans (hb.mono HB.out.size)); clear hb)
  go_ret
  exact ⟨rfl, HB2.out⟩
set_option maxRecDepth 100000 in
set_option maxHeartbeats 2000000 in
theorem r_Batter (m : Mdl) (bv wv : Value) (x : List UInt8) (w : World) (h : MdlAt w (· < w.heap.size) bv wv m) :
    Calls Tryz.prog 92 #[.agg #[bv, wv], .string (S x)] w fun e w' => e = .returned (.int .i64 (batI m.bats x)) ∧ Below w.heap.size w w' := by
  obtain ⟨z, hz⟩ : ∃ z, z = batI m.bats x := ⟨_, rfl⟩
  rw [← hz]
  have hl := h.bat
  obtain ⟨l, hle⟩ : ∃ l, l = m.bats := ⟨_, rfl⟩
  rw [← hle] at hz hl
  clear h hle
  obtain ⟨vv, hvv⟩ : ∃ vv, vv = bv := ⟨_, rfl⟩
  rw [← hvv] at hl
  obtain ⟨A, c, hA, hc, hc2⟩ := hl.shape
  rw [hA] at hvv hl
  subst hvv
  clear hA
  have HZ : Hid (z = indexF x ((l.drop 0).map (·.name)) 0) := hz
  have HL := Lib.hid hl
  have HB := Lib.hid ((Below.refl w.heap.size w).alloc (Nat.le_refl _) (.cells #[.slice A l.length c, wv] 35))
  clear hz hl
  go_enter Tryz.func92, Tryz.ntmps92
  go_wp2
  go_loopw [10] (fun i wr => ∃ k : Nat, k ≤ l.length ∧ i = .int .i64 k ∧ Below w.heap.size w wr ∧ Hid (z = indexF x ((l.drop k).map (·.name)) k)) (fun i _ => l.length - (intOf i).toNat)
  case atStart => exact ⟨0, Nat.zero_le _, rfl, HB.out, HZ⟩
  case round =>
    obtain ⟨k, hk, rfl, hb, hzz⟩ := hrel
    have HBB := Lib.hid hb
    by_cases hlt : k < l.length
    · obtain ⟨b0, o, v, rfl, hbl, yy0, yy1, hv, _⟩ := bat_at HL.out hlt
      obtain ⟨A2, c2, hve, _, _⟩ := hv.shape
      obtain ⟨n2, hn2⟩ : ∃ n, n = l[k].dist.length := ⟨_, rfl⟩
      rw [← hn2] at hve
      subst hve
      have y0 := (hb.cell (p := ⟨b0, o + k * 2, none⟩) hbl).trans yy0
      have y1 := (hb.cell (p := ⟨b0, o + k * 2 + 1, none⟩) hbl).trans yy1
      obtain ⟨p, hp⟩ : ∃ p, p = l[k].name := ⟨_, rfl⟩
      have hz2 := bat_drop hlt hzz.out
      rw [← hp] at hz2 y0
      have e0 := S_beq p x
      clear hb hzz hp yy0 yy1 hv hn2
      by_cases hin : p = x
      · rw [if_pos hin] at hz2
        rw [decide_eq_true hin] at e0
        have HZZ := Lib.hid hz2
        clear hz2 hin
        go_wp2
        go_ret
        exact ⟨ret_i HZZ.out.symm, HBB.out.alloc HBB.out.size _⟩
      · rw [if_neg hin] at hz2
        rw [decide_eq_false hin] at e0
        have HZZ := Lib.hid hz2
        clear hz2 hin
        go_wp2
        go_roundw
        case rel => exact ⟨k + 1, by omega, by go_num, HBB.out.alloc HBB.out.size _, HZZ⟩
        case measure => simp [intOf]; omega
    · obtain rfl : k = l.length := by omega
      have hz2 := hzz.out
      rw [List.drop_of_length_le (Nat.le_refl _), List.map_nil, indexF] at hz2
      have HZZ := Lib.hid hz2
      clear hb hzz hz2
      go_wp2
      go_ret
      exact ⟨ret_i HZZ.out.symm, HBB.out⟩
set_option maxRecDepth 100000 in
theorem bow_clo (x y : List UInt8) (v : Value) (g : Nat) (w : World) (h : w.cell? ⟨g, 0, none⟩ = some (.string (S x))) (hg : g < w.heap.size) :
    Calls Tryz.prog 127 #[.agg #[.string (S y), v], .pointer (some ⟨g, 0, none⟩)] w fun e w' => e = .returned (.bool (decide (y = x))) ∧ Below w.heap.size w w' := by
  have e1 := S_beq y x
  have hc : (w.alloc (.cells #[.string (S y), v] 85)).cell? ⟨g, 0, none⟩ = some (.string (S x)) := (World.cell?_alloc_lt w _ ⟨g, 0, none⟩ hg).trans h
  clear h
  go_enter Tryz.func127, Tryz.ntmps127
  go_wp2
  go_ret
  exact ⟨rfl, (Below.refl _ _).alloc (Nat.le_refl _) _⟩
theorem bow_drop {l : List Bow} {x : List UInt8} {z : Int} {k : Nat} (hk : k < l.length) (h : z = indexF x ((l.drop k).map (·.name)) k) : z = if l[k].name = x then (k : Int) else indexF x ((l.drop (k + 1)).map (·.name)) (k + 1) := by
  rw [drop_get hk, List.map_cons, indexF] at h; exact h
set_option maxRecDepth 100000 in
set_option maxHeartbeats 2000000 in
theorem bow_IndexFunc (l : List Bow) (lv : Value) (x : List UInt8) (g : Nat) (w : World) (hl : Sl 2 elBow w (· < w.heap.size) lv l) (h : w.cell? ⟨g, 0, none⟩ = some (.string (S x))) (hg : g < w.heap.size) :
    Calls Tryz.prog 126 #[lv, .func (.func 127) #[] #[.pointer (some ⟨g, 0, none⟩)]] w fun e w' => e = .returned (.int .i64 (bowI l x)) ∧ Below w.heap.size w w' := by
  obtain ⟨z, hz⟩ : ∃ z, z = bowI l x := ⟨_, rfl⟩
  rw [← hz]
  obtain ⟨A, c, rfl, hc, hc2⟩ := hl.shape
  have HZ : Hid (z = indexF x ((l.drop 0).map (·.name)) 0) := hz
  have HL := Lib.hid hl
  have HH := Lib.hid h
  have HG := Lib.hid hg
  have HB := Lib.hid (Below.refl w.heap.size w)
  clear hz hl h hg
  go_enter Tryz.func126, Tryz.ntmps126
  go_wp2
  go_loopw [8] (fun i wr => ∃ k : Nat, k ≤ l.length ∧ i = .int .i64 k ∧ Below w.heap.size w wr ∧ Hid (z = indexF x ((l.drop k).map (·.name)) k)) (fun i _ => l.length - (intOf i).toNat)
  case atStart => exact ⟨0, Nat.zero_le _, rfl, HB.out, HZ⟩
  case round =>
    obtain ⟨k, hk, rfl, hb, hzz⟩ := hrel
    have HBB := Lib.hid hb
    have KC := Lib.hid (fun (y : List UInt8) (v : Value) => bow_clo x y v g wr ((hb.cell (p := ⟨g, 0, none⟩) HG.out).trans HH.out) (Nat.lt_of_lt_of_le HG.out hb.size))
    by_cases hlt : k < l.length
    · obtain ⟨b0, o, rfl, hbl, yy0, yy1, _⟩ := bow_at HL.out hlt
      have y0 := (hb.cell (p := ⟨b0, o + k * 2, none⟩) hbl).trans yy0
      have y1 := (hb.cell (p := ⟨b0, o + k * 2 + 1, none⟩) hbl).trans yy1
      obtain ⟨sh, hsh⟩ : ∃ s, s = l[k].shift := ⟨_, rfl⟩
      rw [← hsh] at y1
      obtain ⟨p, hp⟩ : ∃ p, p = l[k].name := ⟨_, rfl⟩
      have hz2 := bow_drop hlt hzz.out
      rw [← hp] at hz2 y0
      clear hb hzz hp yy0 yy1 hsh
      by_cases hin : p = x
      · rw [if_pos hin] at hz2
        have e1 : decide (p = x) = true := decide_eq_true hin
        have HZZ := Lib.hid hz2
        clear hz2 hin
        go_wp2_with (go_at_call 127; refine (KC.out _ _).mono ?_; rintro e w2 ⟨rfl, hb2⟩; rw [e1]; have HB2 := Lib.hid (HBB.out.trans (hb2.mono HBB.out.size)); clear hb2)
        go_ret
        exact ⟨ret_i HZZ.out.symm, HB2.out⟩
      · rw [if_neg hin] at hz2
        have e1 : decide (p = x) = false := decide_eq_false hin
        have HZZ := Lib.hid hz2
        clear hz2 hin
        go_wp2_with (go_at_call 127; refine (KC.out _ _).mono ?_; rintro e w2 ⟨rfl, hb2⟩; rw [e1]; have HB2 := Lib.hid (HBB.out.trans (hb2.mono HBB.out.size)); clear hb2)
        go_roundw
        case rel => exact ⟨k + 1, by omega, by go_num, HB2.out, HZZ⟩
        case measure => simp [intOf]; omega
    · obtain rfl : k = l.length := by omega
      have hz2 := hzz.out
      rw [List.drop_of_length_le (Nat.le_refl _), List.map_nil, indexF] at hz2
      have HZZ := Lib.hid hz2
      clear hb hzz hz2
      go_wp2
      go_ret
      exact ⟨ret_i HZZ.out.symm, HBB.out⟩
set_option maxRecDepth 100000 in
set_option maxHeartbeats 2000000 in
theorem m_Bowler (m : Mdl) (bv wv : Value) (x : List UInt8) (w : World) (h : MdlAt w (· < w.heap.size) bv wv m) :
    Calls Tryz.prog 87 #[.agg #[bv, wv], .string (S x)] w fun e w' => e = .returned (.int .i64 (bowI m.bows x)) ∧ Below w.heap.size w w' := by
  obtain ⟨z, hz⟩ : ∃ z, z = bowI m.bows x := ⟨_, rfl⟩
  have hb1 : Below w.heap.size w (w.alloc (.cells #[bv, wv] 35)) := Below.alloc (Below.refl _ _) (Nat.le_refl _) _
  have hb2 : Below w.heap.size w ((w.alloc (.cells #[bv, wv] 35)).alloc (.cells #[.string (S x)] 9)) := hb1.alloc hb1.size _
  have hm := h.below hb2
  have hk := bow_IndexFunc m.bows _ x (w.heap.size + 1) _ hm.bow (by have := (Blk.new (w.alloc (.cells #[bv, wv] 35)) 9 #[.string (S x)]).cell 0; rw [World.size_alloc] at this; exact this) (by simp)
  rw [← hz] at hk ⊢
  have HK := Lib.hid hk
  have HB := Lib.hid hb2
  clear hz hb1 hb2 hm hk h
  go_enter Tryz.func87, Tryz.ntmps87
  go_wp2_with (go_at_call 126; refine HK.out.mono ?_; rintro e w2 ⟨rfl, hb⟩; have HB2 := Lib.hid (HB.out.trans (hb.mono HB.out.size)); clear hb)
  go_ret
  exact ⟨rfl, HB2.out⟩
set_option maxRecDepth 100000 in
set_option maxHeartbeats 2000000 in
theorem r_Bowler (m : Mdl) (bv wv : Value) (x : List UInt8) (w : World) (h : MdlAt w (· < w.heap.size) bv wv m) :
    Calls Tryz.prog 94 #[.agg #[bv, wv], .string (S x)] w fun e w' => e = .returned (.int .i64 (bowI m.bows x)) ∧ Below w.heap.size w w' := by
  obtain ⟨z, hz⟩ : ∃ z, z = bowI m.bows x := ⟨_, rfl⟩
  rw [← hz]
  have hl := h.bow
  obtain ⟨l, hle⟩ : ∃ l, l = m.bows := ⟨_, rfl⟩
  rw [← hle] at hz hl
  clear h hle
  obtain ⟨vv, hvv⟩ : ∃ vv, vv = wv := ⟨_, rfl⟩
  rw [← hvv] at hl
  obtain ⟨A, c, hA, hc, hc2⟩ := hl.shape
  rw [hA] at hvv hl
  subst hvv
  clear hA
  have HZ : Hid (z = indexF x ((l.drop 0).map (·.name)) 0) := hz
  have HL := Lib.hid hl
  have HB := Lib.hid ((Below.refl w.heap.size w).alloc (Nat.le_refl _) (.cells #[bv, .slice A l.length c] 35))
  clear hz hl
  go_enter Tryz.func94, Tryz.ntmps94
  go_wp2
  go_loopw [10] (fun i wr => ∃ k : Nat, k ≤ l.length ∧ i = .int .i64 k ∧ Below w.heap.size w wr ∧ Hid (z = indexF x ((l.drop k).map (·.name)) k)) (fun i _ => l.length - (intOf i).toNat)
  case atStart => exact ⟨0, Nat.zero_le _, rfl, HB.out, HZ⟩
  case round =>
    obtain ⟨k, hk, rfl, hb, hzz⟩ := hrel
    have HBB := Lib.hid hb
    by_cases hlt : k < l.length
    · obtain ⟨b0, o, rfl, hbl, yy0, yy1, _⟩ := bow_at HL.out hlt
      have y0 := (hb.cell (p := ⟨b0, o + k * 2, none⟩) hbl).trans yy0
      have y1 := (hb.cell (p := ⟨b0, o + k * 2 + 1, none⟩) hbl).trans yy1
      obtain ⟨sh, hsh⟩ : ∃ s, s = l[k].shift := ⟨_, rfl⟩
      rw [← hsh] at y1
      obtain ⟨p, hp⟩ : ∃ p, p = l[k].name := ⟨_, rfl⟩
      have hz2 := bow_drop hlt hzz.out
      rw [← hp] at hz2 y0
      have e0 := S_beq p x
      clear hb hzz hp yy0 yy1 hsh
      by_cases hin : p = x
      · rw [if_pos hin] at hz2
        rw [decide_eq_true hin] at e0
        have HZZ := Lib.hid hz2
        clear hz2 hin
        go_wp2
        go_ret
        exact ⟨ret_i HZZ.out.symm, HBB.out.alloc HBB.out.size _⟩
      · rw [if_neg hin] at hz2
        rw [decide_eq_false hin] at e0
        have HZZ := Lib.hid hz2
        clear hz2 hin
        go_wp2
        go_roundw
        case rel => exact ⟨k + 1, by omega, by go_num, HBB.out.alloc HBB.out.size _, HZZ⟩
        case measure => simp [intOf]; omega
    · obtain rfl : k = l.length := by omega
      have hz2 := hzz.out
      rw [List.drop_of_length_le (Nat.le_refl _), List.map_nil, indexF] at hz2
      have HZZ := Lib.hid hz2
      clear hb hzz hz2
      go_wp2
      go_ret
      exact ⟨ret_i HZZ.out.symm, HBB.out⟩
end Go.Proofs.YtglkejlimeakbaaGreatDoor

namespace Go.Proofs.YtglkejlimeakbaaGreatDoor
open Go.RowKit

set_option maxRecDepth 100000 in
set_option maxHeartbeats 4000000 in
theorem ref_Name (s : ByteArray) (w : World) (hs : s.size ≤ maxLen) :
    Calls Tryz.prog 73 #[.string s] w fun e w' => e = .returned (.bool (nameS s.data.toList)) ∧ w' = w := by
  unfold maxLen at hs
  have hb : ∀ b, (nameS s.data.toList = b) → nameS s.data.toList = b := fun _ h => h
  by_cases hz : s.size = 0
  · have e0 : s.toList.isEmpty = true := by rw [ByteArray.toList_eq, List.isEmpty_iff, ← List.length_eq_zero_iff]; simpa using hz
    have hn : nameS s.data.toList = false := by rw [Bool.eq_false_iff]; intro h; have := (nameS_eq _).1 h; have h1 := this.2.1; simp at h1; omega
    have HN := Lib.hid hn
    clear hn hb hz
    go_enter Tryz.func73, Tryz.ntmps73
    go_wp2
    go_ret
    exact ⟨ret_b HN.out.symm, rfl⟩
  · have e0 : s.toList.isEmpty = false := by rw [Bool.eq_false_iff]; intro h; rw [ByteArray.toList_eq, List.isEmpty_iff, ← List.length_eq_zero_iff] at h; exact hz (by simpa using h)
    by_cases h16 : (16 : Int) < (s.size : Int)
    · have hn : nameS s.data.toList = false := by rw [Bool.eq_false_iff]; intro h; have := (nameS_eq _).1 h; have h1 := this.2.2; simp at h1; omega
      have HN := Lib.hid hn
      clear hn hb hz
      go_enter Tryz.func73, Tryz.ntmps73
      go_wp2
      go_ret
      exact ⟨ret_b HN.out.symm, rfl⟩
    · have h16' : (s.size : Int) ≤ 16 := by omega
      have HZ := Lib.hid hz
      clear hb hz
      go_enter Tryz.func73, Tryz.ntmps73
      go_wp2
      go_loop [3] (fun i => ∃ k : Nat, k ≤ s.size ∧ i = .int .i64 k ∧ Hid (∀ j, j < k → nameOk s.data.toList j = true)) (fun i => s.size - (intOf i).toNat)
      case atStart => exact ⟨0, Nat.zero_le _, rfl, fun j hj => absurd hj (by omega)⟩
      case round =>
        obtain ⟨k, hk, rfl, hall⟩ := hrel
        by_cases hlt : k < s.size
        · have hbad := Lib.hid (nameS_bad s k hlt)
          have hat := Lib.hid (nameOk_at s k hlt)
          rcases Nat.eq_zero_or_pos k with h0 | h0
          · have hzk : ((k : Int) == 0) = true := by rw [h0]; rfl
            have h0' := Lib.hid h0
            clear h0
            rcases (show (s[k].toNat : Int) < 65 ∨ (65 ≤ (s[k].toNat : Int) ∧ (s[k].toNat : Int) ≤ 90) ∨ 90 < (s[k].toNat : Int) from by omega) with hc | ⟨hc, hc'⟩ | hc
            all_goals ((first | (have e1 : decide ((65 : Int) ≤ (s[k].toNat : Int)) = true := decide_eq_true (by omega)) | (have e1 : decide ((65 : Int) ≤ (s[k].toNat : Int)) = false := decide_eq_false (by omega))); (first | (have e2 : decide ((s[k].toNat : Int) ≤ (90 : Int)) = true := decide_eq_true (by omega)) | (have e2 : decide ((s[k].toNat : Int) ≤ (90 : Int)) = false := decide_eq_false (by omega))); go_wp2)
            all_goals first
              | (go_ret; exact ⟨ret_b (hbad.out (by rw [hat.out, if_pos h0'.out, letterB_iff, decide_eq_false_iff_not]; omega)).symm, rfl⟩)
              | (go_round
                 case rel => exact ⟨k + 1, by omega, by go_num, nameOk_next hall hat.out (by rw [if_pos h0'.out, letterB_iff, decide_eq_true_eq]; omega)⟩
                 case measure => simp [intOf]; omega)
          · have hzk : ((k : Int) == 0) = false := by simp; omega
            rcases (show (s[k].toNat : Int) < 45 ∨ (45 ≤ (s[k].toNat : Int) ∧ (s[k].toNat : Int) ≤ 45) ∨ (46 ≤ (s[k].toNat : Int) ∧ (s[k].toNat : Int) ≤ 47) ∨ (48 ≤ (s[k].toNat : Int) ∧ (s[k].toNat : Int) ≤ 57) ∨ (58 ≤ (s[k].toNat : Int) ∧ (s[k].toNat : Int) ≤ 64) ∨ (65 ≤ (s[k].toNat : Int) ∧ (s[k].toNat : Int) ≤ 90) ∨ (91 ≤ (s[k].toNat : Int) ∧ (s[k].toNat : Int) ≤ 94) ∨ (95 ≤ (s[k].toNat : Int) ∧ (s[k].toNat : Int) ≤ 95) ∨ 95 < (s[k].toNat : Int) from by omega) with hc | ⟨hc, hc'⟩ | ⟨hc, hc'⟩ | ⟨hc, hc'⟩ | ⟨hc, hc'⟩ | ⟨hc, hc'⟩ | ⟨hc, hc'⟩ | ⟨hc, hc'⟩ | hc
            all_goals ((first | (have e1 : decide ((65 : Int) ≤ (s[k].toNat : Int)) = true := decide_eq_true (by omega)) | (have e1 : decide ((65 : Int) ≤ (s[k].toNat : Int)) = false := decide_eq_false (by omega))); (first | (have e2 : decide ((s[k].toNat : Int) ≤ (90 : Int)) = true := decide_eq_true (by omega)) | (have e2 : decide ((s[k].toNat : Int) ≤ (90 : Int)) = false := decide_eq_false (by omega))); (first | (have e3 : ((s[k].toNat : Int) != (95 : Int)) = true := by rw [bne_iff_ne]; omega) | (have e3 : ((s[k].toNat : Int) != (95 : Int)) = false := by rw [bne_eq_false_iff_eq]; omega)); (first | (have e4 : ((s[k].toNat : Int) != (45 : Int)) = true := by rw [bne_iff_ne]; omega) | (have e4 : ((s[k].toNat : Int) != (45 : Int)) = false := by rw [bne_eq_false_iff_eq]; omega)); (first | (have e5 : decide ((s[k].toNat : Int) < (48 : Int)) = true := decide_eq_true (by omega)) | (have e5 : decide ((s[k].toNat : Int) < (48 : Int)) = false := decide_eq_false (by omega))); (first | (have e6 : decide ((57 : Int) < (s[k].toNat : Int)) = true := decide_eq_true (by omega)) | (have e6 : decide ((57 : Int) < (s[k].toNat : Int)) = false := decide_eq_false (by omega))); go_wp2)
            all_goals first
              | (go_ret; exact ⟨ret_b (hbad.out (by rw [hat.out, if_neg (by omega), tailB_iff, decide_eq_false_iff_not]; omega)).symm, rfl⟩)
              | (go_round
                 case rel => exact ⟨k + 1, by omega, by go_num, nameOk_next hall hat.out (by rw [if_neg (by omega), tailB_iff, decide_eq_true_eq]; omega)⟩
                 case measure => simp [intOf]; omega)

        · obtain rfl : k = s.size := by omega
          have hn : nameS s.data.toList = true := by
            rw [nameS_end s hall.out]
            have := HZ.out
            simp; omega
          have HN := Lib.hid hn
          clear hn
          go_wp2
          go_ret
          exact ⟨ret_b HN.out.symm, rfl⟩

end Go.Proofs.YtglkejlimeakbaaGreatDoor

namespace Go.Proofs.YtglkejlimeakbaaGreatDoor
open Go.RowKit

/-- A model boxed in block g, a copy of an element in block B. -/
structure TwoM (w W : World) (g B : Nat) (t : TypeId) (bv wv x v : Value) : Prop where
  bel : Below w.heap.size w W
  box : Blk W g 35 #[bv, wv]
  el : Blk W B t #[x, v]
theorem Blk.duo {w : World} {g : Nat} {t : TypeId} {a b : Value} (h : Blk w g t #[a, b]) : w.cell? ⟨g, 0, none⟩ = some a ∧ w.cell? ⟨g, 1, none⟩ = some b ∧ w.frozen? ⟨g, 0, none⟩ = false ∧ w.frozen? ⟨g, 1, none⟩ = false := ⟨h.cell 0, h.cell 1, h.frozen 0, h.frozen 1⟩
theorem TwoM.below {w W W' : World} {g B : Nat} {t : TypeId} {bv wv x v : Value} (h : TwoM w W g B t bv wv x v) (hb : Below W.heap.size W W') : TwoM w W' g B t bv wv x v := ⟨h.bel.trans (hb.mono h.bel.size), h.box.below hb h.box.lt, h.el.below hb h.el.lt⟩
theorem TwoM.cells {w W : World} {g B : Nat} {t : TypeId} {bv wv x v : Value} (h : TwoM w W g B t bv wv x v) : W.cell? ⟨g, 0, none⟩ = some bv ∧ W.cell? ⟨g, 1, none⟩ = some wv ∧ W.cell? ⟨B, 0, none⟩ = some x ∧ W.cell? ⟨B, 1, none⟩ = some v := ⟨h.box.duo.1, h.box.duo.2.1, h.el.duo.1, h.el.duo.2.1⟩
theorem TwoM.new {w W : World} {g : Nat} {bv wv : Value} (hb : Below w.heap.size w W) (hx : Blk W g 35 #[bv, wv]) (t : TypeId) (x v : Value) : TwoM w (W.alloc (.cells #[x, v] t)) g W.heap.size t bv wv x v := ⟨hb.alloc hb.size _, hx.alloc _, Blk.new _ _ _⟩
theorem bat_ways (pre : List (List UInt8)) (b : Bat) : (nameS b.name = false ∧ batErr pre b = 5) ∨ (nameS b.name = true ∧ decide (b.name ∈ pre) = true ∧ batErr pre b = 7) ∨ (nameS b.name = true ∧ decide (b.name ∈ pre) = false ∧ batErr pre b = checkD b.dist) := by
  unfold batErr
  cases h1 : nameS b.name
  · exact .inl ⟨rfl, by simp⟩
  · by_cases h2 : b.name ∈ pre
    · exact .inr (.inl ⟨rfl, by simp [h2], by rw [if_neg (by simp), if_pos h2]⟩)
    · exact .inr (.inr ⟨rfl, by simp [h2], by rw [if_neg (by simp), if_neg h2]⟩)
theorem bow_ways (pre : List (List UInt8)) (b : Bow) : (nameS b.name = false ∧ bowErr pre b = 5) ∨ (nameS b.name = true ∧ decide (b.name ∈ pre) = true ∧ bowErr pre b = 7) ∨ (nameS b.name = true ∧ decide (b.name ∈ pre) = false ∧ b.shift < -12 ∧ bowErr pre b = 2) ∨ (nameS b.name = true ∧ decide (b.name ∈ pre) = false ∧ ¬ b.shift < -12 ∧ 12 < b.shift ∧ bowErr pre b = 2) ∨ (nameS b.name = true ∧ decide (b.name ∈ pre) = false ∧ ¬ b.shift < -12 ∧ ¬ 12 < b.shift ∧ bowErr pre b = 0) := by
  unfold bowErr
  cases h1 : nameS b.name
  · exact .inl ⟨rfl, by simp⟩
  · by_cases h2 : b.name ∈ pre
    · exact .inr (.inl ⟨rfl, by simp [h2], by rw [if_neg (by simp), if_pos h2]⟩)
    · by_cases h3 : b.shift < -12
      · exact .inr (.inr (.inl ⟨rfl, by simp [h2], h3, by rw [if_neg (by simp), if_neg h2, if_pos (.inl h3)]⟩))
      · by_cases h4 : 12 < b.shift
        · exact .inr (.inr (.inr (.inl ⟨rfl, by simp [h2], h3, h4, by rw [if_neg (by simp), if_neg h2, if_pos (.inr h4)]⟩)))
        · exact .inr (.inr (.inr (.inr ⟨rfl, by simp [h2], h3, h4, by rw [if_neg (by simp), if_neg h2, if_neg (by omega)]⟩)))
/-- What is left of a check: the batters from k on, then the bowlers. -/
def restM (m : Mdl) (k : Nat) : Int := if batsF ((m.bats.take k).map (·.name)) (m.bats.drop k) ≠ 0 then batsF ((m.bats.take k).map (·.name)) (m.bats.drop k) else bowsF [] m.bows
def restW (m : Mdl) (k : Nat) : Int := bowsF ((m.bows.take k).map (·.name)) (m.bows.drop k)
theorem restM_at {m : Mdl} {k : Nat} (hk : k < m.bats.length) : restM m k = if batErr ((m.bats.take k).map (·.name)) m.bats[k] ≠ 0 then batErr ((m.bats.take k).map (·.name)) m.bats[k] else restM m (k + 1) := by
  unfold restM
  rw [batsF_at hk]
  by_cases h : batErr ((m.bats.take k).map (·.name)) m.bats[k] ≠ 0
  · simp only [if_pos h]
  · rw [if_neg h, if_neg h]
theorem restM_end {m : Mdl} : restM m m.bats.length = restW m 0 := by
  unfold restM restW
  rw [List.drop_of_length_le (Nat.le_refl _), batsF, if_neg (by simp)]
  simp
theorem restW_at {m : Mdl} {k : Nat} (hk : k < m.bows.length) : restW m k = if bowErr ((m.bows.take k).map (·.name)) m.bows[k] ≠ 0 then bowErr ((m.bows.take k).map (·.name)) m.bows[k] else restW m (k + 1) := bowsF_at hk
theorem restW_end {m : Mdl} : restW m m.bows.length = 0 := by
  unfold restW
  rw [List.drop_of_length_le (Nat.le_refl _), bowsF]
theorem checkM_rest {m : Mdl} (h1 : ¬ (m.bats.length = 0 ∨ m.bows.length = 0)) (h2 : ¬ (11 < m.bats.length ∨ 11 < m.bows.length)) : checkM m = restM m 0 := by
  unfold checkM restM
  rw [if_neg h1, if_neg h2]; simp
set_option maxRecDepth 100000 in
set_option maxHeartbeats 4000000 in
theorem m_Check (m : Mdl) (bv wv : Value) (w : World) (h : MdlAt w (· < w.heap.size) bv wv m) :
    Calls Tryz.prog 41 #[.agg #[bv, wv]] w fun e w' => e = .returned (.int .i64 (checkM m)) ∧ Below w.heap.size w w' := by
  obtain ⟨z, hz⟩ : ∃ z, z = checkM m := ⟨_, rfl⟩
  rw [← hz]
  obtain ⟨A, c, rfl, hc, hc2⟩ := h.bat.shape
  obtain ⟨A', c', rfl, hc', hc2'⟩ := h.bow.shape
  have HM := Lib.hid h
  have hb1 : Below w.heap.size w (w.alloc (.cells #[.slice A m.bats.length c, .slice A' m.bows.length c'] 35)) := Below.alloc (Below.refl _ _) (Nat.le_refl _) _
  have hx1 := Blk.new w 35 #[.slice A m.bats.length c, .slice A' m.bows.length c']
  by_cases h1 : m.bats.length = 0 ∨ m.bows.length = 0
  · have HZ := Lib.hid (show z = 6 by rw [hz]; unfold checkM; rw [if_pos h1])
    have HB1 := Lib.hid hb1
    clear hz h hb1 hx1
    by_cases h2 : m.bats.length = 0
    · have e1 : ((m.bats.length : Int) == 0) = true := beq_iff_eq.2 (by omega)
      have h3 := Lib.hid h2
      clear h1 h2
      go_enter Tryz.func41, Tryz.ntmps41
      go_wp2
      go_ret
      exact ⟨ret_i HZ.out.symm, HB1.out⟩
    · have e1 : ((m.bats.length : Int) == 0) = false := beq_eq_false_iff_ne.2 (by omega)
      have e2 : ((m.bows.length : Int) == 0) = true := beq_iff_eq.2 (by omega)
      have h3 := Lib.hid h2
      clear h1 h2
      go_enter Tryz.func41, Tryz.ntmps41
      go_wp2
      go_ret
      exact ⟨ret_i HZ.out.symm, HB1.out⟩
  have e1 : ((m.bats.length : Int) == 0) = false := beq_eq_false_iff_ne.2 (by omega)
  have e2 : ((m.bows.length : Int) == 0) = false := beq_eq_false_iff_ne.2 (by omega)
  by_cases h2 : 11 < m.bats.length ∨ 11 < m.bows.length
  · have HZ := Lib.hid (show z = 9 by rw [hz]; unfold checkM; rw [if_neg h1, if_pos h2])
    have HB1 := Lib.hid hb1
    clear hz h hb1 hx1 h1
    by_cases h3 : 11 < m.bats.length
    · have e3 : (11 : Int) < (m.bats.length : Int) := by omega
      clear h2 h3
      go_enter Tryz.func41, Tryz.ntmps41
      go_wp2
      go_ret
      exact ⟨ret_i HZ.out.symm, HB1.out⟩
    · have e3 : ¬ (11 : Int) < (m.bats.length : Int) := by omega
      have e4 : (11 : Int) < (m.bows.length : Int) := by omega
      clear h2 h3
      go_enter Tryz.func41, Tryz.ntmps41
      go_wp2
      go_ret
      exact ⟨ret_i HZ.out.symm, HB1.out⟩
  have HZ0 := Lib.hid (show z = restM m 0 by rw [hz, checkM_rest h1 h2])
  have e3 : ¬ (11 : Int) < (m.bats.length : Int) := by omega
  have e4 : ¬ (11 : Int) < (m.bows.length : Int) := by omega
  have HB1 := Lib.hid hb1
  have HX1 := Lib.hid hx1
  clear hz h hb1 hx1 h1 h2
  go_enter Tryz.func41, Tryz.ntmps41
  go_wp2
  go_loopw [33] (fun i wr => ∃ k : Nat, k ≤ m.bats.length ∧ i = .int .i64 k ∧ Hid (Below w.heap.size w wr ∧ Blk wr w.heap.size 35 #[.slice A m.bats.length c, .slice A' m.bows.length c']) ∧ Hid (z = restM m k)) (fun i _ => m.bats.length - (intOf i).toNat)
  case atStart => exact ⟨0, Nat.zero_le _, rfl, Lib.hid ⟨HB1.out, HX1.out⟩, HZ0⟩
  case round =>
    clear HB1 HX1
    obtain ⟨k, hk, rfl, HW, hzz⟩ := hrel
    obtain ⟨r0, r1, _, _⟩ := HW.out.2.duo
    by_cases hlt : k < m.bats.length
    · obtain ⟨b0, o, v, rfl, hbl, yy0, yy1, hv, hpl⟩ := bat_at HM.out.bat hlt
      have y0 := (HW.out.1.cell (p := ⟨b0, o + k * 2, none⟩) hbl).trans yy0
      have y1 := (HW.out.1.cell (p := ⟨b0, o + k * 2 + 1, none⟩) hbl).trans yy1
      have hz2 := hzz.out
      rw [restM_at hlt] at hz2
      have hbf := batI_before hlt
      have hw := bat_ways ((m.bats.take k).map (·.name)) m.bats[k]
      obtain ⟨⟨p, d⟩, hp⟩ : ∃ b, b = m.bats[k] := ⟨_, rfl⟩
      rw [← hp] at y0 hv hpl hz2 hbf hw
      dsimp only at y0 hv hpl hbf hw
      obtain ⟨A2, c2, hve, _, _⟩ := hv.shape
      obtain ⟨n2, hn2⟩ : ∃ n, n = d.length := ⟨_, rfl⟩
      rw [← hn2] at hve
      subst hve
      generalize (m.bats.take k).map (·.name) = pre at hz2 hbf hw
      have hx := TwoM.new HW.out.1 HW.out.2 82 (.string (S p)) (.slice A2 n2 c2)
      obtain ⟨x0, x1, x2, x3⟩ := hx.cells
      have HX := Lib.hid hx
      clear hzz hp yy0 yy1 hx
      have tok0 : True := trivial
      have kb : ∀ W, Below w.heap.size w W → Calls Tryz.prog 86 #[.agg #[.slice (some ⟨b0, o, none⟩) m.bats.length c, .slice A' m.bows.length c'], .string (S p)] W fun e W' => e = .returned (.int .i64 (batI m.bats p)) ∧ Below W.heap.size W W' := fun W hW => m_Batter m _ _ p W (HM.out.below hW)
      have kd : ∀ W, Below w.heap.size w W → Calls Tryz.prog 78 #[.slice A2 n2 c2] W fun e W' => e = .returned (.int .i64 (checkD d)) ∧ Below W.heap.size W W' := fun W hW => ch_Check d _ W (hv.keep elOtc_good (Same.of_below hW) fun b h => Nat.lt_of_lt_of_le h hW.size)
      obtain ⟨i, hi⟩ : ∃ i, i = batI m.bats p := ⟨_, rfl⟩
      obtain ⟨u, hu⟩ : ∃ u, u = checkD d := ⟨_, rfl⟩
      rw [← hi] at kb hbf
      rw [← hu] at kd hw
      have KB := Lib.hid kb
      have KD := Lib.hid kd
      clear kb kd hi hu hn2
      rcases hw with ⟨hnm, he⟩ | ⟨hnm, hin, he⟩ | ⟨hnm, hin, he⟩
      · rw [he, if_pos (by decide)] at hz2
        have kn : ∀ W, Calls Tryz.prog 65 #[.string (S p)] W fun e W' => e = .returned (.bool false) ∧ Below W.heap.size W W' := fun W => (text_Name (S p) W (by rw [S_size]; exact hpl)).mono fun e W' h => by rw [S_data, hnm] at h; exact h
        have KN := Lib.hid kn
        have HZZ := Lib.hid hz2
        clear kn hz2 he hnm hbf hv hpl
        go_wp2_with (first
          | (clear tok0; go_at_call 65; refine (KN.out _).mono ?_; rintro e w2 ⟨rfl, hb2⟩; have HX2 := Lib.hid (HX.out.below hb2); obtain ⟨p0, p1, p2, p3⟩ := HX2.out.cells; clear hb2; have tok1 : True := trivial))
        go_ret
        exact ⟨ret_i HZZ.out.symm, HX2.out.bel⟩
      · rw [he, if_pos (by decide)] at hz2
        have kn : ∀ W, Calls Tryz.prog 65 #[.string (S p)] W fun e W' => e = .returned (.bool true) ∧ Below W.heap.size W W' := fun W => (text_Name (S p) W (by rw [S_size]; exact hpl)).mono fun e W' h => by rw [S_data, hnm] at h; exact h
        have KN := Lib.hid kn
        have HZZ := Lib.hid hz2
        rw [hin] at hbf
        clear kn hz2 he hnm hin hv hpl
        go_wp2_with (first
          | (clear tok0; go_at_call 65; refine (KN.out _).mono ?_; rintro e w2 ⟨rfl, hb2⟩; have HX2 := Lib.hid (HX.out.below hb2); obtain ⟨p0, p1, p2, p3⟩ := HX2.out.cells; clear hb2; have tok1 : True := trivial)
          | (clear tok1; go_at_call 86; refine (KB.out _ HX2.out.bel).mono ?_; rintro e w3 ⟨rfl, hb3⟩; have HX3 := Lib.hid (HX2.out.below hb3); obtain ⟨q0, q1, q2, q3⟩ := HX3.out.cells; clear hb3; have tok2 : True := trivial))
        go_ret
        exact ⟨ret_i HZZ.out.symm, HX3.out.bel⟩
      · rw [he] at hz2
        have kn : ∀ W, Calls Tryz.prog 65 #[.string (S p)] W fun e W' => e = .returned (.bool true) ∧ Below W.heap.size W W' := fun W => (text_Name (S p) W (by rw [S_size]; exact hpl)).mono fun e W' h => by rw [S_data, hnm] at h; exact h
        have KN := Lib.hid kn
        rw [hin] at hbf
        by_cases hu0 : u = 0
        · rw [if_neg (by simp [hu0])] at hz2
          have eu : (u != 0) = false := by simp [hu0]
          have HZZ := Lib.hid hz2
          clear kn hz2 he hnm hin hu0 hv hpl
          go_wp2_with (first
          | (clear tok0; go_at_call 65; refine (KN.out _).mono ?_; rintro e w2 ⟨rfl, hb2⟩; have HX2 := Lib.hid (HX.out.below hb2); obtain ⟨p0, p1, p2, p3⟩ := HX2.out.cells; clear hb2; have tok1 : True := trivial)
          | (clear tok1; go_at_call 86; refine (KB.out _ HX2.out.bel).mono ?_; rintro e w3 ⟨rfl, hb3⟩; have HX3 := Lib.hid (HX2.out.below hb3); obtain ⟨q0, q1, q2, q3⟩ := HX3.out.cells; clear hb3; have tok2 : True := trivial)
          | (clear tok2; go_at_call 78; refine (KD.out _ HX3.out.bel).mono ?_; rintro e w4 ⟨rfl, hb4⟩; have HX4 := Lib.hid (HX3.out.below hb4); clear hb4; have tok3 : True := trivial))
          go_roundw
          case rel => exact ⟨k + 1, by omega, by go_num, Lib.hid ⟨HX4.out.bel, HX4.out.box⟩, HZZ⟩
          case measure => simp [intOf]; omega
        · rw [if_pos hu0] at hz2
          have eu : (u != 0) = true := by simp [hu0]
          have HZZ := Lib.hid hz2
          clear kn hz2 he hnm hin hu0 hv hpl
          go_wp2_with (first
          | (clear tok0; go_at_call 65; refine (KN.out _).mono ?_; rintro e w2 ⟨rfl, hb2⟩; have HX2 := Lib.hid (HX.out.below hb2); obtain ⟨p0, p1, p2, p3⟩ := HX2.out.cells; clear hb2; have tok1 : True := trivial)
          | (clear tok1; go_at_call 86; refine (KB.out _ HX2.out.bel).mono ?_; rintro e w3 ⟨rfl, hb3⟩; have HX3 := Lib.hid (HX2.out.below hb3); obtain ⟨q0, q1, q2, q3⟩ := HX3.out.cells; clear hb3; have tok2 : True := trivial)
          | (clear tok2; go_at_call 78; refine (KD.out _ HX3.out.bel).mono ?_; rintro e w4 ⟨rfl, hb4⟩; have HX4 := Lib.hid (HX3.out.below hb4); clear hb4; have tok3 : True := trivial))
          go_ret
          exact ⟨ret_i HZZ.out.symm, HX4.out.bel⟩
    · obtain rfl : k = m.bats.length := by omega
      have hz2 := hzz.out
      rw [restM_end] at hz2
      have HZ1 := Lib.hid hz2
      have HW1 := HW
      clear hzz hz2 HW HZ0
      obtain ⟨wo, rfl⟩ : ∃ wo : World, wo = wr := ⟨_, rfl⟩
      go_wp2
      go_loopw [60] (fun i wr => ∃ k : Nat, k ≤ m.bows.length ∧ i = .int .i64 k ∧ Hid (Below w.heap.size w wr ∧ Blk wr w.heap.size 35 #[.slice A m.bats.length c, .slice A' m.bows.length c']) ∧ Hid (z = restW m k)) (fun i _ => m.bows.length - (intOf i).toNat)
      case atStart => exact ⟨0, Nat.zero_le _, rfl, HW1, HZ1⟩
      case round =>
        clear HW1 HZ1 r0 r1
        obtain ⟨k, hk, rfl, HW, hzz⟩ := hrel
        obtain ⟨r0, r1, _, _⟩ := HW.out.2.duo
        by_cases hlt : k < m.bows.length
        · obtain ⟨b0, o, rfl, hbl, yy0, yy1, hpl⟩ := bow_at HM.out.bow hlt
          have y0 := (HW.out.1.cell (p := ⟨b0, o + k * 2, none⟩) hbl).trans yy0
          have y1 := (HW.out.1.cell (p := ⟨b0, o + k * 2 + 1, none⟩) hbl).trans yy1
          have hz2 := hzz.out
          rw [restW_at hlt] at hz2
          have hbf := bowI_before hlt
          have hw := bow_ways ((m.bows.take k).map (·.name)) m.bows[k]
          obtain ⟨⟨p, d⟩, hp⟩ : ∃ b, b = m.bows[k] := ⟨_, rfl⟩
          rw [← hp] at y0 y1 hpl hz2 hbf hw
          dsimp only at y0 y1 hpl hbf hw
          generalize (m.bows.take k).map (·.name) = pre at hz2 hbf hw
          have hx := TwoM.new HW.out.1 HW.out.2 85 (.string (S p)) (.int .i64 d)
          obtain ⟨x0, x1, x2, x3⟩ := hx.cells
          have HX := Lib.hid hx
          clear hzz hp yy0 yy1 hx
          have tok0 : True := trivial
          have kb : ∀ W, Below w.heap.size w W → Calls Tryz.prog 87 #[.agg #[.slice A m.bats.length c, .slice (some ⟨b0, o, none⟩) m.bows.length c'], .string (S p)] W fun e W' => e = .returned (.int .i64 (bowI m.bows p)) ∧ Below W.heap.size W W' := fun W hW => m_Bowler m _ _ p W (HM.out.below hW)
          obtain ⟨i, hi⟩ : ∃ i, i = bowI m.bows p := ⟨_, rfl⟩
          rw [← hi] at kb hbf
          have KB := Lib.hid kb
          clear kb hi
          rcases hw with ⟨hnm, he⟩ | ⟨hnm, hin, he⟩ | ⟨hnm, hin, hs, he⟩ | ⟨hnm, hin, hs, hs2, he⟩ | ⟨hnm, hin, hs, hs2, he⟩
          · rw [he, if_pos (by decide)] at hz2
            have kn : ∀ W, Calls Tryz.prog 65 #[.string (S p)] W fun e W' => e = .returned (.bool false) ∧ Below W.heap.size W W' := fun W => (text_Name (S p) W (by rw [S_size]; exact hpl)).mono fun e W' h => by rw [S_data, hnm] at h; exact h
            have KN := Lib.hid kn
            have HZZ := Lib.hid hz2
            clear kn hz2 he hnm hbf hpl
            go_wp2_with (first
          | (clear tok0; go_at_call 65; refine (KN.out _).mono ?_; rintro e w2 ⟨rfl, hb2⟩; have HX2 := Lib.hid (HX.out.below hb2); obtain ⟨p0, p1, p2, p3⟩ := HX2.out.cells; clear hb2; have tok1 : True := trivial))
            go_ret
            exact ⟨ret_i HZZ.out.symm, HX2.out.bel⟩
          · rw [he, if_pos (by decide)] at hz2
            have kn : ∀ W, Calls Tryz.prog 65 #[.string (S p)] W fun e W' => e = .returned (.bool true) ∧ Below W.heap.size W W' := fun W => (text_Name (S p) W (by rw [S_size]; exact hpl)).mono fun e W' h => by rw [S_data, hnm] at h; exact h
            have KN := Lib.hid kn
            have HZZ := Lib.hid hz2
            rw [hin] at hbf
            clear kn hz2 he hnm hin hpl
            go_wp2_with (first
          | (clear tok0; go_at_call 65; refine (KN.out _).mono ?_; rintro e w2 ⟨rfl, hb2⟩; have HX2 := Lib.hid (HX.out.below hb2); obtain ⟨p0, p1, p2, p3⟩ := HX2.out.cells; clear hb2; have tok1 : True := trivial)
          | (clear tok1; go_at_call 87; refine (KB.out _ HX2.out.bel).mono ?_; rintro e w3 ⟨rfl, hb3⟩; have HX3 := Lib.hid (HX2.out.below hb3); obtain ⟨q0, q1, q2, q3⟩ := HX3.out.cells; clear hb3; have tok2 : True := trivial))
            go_ret
            exact ⟨ret_i HZZ.out.symm, HX3.out.bel⟩
          · rw [he, if_pos (by decide)] at hz2
            have kn : ∀ W, Calls Tryz.prog 65 #[.string (S p)] W fun e W' => e = .returned (.bool true) ∧ Below W.heap.size W W' := fun W => (text_Name (S p) W (by rw [S_size]; exact hpl)).mono fun e W' h => by rw [S_data, hnm] at h; exact h
            have KN := Lib.hid kn
            have HZZ := Lib.hid hz2
            rw [hin] at hbf
            clear kn hz2 he hnm hin hpl
            go_wp2_with (first
          | (clear tok0; go_at_call 65; refine (KN.out _).mono ?_; rintro e w2 ⟨rfl, hb2⟩; have HX2 := Lib.hid (HX.out.below hb2); obtain ⟨p0, p1, p2, p3⟩ := HX2.out.cells; clear hb2; have tok1 : True := trivial)
          | (clear tok1; go_at_call 87; refine (KB.out _ HX2.out.bel).mono ?_; rintro e w3 ⟨rfl, hb3⟩; have HX3 := Lib.hid (HX2.out.below hb3); obtain ⟨q0, q1, q2, q3⟩ := HX3.out.cells; clear hb3; have tok2 : True := trivial))
            go_ret
            exact ⟨ret_i HZZ.out.symm, HX3.out.bel⟩
          · rw [he, if_pos (by decide)] at hz2
            have kn : ∀ W, Calls Tryz.prog 65 #[.string (S p)] W fun e W' => e = .returned (.bool true) ∧ Below W.heap.size W W' := fun W => (text_Name (S p) W (by rw [S_size]; exact hpl)).mono fun e W' h => by rw [S_data, hnm] at h; exact h
            have KN := Lib.hid kn
            have HZZ := Lib.hid hz2
            rw [hin] at hbf
            clear kn hz2 he hnm hin hpl
            go_wp2_with (first
          | (clear tok0; go_at_call 65; refine (KN.out _).mono ?_; rintro e w2 ⟨rfl, hb2⟩; have HX2 := Lib.hid (HX.out.below hb2); obtain ⟨p0, p1, p2, p3⟩ := HX2.out.cells; clear hb2; have tok1 : True := trivial)
          | (clear tok1; go_at_call 87; refine (KB.out _ HX2.out.bel).mono ?_; rintro e w3 ⟨rfl, hb3⟩; have HX3 := Lib.hid (HX2.out.below hb3); obtain ⟨q0, q1, q2, q3⟩ := HX3.out.cells; clear hb3; have tok2 : True := trivial))
            go_ret
            exact ⟨ret_i HZZ.out.symm, HX3.out.bel⟩
          · rw [he, if_neg (by decide)] at hz2
            have kn : ∀ W, Calls Tryz.prog 65 #[.string (S p)] W fun e W' => e = .returned (.bool true) ∧ Below W.heap.size W W' := fun W => (text_Name (S p) W (by rw [S_size]; exact hpl)).mono fun e W' h => by rw [S_data, hnm] at h; exact h
            have KN := Lib.hid kn
            have HZZ := Lib.hid hz2
            rw [hin] at hbf
            clear kn hz2 he hnm hin hpl
            go_wp2_with (first
          | (clear tok0; go_at_call 65; refine (KN.out _).mono ?_; rintro e w2 ⟨rfl, hb2⟩; have HX2 := Lib.hid (HX.out.below hb2); obtain ⟨p0, p1, p2, p3⟩ := HX2.out.cells; clear hb2; have tok1 : True := trivial)
          | (clear tok1; go_at_call 87; refine (KB.out _ HX2.out.bel).mono ?_; rintro e w3 ⟨rfl, hb3⟩; have HX3 := Lib.hid (HX2.out.below hb3); obtain ⟨q0, q1, q2, q3⟩ := HX3.out.cells; clear hb3; have tok2 : True := trivial))
            go_roundw
            case rel => exact ⟨k + 1, by omega, by go_num, Lib.hid ⟨HX3.out.bel, HX3.out.box⟩, HZZ⟩
            case measure => simp [intOf]; omega
        · obtain rfl : k = m.bows.length := by omega
          have hz2 := hzz.out
          rw [restW_end] at hz2
          have HZ2 := Lib.hid hz2
          clear hzz hz2
          go_wp2
          go_ret
          exact ⟨ret_i HZ2.out.symm, HW.out.1⟩
set_option maxRecDepth 100000 in
set_option maxHeartbeats 4000000 in
theorem r_Check (m : Mdl) (bv wv : Value) (w : World) (h : MdlAt w (· < w.heap.size) bv wv m) :
    Calls Tryz.prog 43 #[.agg #[bv, wv]] w fun e w' => e = .returned (.int .i64 (checkM m)) ∧ Below w.heap.size w w' := by
  obtain ⟨z, hz⟩ : ∃ z, z = checkM m := ⟨_, rfl⟩
  rw [← hz]
  obtain ⟨A, c, rfl, hc, hc2⟩ := h.bat.shape
  obtain ⟨A', c', rfl, hc', hc2'⟩ := h.bow.shape
  have HM := Lib.hid h
  have hb1 : Below w.heap.size w (w.alloc (.cells #[.slice A m.bats.length c, .slice A' m.bows.length c'] 35)) := Below.alloc (Below.refl _ _) (Nat.le_refl _) _
  have hx1 := Blk.new w 35 #[.slice A m.bats.length c, .slice A' m.bows.length c']
  by_cases h1 : m.bats.length = 0 ∨ m.bows.length = 0
  · have HZ := Lib.hid (show z = 6 by rw [hz]; unfold checkM; rw [if_pos h1])
    have HB1 := Lib.hid hb1
    clear hz h hb1 hx1
    by_cases h2 : m.bats.length = 0
    · have e1 : ((m.bats.length : Int) == 0) = true := beq_iff_eq.2 (by omega)
      have h3 := Lib.hid h2
      clear h1 h2
      go_enter Tryz.func43, Tryz.ntmps43
      go_wp2
      go_ret
      exact ⟨ret_i HZ.out.symm, HB1.out⟩
    · have e1 : ((m.bats.length : Int) == 0) = false := beq_eq_false_iff_ne.2 (by omega)
      have e2 : ((m.bows.length : Int) == 0) = true := beq_iff_eq.2 (by omega)
      have h3 := Lib.hid h2
      clear h1 h2
      go_enter Tryz.func43, Tryz.ntmps43
      go_wp2
      go_ret
      exact ⟨ret_i HZ.out.symm, HB1.out⟩
  have e1 : ((m.bats.length : Int) == 0) = false := beq_eq_false_iff_ne.2 (by omega)
  have e2 : ((m.bows.length : Int) == 0) = false := beq_eq_false_iff_ne.2 (by omega)
  by_cases h2 : 11 < m.bats.length ∨ 11 < m.bows.length
  · have HZ := Lib.hid (show z = 9 by rw [hz]; unfold checkM; rw [if_neg h1, if_pos h2])
    have HB1 := Lib.hid hb1
    clear hz h hb1 hx1 h1
    by_cases h3 : 11 < m.bats.length
    · have e3 : (11 : Int) < (m.bats.length : Int) := by omega
      clear h2 h3
      go_enter Tryz.func43, Tryz.ntmps43
      go_wp2
      go_ret
      exact ⟨ret_i HZ.out.symm, HB1.out⟩
    · have e3 : ¬ (11 : Int) < (m.bats.length : Int) := by omega
      have e4 : (11 : Int) < (m.bows.length : Int) := by omega
      clear h2 h3
      go_enter Tryz.func43, Tryz.ntmps43
      go_wp2
      go_ret
      exact ⟨ret_i HZ.out.symm, HB1.out⟩
  have HZ0 := Lib.hid (show z = restM m 0 by rw [hz, checkM_rest h1 h2])
  have e3 : ¬ (11 : Int) < (m.bats.length : Int) := by omega
  have e4 : ¬ (11 : Int) < (m.bows.length : Int) := by omega
  have HB1 := Lib.hid hb1
  have HX1 := Lib.hid hx1
  clear hz h hb1 hx1 h1 h2
  go_enter Tryz.func43, Tryz.ntmps43
  go_wp2
  go_loopw [31] (fun i wr => ∃ k : Nat, k ≤ m.bats.length ∧ i = .int .i64 k ∧ Hid (Below w.heap.size w wr ∧ Blk wr w.heap.size 35 #[.slice A m.bats.length c, .slice A' m.bows.length c']) ∧ Hid (z = restM m k)) (fun i _ => m.bats.length - (intOf i).toNat)
  case atStart => exact ⟨0, Nat.zero_le _, rfl, Lib.hid ⟨HB1.out, HX1.out⟩, HZ0⟩
  case round =>
    clear HB1 HX1
    obtain ⟨k, hk, rfl, HW, hzz⟩ := hrel
    obtain ⟨r0, r1, _, _⟩ := HW.out.2.duo
    by_cases hlt : k < m.bats.length
    · obtain ⟨b0, o, v, rfl, hbl, yy0, yy1, hv, hpl⟩ := bat_at HM.out.bat hlt
      have y0 := (HW.out.1.cell (p := ⟨b0, o + k * 2, none⟩) hbl).trans yy0
      have y1 := (HW.out.1.cell (p := ⟨b0, o + k * 2 + 1, none⟩) hbl).trans yy1
      have hz2 := hzz.out
      rw [restM_at hlt] at hz2
      have hbf := batI_before hlt
      have hw := bat_ways ((m.bats.take k).map (·.name)) m.bats[k]
      obtain ⟨⟨p, d⟩, hp⟩ : ∃ b, b = m.bats[k] := ⟨_, rfl⟩
      rw [← hp] at y0 hv hpl hz2 hbf hw
      dsimp only at y0 hv hpl hbf hw
      obtain ⟨A2, c2, hve, _, _⟩ := hv.shape
      obtain ⟨n2, hn2⟩ : ∃ n, n = d.length := ⟨_, rfl⟩
      rw [← hn2] at hve
      subst hve
      generalize (m.bats.take k).map (·.name) = pre at hz2 hbf hw
      have hx := TwoM.new HW.out.1 HW.out.2 82 (.string (S p)) (.slice A2 n2 c2)
      obtain ⟨x0, x1, x2, x3⟩ := hx.cells
      have HX := Lib.hid hx
      clear hzz hp yy0 yy1 hx
      have tok0 : True := trivial
      have kb : ∀ W, Below w.heap.size w W → Calls Tryz.prog 92 #[.agg #[.slice (some ⟨b0, o, none⟩) m.bats.length c, .slice A' m.bows.length c'], .string (S p)] W fun e W' => e = .returned (.int .i64 (batI m.bats p)) ∧ Below W.heap.size W W' := fun W hW => r_Batter m _ _ p W (HM.out.below hW)
      have kd : ∀ W, Below w.heap.size w W → Calls Tryz.prog 93 #[.slice A2 n2 c2] W fun e W' => e = .returned (.int .i64 (checkD d)) ∧ Below W.heap.size W W' := fun W hW => ref_CCheck d _ W (hv.keep elOtc_good (Same.of_below hW) fun b h => Nat.lt_of_lt_of_le h hW.size)
      obtain ⟨i, hi⟩ : ∃ i, i = batI m.bats p := ⟨_, rfl⟩
      obtain ⟨u, hu⟩ : ∃ u, u = checkD d := ⟨_, rfl⟩
      rw [← hi] at kb hbf
      rw [← hu] at kd hw
      have KB := Lib.hid kb
      have KD := Lib.hid kd
      clear kb kd hi hu hn2
      rcases hw with ⟨hnm, he⟩ | ⟨hnm, hin, he⟩ | ⟨hnm, hin, he⟩
      · rw [he, if_pos (by decide)] at hz2
        have kn : ∀ W, Calls Tryz.prog 73 #[.string (S p)] W fun e W' => e = .returned (.bool false) ∧ Below W.heap.size W W' := fun W => (ref_Name (S p) W (by rw [S_size]; exact hpl)).mono fun e W' h => by rw [S_data, hnm] at h; exact ⟨h.1, h.2 ▸ Below.refl _ _⟩
        have KN := Lib.hid kn
        have HZZ := Lib.hid hz2
        clear kn hz2 he hnm hbf hv hpl
        go_wp2_with (first
          | (clear tok0; go_at_call 73; refine (KN.out _).mono ?_; rintro e w2 ⟨rfl, hb2⟩; have HX2 := Lib.hid (HX.out.below hb2); obtain ⟨p0, p1, p2, p3⟩ := HX2.out.cells; clear hb2; have tok1 : True := trivial))
        go_ret
        exact ⟨ret_i HZZ.out.symm, HX2.out.bel⟩
      · rw [he, if_pos (by decide)] at hz2
        have kn : ∀ W, Calls Tryz.prog 73 #[.string (S p)] W fun e W' => e = .returned (.bool true) ∧ Below W.heap.size W W' := fun W => (ref_Name (S p) W (by rw [S_size]; exact hpl)).mono fun e W' h => by rw [S_data, hnm] at h; exact ⟨h.1, h.2 ▸ Below.refl _ _⟩
        have KN := Lib.hid kn
        have HZZ := Lib.hid hz2
        rw [hin] at hbf
        clear kn hz2 he hnm hin hv hpl
        go_wp2_with (first
          | (clear tok0; go_at_call 73; refine (KN.out _).mono ?_; rintro e w2 ⟨rfl, hb2⟩; have HX2 := Lib.hid (HX.out.below hb2); obtain ⟨p0, p1, p2, p3⟩ := HX2.out.cells; clear hb2; have tok1 : True := trivial)
          | (clear tok1; go_at_call 92; refine (KB.out _ HX2.out.bel).mono ?_; rintro e w3 ⟨rfl, hb3⟩; have HX3 := Lib.hid (HX2.out.below hb3); obtain ⟨q0, q1, q2, q3⟩ := HX3.out.cells; clear hb3; have tok2 : True := trivial))
        go_ret
        exact ⟨ret_i HZZ.out.symm, HX3.out.bel⟩
      · rw [he] at hz2
        have kn : ∀ W, Calls Tryz.prog 73 #[.string (S p)] W fun e W' => e = .returned (.bool true) ∧ Below W.heap.size W W' := fun W => (ref_Name (S p) W (by rw [S_size]; exact hpl)).mono fun e W' h => by rw [S_data, hnm] at h; exact ⟨h.1, h.2 ▸ Below.refl _ _⟩
        have KN := Lib.hid kn
        rw [hin] at hbf
        by_cases hu0 : u = 0
        · rw [if_neg (by simp [hu0])] at hz2
          have eu : (u != 0) = false := by simp [hu0]
          have HZZ := Lib.hid hz2
          clear kn hz2 he hnm hin hu0 hv hpl
          go_wp2_with (first
          | (clear tok0; go_at_call 73; refine (KN.out _).mono ?_; rintro e w2 ⟨rfl, hb2⟩; have HX2 := Lib.hid (HX.out.below hb2); obtain ⟨p0, p1, p2, p3⟩ := HX2.out.cells; clear hb2; have tok1 : True := trivial)
          | (clear tok1; go_at_call 92; refine (KB.out _ HX2.out.bel).mono ?_; rintro e w3 ⟨rfl, hb3⟩; have HX3 := Lib.hid (HX2.out.below hb3); obtain ⟨q0, q1, q2, q3⟩ := HX3.out.cells; clear hb3; have tok2 : True := trivial)
          | (clear tok2; go_at_call 93; refine (KD.out _ HX3.out.bel).mono ?_; rintro e w4 ⟨rfl, hb4⟩; have HX4 := Lib.hid (HX3.out.below hb4); clear hb4; have tok3 : True := trivial))
          go_roundw
          case rel => exact ⟨k + 1, by omega, by go_num, Lib.hid ⟨HX4.out.bel, HX4.out.box⟩, HZZ⟩
          case measure => simp [intOf]; omega
        · rw [if_pos hu0] at hz2
          have eu : (u != 0) = true := by simp [hu0]
          have HZZ := Lib.hid hz2
          clear kn hz2 he hnm hin hu0 hv hpl
          go_wp2_with (first
          | (clear tok0; go_at_call 73; refine (KN.out _).mono ?_; rintro e w2 ⟨rfl, hb2⟩; have HX2 := Lib.hid (HX.out.below hb2); obtain ⟨p0, p1, p2, p3⟩ := HX2.out.cells; clear hb2; have tok1 : True := trivial)
          | (clear tok1; go_at_call 92; refine (KB.out _ HX2.out.bel).mono ?_; rintro e w3 ⟨rfl, hb3⟩; have HX3 := Lib.hid (HX2.out.below hb3); obtain ⟨q0, q1, q2, q3⟩ := HX3.out.cells; clear hb3; have tok2 : True := trivial)
          | (clear tok2; go_at_call 93; refine (KD.out _ HX3.out.bel).mono ?_; rintro e w4 ⟨rfl, hb4⟩; have HX4 := Lib.hid (HX3.out.below hb4); clear hb4; have tok3 : True := trivial))
          go_ret
          exact ⟨ret_i HZZ.out.symm, HX4.out.bel⟩
    · obtain rfl : k = m.bats.length := by omega
      have hz2 := hzz.out
      rw [restM_end] at hz2
      have HZ1 := Lib.hid hz2
      have HW1 := HW
      clear hzz hz2 HW HZ0
      obtain ⟨wo, rfl⟩ : ∃ wo : World, wo = wr := ⟨_, rfl⟩
      go_wp2
      go_loopw [56] (fun i wr => ∃ k : Nat, k ≤ m.bows.length ∧ i = .int .i64 k ∧ Hid (Below w.heap.size w wr ∧ Blk wr w.heap.size 35 #[.slice A m.bats.length c, .slice A' m.bows.length c']) ∧ Hid (z = restW m k)) (fun i _ => m.bows.length - (intOf i).toNat)
      case atStart => exact ⟨0, Nat.zero_le _, rfl, HW1, HZ1⟩
      case round =>
        clear HW1 HZ1 r0 r1
        obtain ⟨k, hk, rfl, HW, hzz⟩ := hrel
        obtain ⟨r0, r1, _, _⟩ := HW.out.2.duo
        by_cases hlt : k < m.bows.length
        · obtain ⟨b0, o, rfl, hbl, yy0, yy1, hpl⟩ := bow_at HM.out.bow hlt
          have y0 := (HW.out.1.cell (p := ⟨b0, o + k * 2, none⟩) hbl).trans yy0
          have y1 := (HW.out.1.cell (p := ⟨b0, o + k * 2 + 1, none⟩) hbl).trans yy1
          have hz2 := hzz.out
          rw [restW_at hlt] at hz2
          have hbf := bowI_before hlt
          have hw := bow_ways ((m.bows.take k).map (·.name)) m.bows[k]
          obtain ⟨⟨p, d⟩, hp⟩ : ∃ b, b = m.bows[k] := ⟨_, rfl⟩
          rw [← hp] at y0 y1 hpl hz2 hbf hw
          dsimp only at y0 y1 hpl hbf hw
          generalize (m.bows.take k).map (·.name) = pre at hz2 hbf hw
          have hx := TwoM.new HW.out.1 HW.out.2 85 (.string (S p)) (.int .i64 d)
          obtain ⟨x0, x1, x2, x3⟩ := hx.cells
          have HX := Lib.hid hx
          clear hzz hp yy0 yy1 hx
          have tok0 : True := trivial
          have kb : ∀ W, Below w.heap.size w W → Calls Tryz.prog 94 #[.agg #[.slice A m.bats.length c, .slice (some ⟨b0, o, none⟩) m.bows.length c'], .string (S p)] W fun e W' => e = .returned (.int .i64 (bowI m.bows p)) ∧ Below W.heap.size W W' := fun W hW => r_Bowler m _ _ p W (HM.out.below hW)
          obtain ⟨i, hi⟩ : ∃ i, i = bowI m.bows p := ⟨_, rfl⟩
          rw [← hi] at kb hbf
          have KB := Lib.hid kb
          clear kb hi
          rcases hw with ⟨hnm, he⟩ | ⟨hnm, hin, he⟩ | ⟨hnm, hin, hs, he⟩ | ⟨hnm, hin, hs, hs2, he⟩ | ⟨hnm, hin, hs, hs2, he⟩
          · rw [he, if_pos (by decide)] at hz2
            have kn : ∀ W, Calls Tryz.prog 73 #[.string (S p)] W fun e W' => e = .returned (.bool false) ∧ Below W.heap.size W W' := fun W => (ref_Name (S p) W (by rw [S_size]; exact hpl)).mono fun e W' h => by rw [S_data, hnm] at h; exact ⟨h.1, h.2 ▸ Below.refl _ _⟩
            have KN := Lib.hid kn
            have HZZ := Lib.hid hz2
            clear kn hz2 he hnm hbf hpl
            go_wp2_with (first
          | (clear tok0; go_at_call 73; refine (KN.out _).mono ?_; rintro e w2 ⟨rfl, hb2⟩; have HX2 := Lib.hid (HX.out.below hb2); obtain ⟨p0, p1, p2, p3⟩ := HX2.out.cells; clear hb2; have tok1 : True := trivial))
            go_ret
            exact ⟨ret_i HZZ.out.symm, HX2.out.bel⟩
          · rw [he, if_pos (by decide)] at hz2
            have kn : ∀ W, Calls Tryz.prog 73 #[.string (S p)] W fun e W' => e = .returned (.bool true) ∧ Below W.heap.size W W' := fun W => (ref_Name (S p) W (by rw [S_size]; exact hpl)).mono fun e W' h => by rw [S_data, hnm] at h; exact ⟨h.1, h.2 ▸ Below.refl _ _⟩
            have KN := Lib.hid kn
            have HZZ := Lib.hid hz2
            rw [hin] at hbf
            clear kn hz2 he hnm hin hpl
            go_wp2_with (first
          | (clear tok0; go_at_call 73; refine (KN.out _).mono ?_; rintro e w2 ⟨rfl, hb2⟩; have HX2 := Lib.hid (HX.out.below hb2); obtain ⟨p0, p1, p2, p3⟩ := HX2.out.cells; clear hb2; have tok1 : True := trivial)
          | (clear tok1; go_at_call 94; refine (KB.out _ HX2.out.bel).mono ?_; rintro e w3 ⟨rfl, hb3⟩; have HX3 := Lib.hid (HX2.out.below hb3); obtain ⟨q0, q1, q2, q3⟩ := HX3.out.cells; clear hb3; have tok2 : True := trivial))
            go_ret
            exact ⟨ret_i HZZ.out.symm, HX3.out.bel⟩
          · rw [he, if_pos (by decide)] at hz2
            have kn : ∀ W, Calls Tryz.prog 73 #[.string (S p)] W fun e W' => e = .returned (.bool true) ∧ Below W.heap.size W W' := fun W => (ref_Name (S p) W (by rw [S_size]; exact hpl)).mono fun e W' h => by rw [S_data, hnm] at h; exact ⟨h.1, h.2 ▸ Below.refl _ _⟩
            have KN := Lib.hid kn
            have HZZ := Lib.hid hz2
            rw [hin] at hbf
            clear kn hz2 he hnm hin hpl
            go_wp2_with (first
          | (clear tok0; go_at_call 73; refine (KN.out _).mono ?_; rintro e w2 ⟨rfl, hb2⟩; have HX2 := Lib.hid (HX.out.below hb2); obtain ⟨p0, p1, p2, p3⟩ := HX2.out.cells; clear hb2; have tok1 : True := trivial)
          | (clear tok1; go_at_call 94; refine (KB.out _ HX2.out.bel).mono ?_; rintro e w3 ⟨rfl, hb3⟩; have HX3 := Lib.hid (HX2.out.below hb3); obtain ⟨q0, q1, q2, q3⟩ := HX3.out.cells; clear hb3; have tok2 : True := trivial))
            go_ret
            exact ⟨ret_i HZZ.out.symm, HX3.out.bel⟩
          · rw [he, if_pos (by decide)] at hz2
            have kn : ∀ W, Calls Tryz.prog 73 #[.string (S p)] W fun e W' => e = .returned (.bool true) ∧ Below W.heap.size W W' := fun W => (ref_Name (S p) W (by rw [S_size]; exact hpl)).mono fun e W' h => by rw [S_data, hnm] at h; exact ⟨h.1, h.2 ▸ Below.refl _ _⟩
            have KN := Lib.hid kn
            have HZZ := Lib.hid hz2
            rw [hin] at hbf
            clear kn hz2 he hnm hin hpl
            go_wp2_with (first
          | (clear tok0; go_at_call 73; refine (KN.out _).mono ?_; rintro e w2 ⟨rfl, hb2⟩; have HX2 := Lib.hid (HX.out.below hb2); obtain ⟨p0, p1, p2, p3⟩ := HX2.out.cells; clear hb2; have tok1 : True := trivial)
          | (clear tok1; go_at_call 94; refine (KB.out _ HX2.out.bel).mono ?_; rintro e w3 ⟨rfl, hb3⟩; have HX3 := Lib.hid (HX2.out.below hb3); obtain ⟨q0, q1, q2, q3⟩ := HX3.out.cells; clear hb3; have tok2 : True := trivial))
            go_ret
            exact ⟨ret_i HZZ.out.symm, HX3.out.bel⟩
          · rw [he, if_neg (by decide)] at hz2
            have kn : ∀ W, Calls Tryz.prog 73 #[.string (S p)] W fun e W' => e = .returned (.bool true) ∧ Below W.heap.size W W' := fun W => (ref_Name (S p) W (by rw [S_size]; exact hpl)).mono fun e W' h => by rw [S_data, hnm] at h; exact ⟨h.1, h.2 ▸ Below.refl _ _⟩
            have KN := Lib.hid kn
            have HZZ := Lib.hid hz2
            rw [hin] at hbf
            clear kn hz2 he hnm hin hpl
            go_wp2_with (first
          | (clear tok0; go_at_call 73; refine (KN.out _).mono ?_; rintro e w2 ⟨rfl, hb2⟩; have HX2 := Lib.hid (HX.out.below hb2); obtain ⟨p0, p1, p2, p3⟩ := HX2.out.cells; clear hb2; have tok1 : True := trivial)
          | (clear tok1; go_at_call 94; refine (KB.out _ HX2.out.bel).mono ?_; rintro e w3 ⟨rfl, hb3⟩; have HX3 := Lib.hid (HX2.out.below hb3); obtain ⟨q0, q1, q2, q3⟩ := HX3.out.cells; clear hb3; have tok2 : True := trivial))
            go_roundw
            case rel => exact ⟨k + 1, by omega, by go_num, Lib.hid ⟨HX3.out.bel, HX3.out.box⟩, HZZ⟩
            case measure => simp [intOf]; omega
        · obtain rfl : k = m.bows.length := by omega
          have hz2 := hzz.out
          rw [restW_end] at hz2
          have HZ2 := Lib.hid hz2
          clear hzz hz2
          go_wp2
          go_ret
          exact ⟨ret_i HZ2.out.symm, HW.out.1⟩
end Go.Proofs.YtglkejlimeakbaaGreatDoor

namespace Go.Proofs.YtglkejlimeakbaaGreatDoor
open Go.RowKit

def smallM (m : Mdl) : Bool := m.bats.all (fun b => decide (b.dist.length ≤ 100)) && decide (m.bats.length ≤ 30) && decide (m.bows.length ≤ 30)
theorem small_drop {l : List Bat} {k : Nat} (hk : k < l.length) : (l.drop k).all (fun b => decide (b.dist.length ≤ 100)) = (decide (l[k].dist.length ≤ 100) && (l.drop (k + 1)).all (fun b => decide (b.dist.length ≤ 100))) := by
  rw [drop_get hk, List.all_cons]
set_option maxRecDepth 100000 in
set_option maxHeartbeats 2000000 in
theorem law43_small (m : Mdl) (bv wv : Value) (w : World) (h : MdlAt w (· < w.heap.size) bv wv m) :
    Calls Tryz.prog 15 #[.agg #[bv, wv]] w fun e w' => e = .returned (.bool (smallM m)) ∧ Below w.heap.size w w' := by
  obtain ⟨z, hz⟩ : ∃ z, z = smallM m := ⟨_, rfl⟩
  rw [← hz]
  unfold smallM at hz
  obtain ⟨A, c, rfl, hc, hc2⟩ := h.bat.shape
  obtain ⟨A', c', rfl, hc', hc2'⟩ := h.bow.shape
  have HL := Lib.hid h.bat
  obtain ⟨bl, hbl⟩ : ∃ b, b = (decide (m.bats.length ≤ 30) && decide (m.bows.length ≤ 30)) := ⟨_, rfl⟩
  rw [Bool.and_assoc, ← hbl] at hz
  have HZ : Hid (z = ((m.bats.drop 0).all (fun b => decide (b.dist.length ≤ 100)) && bl)) := hz
  have HBL := Lib.hid hbl
  have HW0 := Lib.hid (⟨Below.alloc (Below.refl _ _) (Nat.le_refl _) _, Blk.new w 35 #[.slice A m.bats.length c, .slice A' m.bows.length c']⟩ : Below w.heap.size w (w.alloc (.cells #[.slice A m.bats.length c, .slice A' m.bows.length c'] 35)) ∧ _)
  clear hz h hbl
  go_enter Tryz.func15, Tryz.ntmps15
  go_wp2
  go_loopw [8] (fun i wr => ∃ k : Nat, k ≤ m.bats.length ∧ i = .int .i64 k ∧ Hid (Below w.heap.size w wr ∧ Blk wr w.heap.size 35 #[.slice A m.bats.length c, .slice A' m.bows.length c']) ∧ Hid (z = ((m.bats.drop k).all (fun b => decide (b.dist.length ≤ 100)) && bl))) (fun i _ => m.bats.length - (intOf i).toNat)
  case atStart => exact ⟨0, Nat.zero_le _, rfl, HW0, HZ⟩
  case round =>
    clear HW0 HZ
    obtain ⟨k, hk, rfl, HW, hzz⟩ := hrel
    obtain ⟨r0, r1, _, _⟩ := HW.out.2.duo
    by_cases hlt : k < m.bats.length
    · obtain ⟨b0, o, v, rfl, hbl, yy0, yy1, hv, hpl⟩ := bat_at HL.out hlt
      have y0 := (HW.out.1.cell (p := ⟨b0, o + k * 2, none⟩) hbl).trans yy0
      have y1 := (HW.out.1.cell (p := ⟨b0, o + k * 2 + 1, none⟩) hbl).trans yy1
      have hz2 := hzz.out
      rw [small_drop hlt] at hz2
      obtain ⟨A2, c2, hve, _, _⟩ := hv.shape
      obtain ⟨p, hp⟩ : ∃ b, b = m.bats[k] := ⟨_, rfl⟩
      rw [← hp] at y0 hz2 hve
      obtain ⟨n2, hn2⟩ : ∃ n, n = p.dist.length := ⟨_, rfl⟩
      obtain ⟨pn, hpn⟩ : ∃ n, n = p.name := ⟨_, rfl⟩
      rw [← hn2] at hve hz2
      rw [← hpn] at y0
      subst hve
      have HA := Lib.hid (⟨HW.out.1.alloc HW.out.1.size _, HW.out.2.alloc _⟩ : Below w.heap.size w (wr.alloc (.cells #[.string (S pn), .slice A2 n2 c2] 82)) ∧ Blk (wr.alloc (.cells #[.string (S pn), .slice A2 n2 c2] 82)) w.heap.size 35 #[.slice (some ⟨b0, o, none⟩) m.bats.length c, .slice A' m.bows.length c'])
      clear hzz hp hn2 hpn yy0 yy1 hv hpl
      by_cases hs : n2 ≤ 100
      · rw [decide_eq_true hs, Bool.true_and] at hz2
        have HZZ := Lib.hid hz2
        have g1 : ¬ (100 : Int) < (n2 : Int) := by omega
        clear hz2 hs
        go_wp2
        go_roundw
        case rel => exact ⟨k + 1, by omega, by go_num, HA, HZZ⟩
        case measure => simp [intOf]; omega
      · rw [decide_eq_false hs, Bool.false_and] at hz2
        have HZZ := Lib.hid hz2
        have g1 : (100 : Int) < (n2 : Int) := by omega
        clear hz2 hs
        go_wp2
        go_ret
        exact ⟨ret_b HZZ.out.symm, HA.out.1⟩
    · obtain rfl : k = m.bats.length := by omega
      have hz2 := hzz.out
      rw [List.drop_of_length_le (Nat.le_refl _), List.all_nil, Bool.true_and] at hz2
      have hbl := HBL.out
      by_cases h1 : m.bats.length ≤ 30
      · rw [decide_eq_true h1, Bool.true_and] at hbl
        have g1 : (m.bats.length : Int) ≤ 30 := by omega
        by_cases h3 : m.bows.length ≤ 30
        · rw [decide_eq_true h3] at hbl
          have g2 : (m.bows.length : Int) ≤ 30 := by omega
          have HZZ := Lib.hid (hz2.trans hbl)
          clear hz2 hzz hbl h1 h3
          go_wp2
          go_ret
          exact ⟨ret_b HZZ.out.symm, HW.out.1⟩
        · rw [decide_eq_false h3] at hbl
          have g2 : ¬ (m.bows.length : Int) ≤ 30 := by omega
          have HZZ := Lib.hid (hz2.trans hbl)
          clear hz2 hzz hbl h1 h3
          go_wp2
          go_ret
          exact ⟨ret_b HZZ.out.symm, HW.out.1⟩
      · rw [decide_eq_false h1, Bool.false_and] at hbl
        have g1 : ¬ (m.bats.length : Int) ≤ 30 := by omega
        have HZZ := Lib.hid (hz2.trans hbl)
        clear hz2 hzz hbl h1
        go_wp2
        go_ret
        exact ⟨ret_b HZZ.out.symm, HW.out.1⟩
end Go.Proofs.YtglkejlimeakbaaGreatDoor

namespace Go.Proofs.YtglkejlimeakbaaGreatDoor

def kBATTER : List UInt8 := [66, 65, 84, 84, 69, 82]
def kBOWLER : List UInt8 := [66, 79, 87, 76, 69, 82]
def batLine (b : Bat) : Lin := ⟨0, [wordF kBATTER, wordF b.name, ⟨(textC b.dist).1, 0, true⟩]⟩
def bowLine (b : Bow) : Lin := ⟨0, [wordF kBOWLER, wordF b.name, wordF (decW b.shift)]⟩
def mdlLines (m : Mdl) : List Lin := m.bats.map batLine ++ m.bows.map bowLine
def textM (m : Mdl) : List UInt8 × Int := if checkM m ≠ 0 then ([], checkM m) else (writeS (mdlLines m), 0)
/-- The first field of a line. -/
def headM (x : Lin) : Fld := (x.fields[0]?).getD ⟨[], 0, false⟩
def badHead (x : Lin) : Bool := (headM x).quoted || (!decide ((headM x).text = kBATTER) && !decide ((headM x).text = kBOWLER))
def nameM (x : Lin) : Cur × List UInt8 := ((Cur.start x).word false).1.ident
def batM (x : Lin) : Cur × Bat := (((nameM x).1.word true).1.reject (parseC ((nameM x).1.word true).2).2, ⟨(nameM x).2, (parseC ((nameM x).1.word true).2).1⟩)
def bowM (x : Lin) : Cur × Bow := (((nameM x).1.int (-12) 12).1, ⟨(nameM x).2, ((nameM x).1.int (-12) 12).2⟩)
/-- A line taken into a model; its diagnostic. -/
def takeM (m : Mdl) (x : Lin) : Mdl × Option Dia :=
  if badHead x = true then (m, some ⟨x.num, (headM x).col, 4⟩)
  else if (headM x).text = kBOWLER then (⟨m.bats, m.bows ++ [(bowM x).2]⟩, (bowM x).1.close)
  else (⟨m.bats ++ [(batM x).2], m.bows⟩, (batM x).1.close)
def linesM : List Lin → Mdl → List Dia → Mdl × List Dia
  | [], m, ds => (m, ds)
  | x :: l, m, ds => linesM l (takeM m x).1 (ds ++ (takeM m x).2.toList)
def parseM (s : List UInt8) : Mdl × List Dia :=
  if (splitS s).2 ≠ [] then (noMdl, (splitS s).2)
  else if (linesM (splitS s).1 noMdl []).2 ≠ [] then (noMdl, (linesM (splitS s).1 noMdl []).2.take 50)
  else if checkM (linesM (splitS s).1 noMdl []).1 ≠ 0 then (noMdl, [⟨1, 1, checkM (linesM (splitS s).1 noMdl []).1⟩])
  else ((linesM (splitS s).1 noMdl []).1, [])
/-! A piece written is read back. -/
theorem pieces_no5 (c : UInt8) : ∀ l : List UInt8, c ∉ l → pieces c l = [l] := by
  intro l
  induction l with
  | nil => intro _; rfl
  | cons b l ih =>
    intro h
    rw [pieces, if_neg (fun e => h (by simp [e])), ih fun k => h (by simp [k])]
theorem pieces_app5 (c : UInt8) : ∀ (l r : List UInt8), c ∉ l → pieces c (l ++ c :: r) = l :: pieces c r := by
  intro l
  induction l with
  | nil => intro r _; rw [List.nil_append, pieces, if_pos rfl]
  | cons b l ih =>
    intro r h
    rw [List.cons_append, pieces, if_neg (fun e => h (by simp [e])), ih r fun k => h (by simp [k])]
theorem pieces_join5 (c : UInt8) : ∀ (xs : List (List UInt8)), xs ≠ [] → (∀ x ∈ xs, c ∉ x) → pieces c (Lib.join xs [c]) = xs := by
  intro xs
  induction xs with
  | nil => intro h; exact absurd rfl h
  | cons x r ih =>
    intro _ h
    cases r with
    | nil => rw [Lib.join_one]; exact pieces_no5 c x (h x (by simp))
    | cons y r =>
      have e : Lib.join (x :: y :: r) [c] = x ++ c :: Lib.join (y :: r) [c] := by
        rw [Lib.join_cons, Lib.join_cons]; unfold Lib.joinTail; simp
      rw [e, pieces_app5 c x _ (h x (by simp)), ih (by simp) fun z hz => h z (by simp [hz])]
def otcGood5 (r t : Nat) (b : Bool) : Bool := pieceOk (otcW ⟨(r : Int), b, (t : Int)⟩) && decide ((pieceO (otcW ⟨(r : Int), b, (t : Int)⟩)).runs = (r : Int)) && ((pieceO (otcW ⟨(r : Int), b, (t : Int)⟩)).wick == b) && decide ((pieceO (otcW ⟨(r : Int), b, (t : Int)⟩)).wt = (t : Int)) && !((otcW ⟨(r : Int), b, (t : Int)⟩).contains 32) && ((otcW ⟨(r : Int), b, (t : Int)⟩).all printedB && decide ((otcW ⟨(r : Int), b, (t : Int)⟩).length ≤ 6))
theorem otcGood5_all : (List.range 8).all (fun r => (List.range 16).all fun t => otcGood5 r (t + 1) true && otcGood5 r (t + 1) false) = true := by kernel_rfl
theorem otc_read5 {o : Otc} (h : OkO o) : pieceOk (otcW o) = true ∧ pieceO (otcW o) = o ∧ (32 : UInt8) ∉ otcW o ∧ (otcW o).all printedB = true ∧ (otcW o).length ≤ 6 := by
  obtain ⟨r, b, t⟩ := o
  have h1 := h.r0
  have h2 := h.r7
  have h3 := h.w1
  have h4 := h.w16
  dsimp only at h1 h2 h3 h4
  obtain ⟨r, rfl⟩ : ∃ n : Nat, r = (n : Int) := ⟨r.toNat, by omega⟩
  obtain ⟨t, rfl⟩ : ∃ n : Nat, t = (n : Int) := ⟨t.toNat, by omega⟩
  have k1 := List.all_eq_true.1 otcGood5_all r (List.mem_range.2 (by omega))
  have k2 := List.all_eq_true.1 k1 (t - 1) (List.mem_range.2 (by omega))
  rw [show t - 1 + 1 = t by omega, Bool.and_eq_true] at k2
  have k3 : otcGood5 r t b = true := by cases b; exact k2.2; exact k2.1
  unfold otcGood5 at k3
  rw [Bool.and_eq_true] at k3
  obtain ⟨k3, k4⟩ := k3
  rw [Bool.and_eq_true, decide_eq_true_eq] at k4
  simp only [Bool.and_eq_true, decide_eq_true_eq, beq_iff_eq, Bool.not_eq_true', List.contains_eq_mem, decide_eq_false_iff_not] at k3
  obtain ⟨⟨⟨⟨a, e1⟩, e2⟩, e3⟩, e4⟩ := k3
  refine ⟨a, ?_, e4, k4.1, k4.2⟩
  generalize pieceO (otcW ⟨(r : Int), b, (t : Int)⟩) = p at *
  obtain ⟨p1, p2, p3⟩ := p
  dsimp only at e1 e2 e3
  rw [e1, e2, e3]
theorem parse_text5 {d : List Otc} (h : checkD d = 0) : parseC (textC d).1 = (d, 0) := by
  have hok := checkD_ok h
  have ht : textC d = (Lib.join (d.map otcW) [32], 0) := by unfold textC; rw [if_neg (fun k => k h)]
  have hne : d.map otcW ≠ [] := by intro e; have := hok.len.1; have e2 := congrArg List.length e; rw [List.length_map] at e2; simp at e2; rw [e2] at this; simp at this
  have hp : pieces 32 (Lib.join (d.map otcW) [32]) = d.map otcW := pieces_join5 32 _ hne fun x hx => by
    obtain ⟨o, ho, rfl⟩ := List.mem_map.1 hx
    exact (otc_read5 (hok.each o ho)).2.2.1
  have hm : (d.map otcW).map pieceO = d := by
    rw [List.map_map]
    conv => rhs; rw [← List.map_id d]
    exact List.map_congr_left fun o ho => (otc_read5 (hok.each o ho)).2.1
  have ha : (d.map otcW).all pieceOk = true := List.all_eq_true.2 fun x hx => by
    obtain ⟨o, ho, rfl⟩ := List.mem_map.1 hx
    exact (otc_read5 (hok.each o ho)).1
  unfold parseC
  rw [ht]
  dsimp only
  rw [hp, ha, if_neg (by simp), hm, ht, if_neg (by simp)]
theorem joinTail_facts : ∀ (xs : List (List UInt8)), (∀ x ∈ xs, x.all printedB = true ∧ x.length ≤ 6) → (Lib.joinTail [32] xs).all printedB = true ∧ (Lib.joinTail [32] xs).length ≤ 7 * xs.length
  | [], _ => ⟨rfl, Nat.le_refl _⟩
  | x :: xs, h => by
    obtain ⟨h1, h2⟩ := joinTail_facts xs fun y hy => h y (by simp [hy])
    obtain ⟨g1, g2⟩ := h x (by simp)
    have e : Lib.joinTail [32] (x :: xs) = 32 :: (x ++ Lib.joinTail [32] xs) := by unfold Lib.joinTail; simp
    rw [e, List.all_cons, List.all_append, g1, h1]
    refine ⟨by decide, ?_⟩
    simp only [List.length_cons, List.length_append]
    omega
theorem textC_facts {d : List Otc} (h : checkD d = 0) : (textC d).1.all printedB = true ∧ (textC d).1.length ≤ 120 ∧ (textC d).2 = 0 := by
  have hok := checkD_ok h
  have ht : textC d = (Lib.join (d.map otcW) [32], 0) := by unfold textC; rw [if_neg (fun k => k h)]
  have hall : ∀ x ∈ d.map otcW, x.all printedB = true ∧ x.length ≤ 6 := fun x hx => by
    obtain ⟨o, ho, rfl⟩ := List.mem_map.1 hx
    exact (otc_read5 (hok.each o ho)).2.2.2
  have hl := hok.len.2
  rw [ht]
  refine ⟨?_, ?_, rfl⟩
  · dsimp only
    generalize d.map otcW = xs at hall
    cases xs with
    | nil => rfl
    | cons x r =>
      rw [Lib.join_cons, List.all_append, (hall x (by simp)).1, (joinTail_facts r fun y hy => hall y (by simp [hy])).1]
      rfl
  · dsimp only
    have hlen : (d.map otcW).length ≤ 16 := by rw [List.length_map]; omega
    generalize d.map otcW = xs at hall hlen
    cases xs with
    | nil => simp [Lib.join]
    | cons x r =>
      have h2 := (joinTail_facts r fun y hy => hall y (by simp [hy])).2
      have h3 := (hall x (by simp)).2
      rw [Lib.join_cons, List.length_append]
      simp only [List.length_cons] at hlen
      omega
def shiftGood (n : Nat) : Bool := wordS (decW ((n : Int) - 12)) && decide ((decW ((n : Int) - 12)).length ≤ 20) && decide (numberS (decW ((n : Int) - 12)) (-12) 12 = ((n : Int) - 12, 0))
theorem shiftGood_all : (List.range 25).all shiftGood = true := by kernel_rfl
theorem shift_word {n : Int} (h0 : -12 ≤ n) (h1 : n ≤ 12) : WordOk (decW n) ∧ numberS (decW n) (-12) 12 = (n, 0) := by
  have h := List.all_eq_true.1 shiftGood_all (n + 12).toNat (List.mem_range.2 (by omega))
  unfold shiftGood at h
  have e : (((n + 12).toNat : Nat) : Int) - 12 = n := by omega
  rw [e] at h
  simp only [Bool.and_eq_true, decide_eq_true_eq] at h
  exact ⟨⟨h.1.1, h.1.2⟩, h.2⟩
theorem kM_ok : WordOk kBATTER ∧ WordOk kBOWLER := ⟨⟨by decide, by decide⟩, by decide, by decide⟩
theorem batLine_ok {b : Bat} (hn : nameS b.name = true) (hd : checkD b.dist = 0) : okL (batLine b) ∧ (lineW (batLine b).fields true).length ≤ 400 := by
  have h1 := textC_facts hd
  have h2 := name_ok hn
  have h3 := quoteS_le (textC b.dist).1
  have e : lineW (batLine b).fields true = kBATTER ++ 32 :: (b.name ++ 32 :: quoteS (textC b.dist).1) := by
    have w1 : fieldW (wordF kBATTER) = kBATTER := by unfold fieldW wordF; rw [show wordS kBATTER = true from kM_ok.1.1]; rfl
    have w2 : fieldW (wordF b.name) = b.name := by unfold fieldW wordF; rw [h2.1]; rfl
    have w3 : fieldW ⟨(textC b.dist).1, 0, true⟩ = quoteS (textC b.dist).1 := by unfold fieldW; rfl
    unfold batLine
    simp only [lineW, w1, w2, w3]
    simp
  have hlen : (lineW (batLine b).fields true).length ≤ 400 := by
    rw [e]
    have := h2.2
    have : kBATTER.length = 6 := rfl
    simp only [List.length_append, List.length_cons]
    omega
  refine ⟨⟨by unfold batLine; simp, ?_, by omega⟩, hlen⟩
  intro f hf
  unfold batLine at hf
  simp only [List.mem_cons, List.not_mem_nil, or_false] at hf
  rcases hf with rfl | rfl | rfl
  · exact kM_ok.1.1
  · exact h2.1
  · exact h1.1
theorem bowLine_ok {b : Bow} (hn : nameS b.name = true) (h0 : -12 ≤ b.shift) (h1 : b.shift ≤ 12) : okL (bowLine b) ∧ (lineW (bowLine b).fields true).length ≤ 400 := by
  have h2 := three_ok kM_ok.2 (name_ok hn) (shift_word h0 h1).1
  refine ⟨h2.1, ?_⟩
  have := h2.2
  show (lineW (lineR [kBOWLER, b.name, decW b.shift]).fields true).length ≤ 400
  omega
theorem mdlLines_ok {m : Mdl} (h : OkM m) : (∀ x ∈ mdlLines m, okL x ∧ (lineW x.fields true).length ≤ 400) ∧ (mdlLines m).length ≤ 22 := by
  constructor
  · intro x hx
    unfold mdlLines at hx
    rcases List.mem_append.1 hx with hx | hx
    · obtain ⟨b, hb, rfl⟩ := List.mem_map.1 hx
      have := h.bat b hb
      exact batLine_ok this.1 this.2
    · obtain ⟨b, hb, rfl⟩ := List.mem_map.1 hx
      have := h.bow b hb
      exact bowLine_ok this.1 this.2.1 this.2.2
  · have := h.nb.2; have := h.nw.2
    unfold mdlLines
    rw [List.length_append, List.length_map, List.length_map]; omega
theorem writeM_len : ∀ (ls : List Lin), (∀ x ∈ ls, okL x ∧ (lineW x.fields true).length ≤ 400) → (writeS ls).length ≤ 401 * ls.length
  | [], _ => by simp [writeS]
  | x :: ls, h => by
    have h1 := writeM_len ls fun y hy => h y (by simp [hy])
    have h2 := (h x (by simp)).2
    rw [writeS]
    simp only [List.length_append, List.length_cons]
    have : (endW x.fields).length ≤ 1 := by unfold endW; split <;> simp
    omega
theorem mdlText_len {m : Mdl} (h : OkM m) : (writeS (mdlLines m)).length ≤ 8822 := by
  obtain ⟨h1, h2⟩ := mdlLines_ok h
  have := writeM_len _ h1
  omega
theorem textM_len (m : Mdl) : (textM m).1.length ≤ 8822 := by
  unfold textM
  by_cases h : checkM m ≠ 0
  · rw [if_pos h]; simp
  · rw [if_neg h]; exact mdlText_len (checkM_ok (by omega))
/-! Lines read back. -/
theorem read_str {n c : Int} {fs : List Fld} {k : Nat} {t : List UInt8} {cc : Int} (h : fs[k]? = some ⟨t, cc, true⟩) :
    (⟨n, fs, k, c, 0, 0⟩ : Cur).read true = (⟨n, fs, k + 1, cc, 0, 0⟩, t, true) := by
  unfold Cur.read
  simp [h]
theorem bat_back {b : Bat} (hn : nameS b.name = true) (hd : checkD b.dist = 0) (m : Mdl) (n : Int) : takeM m ⟨n, placeF (batLine b).fields 0⟩ = (⟨m.bats ++ [b], m.bows⟩, none) := by
  obtain ⟨c1, c2, c3, e⟩ : ∃ c1 c2 c3 : Int, placeF (batLine b).fields 0 = [⟨kBATTER, c1, false⟩, ⟨b.name, c2, false⟩, ⟨(textC b.dist).1, c3, true⟩] := ⟨_, _, _, rfl⟩
  rw [e]
  have hne : ¬ kBATTER = kBOWLER := by decide
  have e0 : headM ⟨n, [⟨kBATTER, c1, false⟩, ⟨b.name, c2, false⟩, ⟨(textC b.dist).1, c3, true⟩]⟩ = ⟨kBATTER, c1, false⟩ := rfl
  have e1 : badHead ⟨n, [⟨kBATTER, c1, false⟩, ⟨b.name, c2, false⟩, ⟨(textC b.dist).1, c3, true⟩]⟩ = false := by unfold badHead; rw [e0]; simp
  have e2 : nameM ⟨n, [⟨kBATTER, c1, false⟩, ⟨b.name, c2, false⟩, ⟨(textC b.dist).1, c3, true⟩]⟩ = (⟨n, [⟨kBATTER, c1, false⟩, ⟨b.name, c2, false⟩, ⟨(textC b.dist).1, c3, true⟩], 2, c2, 0, 0⟩, b.name) := by
    unfold nameM Cur.word Cur.start
    rw [read_some (t := kBATTER) (cc := c1) rfl]
    exact ident_some rfl hn
  have e3 : (nameM ⟨n, [⟨kBATTER, c1, false⟩, ⟨b.name, c2, false⟩, ⟨(textC b.dist).1, c3, true⟩]⟩).1.word true = (⟨n, [⟨kBATTER, c1, false⟩, ⟨b.name, c2, false⟩, ⟨(textC b.dist).1, c3, true⟩], 3, c3, 0, 0⟩, (textC b.dist).1) := by
    rw [e2]; unfold Cur.word
    rw [read_str (t := (textC b.dist).1) (cc := c3) rfl]
  have e4 : batM ⟨n, [⟨kBATTER, c1, false⟩, ⟨b.name, c2, false⟩, ⟨(textC b.dist).1, c3, true⟩]⟩ = (⟨n, [⟨kBATTER, c1, false⟩, ⟨b.name, c2, false⟩, ⟨(textC b.dist).1, c3, true⟩], 3, c3, 0, 0⟩, b) := by
    unfold batM
    rw [e3]
    dsimp only
    rw [parse_text5 hd, e2]
    rfl
  unfold takeM
  rw [e1, if_neg (by simp), e0, if_neg hne, e4]
  rfl
theorem int_some5 {n c v : Int} {fs : List Fld} {k : Nat} {cc : Int} (h : fs[k]? = some ⟨decW v, cc, false⟩) (h0 : -12 ≤ v) (h1 : v ≤ 12) : (⟨n, fs, k, c, 0, 0⟩ : Cur).int (-12) 12 = (⟨n, fs, k + 1, cc, 0, 0⟩, v) := by
  unfold Cur.int; rw [read_some h]
  simp only [if_true, (shift_word h0 h1).2]
theorem bow_back {b : Bow} (hn : nameS b.name = true) (h0 : -12 ≤ b.shift) (h1 : b.shift ≤ 12) (m : Mdl) (n : Int) : takeM m ⟨n, placeF (bowLine b).fields 0⟩ = (⟨m.bats, m.bows ++ [b]⟩, none) := by
  obtain ⟨c1, c2, c3, e⟩ : ∃ c1 c2 c3 : Int, placeF (bowLine b).fields 0 = [⟨kBOWLER, c1, false⟩, ⟨b.name, c2, false⟩, ⟨decW b.shift, c3, false⟩] := ⟨_, _, _, rfl⟩
  rw [e]
  have e0 : headM ⟨n, [⟨kBOWLER, c1, false⟩, ⟨b.name, c2, false⟩, ⟨decW b.shift, c3, false⟩]⟩ = ⟨kBOWLER, c1, false⟩ := rfl
  have e1 : badHead ⟨n, [⟨kBOWLER, c1, false⟩, ⟨b.name, c2, false⟩, ⟨decW b.shift, c3, false⟩]⟩ = false := by unfold badHead; rw [e0]; simp
  have e2 : nameM ⟨n, [⟨kBOWLER, c1, false⟩, ⟨b.name, c2, false⟩, ⟨decW b.shift, c3, false⟩]⟩ = (⟨n, [⟨kBOWLER, c1, false⟩, ⟨b.name, c2, false⟩, ⟨decW b.shift, c3, false⟩], 2, c2, 0, 0⟩, b.name) := by
    unfold nameM Cur.word Cur.start
    rw [read_some (t := kBOWLER) (cc := c1) rfl]
    exact ident_some rfl hn
  have e4 : bowM ⟨n, [⟨kBOWLER, c1, false⟩, ⟨b.name, c2, false⟩, ⟨decW b.shift, c3, false⟩]⟩ = (⟨n, [⟨kBOWLER, c1, false⟩, ⟨b.name, c2, false⟩, ⟨decW b.shift, c3, false⟩], 3, c3, 0, 0⟩, b) := by
    unfold bowM
    rw [e2]
    dsimp only
    rw [int_some5 (v := b.shift) (cc := c3) rfl h0 h1]
  unfold takeM
  rw [e1, if_neg (by simp), e0, if_pos rfl, e4]
  rfl
theorem linesM_bows : ∀ (l : List Bow) (m : Mdl) (n : Int) (ds : List Dia), (∀ b ∈ l, nameS b.name = true ∧ -12 ≤ b.shift ∧ b.shift ≤ 12) → linesM (backF (l.map bowLine) n) m ds = (⟨m.bats, m.bows ++ l⟩, ds)
  | [], m, n, ds, _ => by simp [backF, linesM]
  | b :: l, m, n, ds, h => by
    have hb := h b (by simp)
    rw [List.map_cons, backF, linesM, bow_back hb.1 hb.2.1 hb.2.2]
    dsimp only
    rw [linesM_bows l _ _ _ fun x hx => h x (by simp [hx])]
    simp
theorem linesM_bats (tail : List Lin) : ∀ (l : List Bat) (m : Mdl) (n : Int) (ds : List Dia), (∀ b ∈ l, nameS b.name = true ∧ checkD b.dist = 0) → linesM (backF (l.map batLine ++ tail) n) m ds = linesM (backF tail (n + l.length)) ⟨m.bats ++ l, m.bows⟩ ds
  | [], m, n, ds, _ => by simp
  | b :: l, m, n, ds, h => by
    have hb := h b (by simp)
    rw [List.map_cons, List.cons_append, backF, linesM, bat_back hb.1 hb.2]
    dsimp only
    rw [linesM_bats tail l _ _ _ fun x hx => h x (by simp [hx])]
    have e1 : n + 1 + (l.length : Int) = n + ((b :: l).length : Int) := by simp only [List.length_cons]; push_cast; omega
    rw [e1]
    simp
theorem parseM_text {m : Mdl} (h : checkM m = 0) : parseM (textM m).1 = (m, []) := by
  have ho := checkM_ok h
  have et : textM m = (writeS (mdlLines m), 0) := by unfold textM; rw [if_neg (fun k => k h)]
  have hl := mdlText_len ho
  have hs := splitS_back (mdlLines m) (fun x hx => ((mdlLines_ok ho).1 x hx).1) (by omega)
  have hm : linesM (backF (mdlLines m) 1) noMdl [] = (m, []) := by
    unfold mdlLines
    rw [linesM_bats _ _ _ _ _ ho.bat, linesM_bows _ _ _ _ ho.bow]
    unfold noMdl; simp
  unfold parseM
  rw [et]
  dsimp only
  rw [hs]
  dsimp only
  rw [hm]
  dsimp only
  rw [h]
  simp
theorem take_more (all : List Dia) (o : Option Dia) : (all ++ o.toList).take 50 = match o with | none => all.take 50 | some d => if (all.take 50).length < 50 then all.take 50 ++ [d] else all.take 50 := by
  cases o with
  | none => simp
  | some d =>
    dsimp only [Option.toList]
    by_cases h : all.length < 50
    · rw [List.take_of_length_le (by simp; omega), List.take_of_length_le (by omega), if_pos h]
    · rw [List.take_append_of_le_length (by omega), if_neg (by rw [List.length_take]; omega)]
end Go.Proofs.YtglkejlimeakbaaGreatDoor

namespace Go.Proofs.YtglkejlimeakbaaGreatDoor
open Go.RowKit

theorem own_three (w : World) (a b c : ByteArray) (q : Bool) : OwnSl 3 elFld 87 w.heap.size (w.alloc (.cells #[.string a, .int .i64 0, .bool false, .string b, .int .i64 0, .bool false, .string c, .int .i64 0, .bool q] 87)) (.slice (some ⟨w.heap.size, 0, none⟩) 3 3) [wordF a.data.toList, wordF b.data.toList, ⟨c.data.toList, 0, q⟩] :=
  own_lit w [[.string a, .int .i64 0, .bool false], [.string b, .int .i64 0, .bool false], [.string c, .int .i64 0, .bool q]] [wordF a.data.toList, wordF b.data.toList, ⟨c.data.toList, 0, q⟩] rfl (by simp) (by simp [maxLen]) fun i x cs h1 h2 => by
    have hlt := (List.getElem?_eq_some_iff.1 h1).1
    have : i = 0 ∨ i = 1 ∨ i = 2 := by simp at hlt; omega
    rcases this with rfl | rfl | rfl
    · simp at h1 h2; subst h1; subst h2; rfl
    · simp at h1 h2; subst h1; subst h2; rfl
    · simp at h1 h2; subst h1; subst h2; rfl
theorem cells_at5 (w : World) (n : Nat) (hn : w.heap.size = n) (cs : List Value) (e : TypeId) : ∀ j u, cs[j]? = some u → (w.alloc (.cells cs.toArray e)).cell? ((⟨n, 0, none⟩ : Addr).add j) = some u := by
  subst hn; exact cells_new w cs e (0, 0)
/-- append of one element onto a row whose elements reach elsewhere, as a step of a region that draws. -/
theorem step_append_gl5 {P : Program} {ops : Array Oper} {o : Oper} {a : Act} {w : World} {K : Act → World → Prop} {Q : Exit → Act → World → Prop} {E : Prop} (hgd : o.guard = none) (s x : Operand) (t : TypeId)
    (ho : o.op = .call { callee := .builtin .append, args := #[s, x], argTypes := #[t, t] })
    {e : TypeId} {size bytes : Nat} (hE : ElemOf P t e size bytes) {α : Type} {R : World → (Nat → Prop) → List Value → α → Prop} (hR : Good R)
    (base : Nat) (v : Value) (G : Nat → Prop) (l : List α) (hs : a.eval s = v) (hown : OwnG size R e base w v G l)
    (ad : Addr) (c : Nat) (cs : List Value) (hx : a.eval x = .slice (some ad) 1 c) (el : α) (hl : cs.length = size) (hcell : ∀ j u, cs[j]? = some u → w.cell? (ad.add j) = some u)
    (h1 : ∀ u ∈ cs, u.oneCell' = true) (hG : ∀ b, G b → b < w.heap.size ∧ v.ownBlock ≠ some b) (hel : R w G cs el)
    (h63 : l.length + 1 ≤ maxLen) (hbytes : (l.length + 1) * bytes ≤ 140737488355328) (hbase : base ≤ w.heap.size)
    (h : ∀ g cap w', OwnG size R e base w' (.slice (some ⟨g, 0, none⟩) (l.length + 1) cap) G (l ++ [el]) → w.grownBy w' v.ownBlock → (some g = v.ownBlock ∨ g = w.heap.size) → K (a.put o.dst (.slice (some ⟨g, 0, none⟩) (l.length + 1) cap)) w') :
    if Region.wanted o (yielded ops a.tmps) = true then Oper.wp P o a w K Q else E := by
  have hw : Region.wanted o (yielded ops a.tmps) = true := by simp [Region.wanted, hgd]
  rw [if_pos hw]
  obtain ⟨i, z, e1, e2, e3, e4, e5, e6, e7⟩ := hE
  obtain ⟨css, hlen, ho', hsz, hel'⟩ := hown
  obtain ⟨v', w', hr, h2, h3, _, h4⟩ := run_append_own_at (P := P) w base t o.type e i z size bytes e1 e2 e3 e4 e5 e6 e7 v l.length css.flatten ho' ad 1 c cs (by omega) hcell h1 h63 hbytes hbase
  unfold Oper.wp execOp
  simp only [ho, resolve, invoke, builtin, Sem.run_bind, Sem.run_pure, Result.andThen_ok, List.map_toArray, List.map_cons, List.map_nil, hs, hx, hr]
  have hnew : OwnG size R e base w' v' G (l ++ [el]) := OwnG.snoc hR hlen hsz hel' h2 (Same.grown h3 fun b hb => ⟨(hG b hb).1, fun e => (hG b hb).2 e.symm⟩) hl hel
  obtain ⟨xs, _, ⟨_, h0⟩ | ⟨g, cap, cur, rfl, _⟩⟩ := hnew.owns
  · simp at h0
  · simp only [List.length_append, List.length_cons, List.length_nil, Nat.zero_add] at h4 hnew ⊢
    refine h g cap w' hnew h3 ?_
    rcases h4 with h4 | h4
    · exact .inl h4
    · exact .inr (by simpa [Value.ownBlock] using h4)
/-- A box of two cells beside the lines so far. -/
structure BxAt (w0 W : World) (v : Value) (out : List Lin) (bx : Nat) (t : TypeId) (p q : Value) : Prop where
  inv : SplitInv w0.heap.size w0 W v noD out []
  blk : Blk W bx t #[p, q]
section
variable {w0 W W' : World} {v : Value} {out : List Lin} {bx : Nat} {t : TypeId} {p q : Value}
theorem BxAt.below (h : BxAt w0 W v out bx t p q) (hb : Below W.heap.size W W') : BxAt w0 W' v out bx t p q := ⟨h.inv.below hb, h.blk.below hb h.blk.lt⟩
theorem BxAt.drew (h : BxAt w0 W v out bx t p q) : BxAt w0 W.drew v out bx t p q := h.below (Below.drew (Below.refl _ _))
theorem BxAt.cells (h : BxAt w0 W v out bx t p q) : W.cell? ⟨bx, 0, none⟩ = some p ∧ W.cell? ⟨bx, 1, none⟩ = some q := ⟨h.blk.cell 0, h.blk.cell 1⟩
theorem BxAt.new {wr : World} (h : SplitInv w0.heap.size w0 wr v noD out []) (t : TypeId) (p q : Value) : BxAt w0 (wr.alloc (.cells #[p, q] t)) v out wr.heap.size t p q :=
  ⟨h.below (Below.alloc (Below.refl _ _) (Nat.le_refl _) _), Blk.new wr _ _⟩
/-- A line of three fields, laid behind the world W. -/
theorem BxAt.line (h : BxAt w0 W v out bx t p q) (a b c : ByteArray) (b' : Bool) : 
    SplitInv w0.heap.size w0 ((W.alloc (.cells #[.string a, .int .i64 0, .bool false, .string b, .int .i64 0, .bool false, .string c, .int .i64 0, .bool b'] 87)).alloc (.cells #[.int .i64 0, .slice (some ⟨W.heap.size, 0, none⟩) 3 3] 56)) v noD out [] ∧
    Blk ((W.alloc (.cells #[.string a, .int .i64 0, .bool false, .string b, .int .i64 0, .bool false, .string c, .int .i64 0, .bool b'] 87)).alloc (.cells #[.int .i64 0, .slice (some ⟨W.heap.size, 0, none⟩) 3 3] 56)) bx t #[p, q] ∧
    elLin ((W.alloc (.cells #[.string a, .int .i64 0, .bool false, .string b, .int .i64 0, .bool false, .string c, .int .i64 0, .bool b'] 87)).alloc (.cells #[.int .i64 0, .slice (some ⟨W.heap.size, 0, none⟩) 3 3] 56)) (lineG w0.heap.size ((W.alloc (.cells #[.string a, .int .i64 0, .bool false, .string b, .int .i64 0, .bool false, .string c, .int .i64 0, .bool b'] 87)).alloc (.cells #[.int .i64 0, .slice (some ⟨W.heap.size, 0, none⟩) 3 3] 56)) v noD) [.int .i64 0, .slice (some ⟨W.heap.size, 0, none⟩) 3 3] ⟨0, [wordF a.data.toList, wordF b.data.toList, ⟨c.data.toList, 0, b'⟩]⟩ := by
  have h3 := own_three W a b c b'
  have hb : Below W.heap.size W (W.alloc (.cells #[.string a, .int .i64 0, .bool false, .string b, .int .i64 0, .bool false, .string c, .int .i64 0, .bool b'] 87)) := Below.alloc (Below.refl _ _) (Nat.le_refl _) _
  have h1 := h.below hb
  have h2 := h1.below (Below.alloc (Below.refl _ _) (Nat.le_refl _) (.cells #[.int .i64 0, .slice (some ⟨W.heap.size, 0, none⟩) 3 3] 56))
  exact ⟨h2.inv, h2.blk, h.inv.fields_el hb (h3.sl elFld_good) _⟩
theorem lines_app {W2 : World} {g6 cap6 : Nat} {x : Lin} (h : SplitInv w0.heap.size w0 W v noD out []) (hk : Blk W bx t #[p, q]) (ht : 56 ≠ t) (ho : OwnG 2 elLin 56 w0.heap.size W2 (.slice (some ⟨g6, 0, none⟩) (out.length + 1) cap6) (lineG w0.heap.size W v noD) (out ++ [x]))
    (hg : W.grownBy W2 v.ownBlock) (hat : some g6 = v.ownBlock ∨ g6 = W.heap.size) : BxAt w0 W2 (.slice (some ⟨g6, 0, none⟩) (out.length + 1) cap6) (out ++ [x]) bx t p q :=
  ⟨h.line ho hg (by rcases hat with e | e; exact .inl e; exact .inr (by rw [← e]; rfl)), hk.grown hg (own_ne h.hv hk ht)⟩
end
theorem lines_sl {B : Nat} {w0 wr : World} {v : Value} {out : List Lin} (h : SplitInv B w0 wr v noD out []) : Sl 2 elLin wr (· < wr.heap.size) v out := h.hv.sl elLin_good (fun b hb => hb.2.1) fun b _ h => h
theorem take_map {α β : Type} (f : α → β) {l : List α} {k : Nat} (h : k < l.length) : (l.take (k + 1)).map f = (l.take k).map f ++ [f l[k]] := by
  rw [List.take_succ_eq_append_getElem h, List.map_append]; rfl
theorem textM_bad {m : Mdl} (h : checkM m ≠ 0) : textM m = ([], checkM m) := by unfold textM; rw [if_pos h]
theorem textM_good {m : Mdl} (h : checkM m = 0) : textM m = (writeS (mdlLines m), 0) := by unfold textM; rw [if_neg (fun k => k h)]
theorem m_Text_bad (m : Mdl) (bv wv : Value) (w : World) (h : MdlAt w (· < w.heap.size) bv wv m) (hc : checkM m ≠ 0) :
    Calls Tryz.prog 16 #[.agg #[bv, wv]] w (TextPost w (textM m)) := by
  have hb1 : Below w.heap.size w (w.alloc (.cells #[bv, wv] 35)) := Below.alloc (Below.refl _ _) (Nat.le_refl _) _
  have kc := m_Check m _ _ _ (h.below hb1)
  rw [textM_bad hc]
  obtain ⟨A, c, rfl, _, _⟩ := h.bat.shape
  obtain ⟨A', c', rfl, _, _⟩ := h.bow.shape
  generalize checkM m = z at *
  have e0 : (z != 0) = true := by simp [hc]
  have KC := Lib.hid kc
  have HB := Lib.hid hb1
  clear kc hb1 h hc
  go_enter Tryz.func16, Tryz.ntmps16
  go_wp2_with (go_at_call 41; refine KC.out.mono ?_; rintro x w1 ⟨rfl, hb2⟩; have HB1 := Lib.hid (HB.out.trans (hb2.mono HB.out.size)); clear hb2)
  refine bodyPost_ret (v := .tuple #[.string ⟨#[]⟩, .int .i64 z]) (by simp [results, Tryz.results16, go_sem]) rfl ⟨?_, HB1.out⟩
  rfl
set_option maxRecDepth 100000 in
set_option maxHeartbeats 2000000 in
theorem m_Text (m : Mdl) (bv wv : Value) (w : World) (hg : GlobN w) (h : MdlAt w (· < w.heap.size) bv wv m) :
    Calls Tryz.prog 16 #[.agg #[bv, wv]] w (TextPost w (textM m)) := by
  by_cases hc0 : checkM m ≠ 0
  · exact m_Text_bad m bv wv w h hc0
  have hc0 : checkM m = 0 := by omega
  rw [textM_good hc0]
  have ho := checkM_ok hc0
  have hl8 := mdlText_len ho
  have hlen : m.bats.length ≤ 11 ∧ m.bows.length ≤ 11 := ⟨ho.nb.2, ho.nw.2⟩
  have hb1 : Below w.heap.size w (w.alloc (.cells #[bv, wv] 35)) := Below.alloc (Below.refl _ _) (Nat.le_refl _) _
  have kc0 := m_Check m _ _ _ (h.below hb1)
  have hx0 := Blk.new w 35 #[bv, wv]
  rw [hc0] at kc0
  have kc : Calls Tryz.prog 41 #[.agg #[bv, wv]] (w.alloc (.cells #[bv, wv] 35)) fun e w1 => e = .returned (.int .i64 0) ∧ Below w.heap.size w w1 ∧ Blk w1 w.heap.size 35 #[bv, wv] := by
    refine kc0.mono ?_
    rintro e w1 ⟨rfl, hb2⟩
    exact ⟨rfl, hb1.trans (hb2.mono hb1.size), hx0.below hb2 hx0.lt⟩
  obtain ⟨A, c, rfl, hcc, hcc2⟩ := h.bat.shape
  obtain ⟨A', c', rfl, hcc', hcc2'⟩ := h.bow.shape
  obtain ⟨R, hR⟩ : ∃ R, R = writeS (mdlLines m) := ⟨_, rfl⟩
  rw [← hR] at hl8 ⊢
  have HR := Lib.hid hR
  have HL8 := Lib.hid hl8
  have KC := Lib.hid kc
  have HM := Lib.hid h
  have HG := Lib.hid hg
  have HO := Lib.hid ho
  have hn1 := hlen.1
  have hn2 := hlen.2
  clear kc kc0 hx0 hb1 h hg ho hl8 hR hlen hc0
  go_enter Tryz.func16, Tryz.ntmps16
  go_wp2_with (go_at_call 41; refine KC.out.mono ?_; rintro e w1 ⟨rfl, hb1, hx1⟩; obtain ⟨r0, r1, _, _⟩ := hx1.duo; have HB1 := Lib.hid hb1; have HX1 := Lib.hid hx1; clear hb1 hx1)
  go_loopw [5, 20] (fun v i wr => ∃ (k : Nat) (out : List Lin), k ≤ m.bats.length ∧ i = .int .i64 k ∧ Hid (SplitInv w1.heap.size w1 wr v noD out []) ∧ Hid (out = (m.bats.take k).map batLine) ∧ Hid (out.length = k) ∧ (∃ A n c, v = .slice A n c))
    (fun _ i _ => m.bats.length - (intOf i).toNat)
  case atStart => exact ⟨0, [], Nat.zero_le _, rfl, Lib.hid ⟨OwnG.nil _, OwnSl.nil _, Below.refl _ _, Nat.le_refl _⟩, Lib.hid rfl, Lib.hid rfl, ⟨_, _, _, rfl⟩⟩
  case round =>
    obtain ⟨k, out, hk, rfl, HI, hqk, hol, ⟨Au, nu, cu, rfl⟩⟩ := hrel
    have HBR := Lib.hid (HB1.out.trans (HI.out.hb.mono HB1.out.size))
    by_cases hlt : k < m.bats.length
    · obtain ⟨b0, o, v, rfl, hbl, yy0, yy1, hv, hpl⟩ := bat_at HM.out.bat hlt
      have y0 := (HBR.out.cell (p := ⟨b0, o + k * 2, none⟩) hbl).trans yy0
      have y1 := (HBR.out.cell (p := ⟨b0, o + k * 2 + 1, none⟩) hbl).trans yy1
      have htk := take_map batLine hlt
      have hdok := HO.out.bat _ (List.getElem_mem hlt)
      obtain ⟨⟨p, d⟩, hp⟩ : ∃ b, b = m.bats[k] := ⟨_, rfl⟩
      rw [← hp] at y0 hv hpl htk hdok
      dsimp only at y0 hv hpl hdok
      obtain ⟨A2, c2, hve, _, _⟩ := hv.shape
      obtain ⟨n2, hn2'⟩ : ∃ n, n = d.length := ⟨_, rfl⟩
      rw [← hn2'] at hve
      subst hve
      have hbx := BxAt.new HI.out 82 (.string (S p)) (.slice A2 n2 c2)
      obtain ⟨x0, x1⟩ := hbx.cells
      have HBX := Lib.hid hbx
      have hbw : Below w.heap.size w (wr.alloc (.cells #[.string (S p), .slice A2 n2 c2] 82)) := HBR.out.alloc HBR.out.size _
      have kt := ch_Text d (.slice A2 n2 c2) _ (HG.out.below hbw) (hv.keep elOtc_good (Same.of_below hbw) fun b h => Nat.lt_of_lt_of_le h hbw.size)
      rw [(textC_facts hdok.2).2.2] at kt
      have hb9 : batLine ⟨p, d⟩ = ⟨0, [wordF kBATTER, wordF p, ⟨(textC d).1, 0, true⟩]⟩ := rfl
      rw [hb9] at htk
      generalize (textC d).1 = t at *
      have HTK := Lib.hid htk
      have KT := Lib.hid kt
      have hol11 : out.length ≤ 11 := by have := hol.out; omega
      clear yy0 yy1 hp hv htk hdok hbx hbw kt hbl hb9 hn2'
      have tok0 : True := trivial
      go_wp2_with (first
        | (clear tok0; go_at_call 39; refine KT.out.mono ?_; rintro e w2 ⟨rfl, hb2⟩; have hbx2 := HBX.out.below hb2; clear x0 x1; obtain ⟨x0, x1⟩ := hbx2.cells; have HX2 := Lib.hid hbx2; clear hb2 hbx2; have tok1 : True := trivial)
        | (clear tok1; at_builtin; obtain ⟨hi3, hk3, he3⟩ := HX2.out.line ⟨#[66, 65, 84, 84, 69, 82]⟩ (S p) (S t) true; refine wpList_append_g _ rfl (.tmp 30) (.tmp 39) _ rfl E_lin elLin_good w1.heap.size _ (lineG w1.heap.size _ _ noD) out rfl hi3.hv ⟨w2.heap.size + 1, 0, none⟩ 1 [.int .i64 0, .slice (some ⟨w2.heap.size, 0, none⟩) 3 3] rfl ⟨0, [wordF kBATTER, wordF p, ⟨t, 0, true⟩]⟩ rfl (cells_at5 _ _ (by simp) _ _) (oneCells rfl) (fun b hb => ⟨hb.2.1, hb.2.2.1⟩) he3 (by simp only [maxLen]; omega) (by omega) hi3.hz ?_; intro v5 w5 hown5 hg5 hat5; have hi5 := hi3.line hown5 hg5 hat5; obtain ⟨A5, c5, hv5, _, _⟩ := (lines_sl hi5).shape; rw [List.length_append, List.length_singleton] at hv5; subst hv5; have HI5 := Lib.hid hi5; clear hi3 hk3 he3 hown5 hg5 hat5 hi5; have tok2 : True := trivial))
      go_roundw
      case rel => exact ⟨k + 1, _, by omega, by go_num, HI5, by unfold Hid; rw [HTK.out, ← hqk.out], by unfold Hid; rw [List.length_append, hol.out]; rfl, ⟨_, _, _, rfl⟩⟩
      case measure => simp [intOf]; omega
    · obtain rfl : k = m.bats.length := by omega
      have hx := HX1.out.below HI.out.hb HX1.out.lt
      obtain ⟨r0, r1, _, _⟩ := hx.duo
      have hqk2 := hqk.out
      rw [List.take_of_length_le (Nat.le_refl _)] at hqk2
      have HQ := Lib.hid hqk2
      have HI0 := HI
      have HOL := hol
      clear hx hqk2 hqk hk hlt hol HI
      go_wp2
      obtain ⟨out0, hout0⟩ : ∃ o, o = out := ⟨_, rfl⟩
      go_loopw [5, 45] (fun v i wz => ∃ (k : Nat) (out : List Lin), k ≤ m.bows.length ∧ i = .int .i64 k ∧ Hid (SplitInv w1.heap.size w1 wz v noD out []) ∧ Hid (out = m.bats.map batLine ++ (m.bows.take k).map bowLine) ∧ Hid (out.length = m.bats.length + k) ∧ (∃ A n c, v = .slice A n c))
        (fun _ i _ => m.bows.length - (intOf i).toNat)
      case atStart => exact ⟨0, out, Nat.zero_le _, rfl, HI0, Lib.hid (by rw [HQ.out]; simp), Lib.hid HOL.out, ⟨_, _, _, rfl⟩⟩
      case round =>
        clear HI0 HQ HOL HBR r0 r1 hout0 out0 out
        obtain ⟨k, out, hk, rfl, HI, hqk, hol, ⟨Au, nu, cu, rfl⟩⟩ := hrel
        have HBR := Lib.hid (HB1.out.trans (HI.out.hb.mono HB1.out.size))
        by_cases hlt : k < m.bows.length
        · obtain ⟨b0, o, rfl, hbl, yy0, yy1, hpl⟩ := bow_at HM.out.bow hlt
          have y0 := (HBR.out.cell (p := ⟨b0, o + k * 2, none⟩) hbl).trans yy0
          have y1 := (HBR.out.cell (p := ⟨b0, o + k * 2 + 1, none⟩) hbl).trans yy1
          have htk := take_map bowLine hlt
          have hdok := HO.out.bow _ (List.getElem_mem hlt)
          obtain ⟨⟨p, s⟩, hp⟩ : ∃ b, b = m.bows[k] := ⟨_, rfl⟩
          rw [← hp] at y0 y1 hpl htk hdok
          dsimp only at y0 y1 hpl hdok
          obtain ⟨_, s0, s1⟩ := hdok
          have hbx := BxAt.new HI.out 85 (.string (S p)) (.int .i64 s)
          have HP := Lib.hid hbx.drew
          have hbw : Below w.heap.size w (wr.alloc (.cells #[.string (S p), .int .i64 s] 85)).drew := Below.drew (HBR.out.alloc HBR.out.size _)
          have kt := text_Decimal s _ (HG.out.below hbw) (by omega) (by omega)
          have hb9 : bowLine ⟨p, s⟩ = ⟨0, [wordF kBOWLER, wordF p, ⟨Lib.itoa s, 0, false⟩]⟩ := rfl
          rw [hb9] at htk
          generalize Lib.itoa s = t at *
          have HTK := Lib.hid htk
          have KT := Lib.hid kt
          have hol22 : out.length ≤ 22 := by have := hol.out; omega
          clear yy0 yy1 hp htk hbx hbw kt hbl hb9
          have tok0 : True := trivial
          go_wp2
          obtain ⟨c0, c1⟩ := HP.out.cells
          go_region_held3 (fun w' => w'.cell? ⟨wr.heap.size, 0, none⟩ = some (.string (S p)) ∧ w'.cell? ⟨wr.heap.size, 1, none⟩ = some (.int .i64 s)) (first | exact ⟨c0, c1⟩ | go_keep) (first
            | (clear tok0; go_at_call 45; refine KT.out.mono ?_; rintro e w2 ⟨rfl, hb2⟩; have hp2 := HP.out.below hb2; clear c0 c1; obtain ⟨c0, c1⟩ := hp2.cells; have hz2 := hp2.blk.lt; have HP2 := Lib.hid hp2; clear hp2 hb2; have tok1 : True := trivial)
            | (clear tok1; obtain ⟨hi3, hk3, he3⟩ := HP2.out.line ⟨#[66, 79, 87, 76, 69, 82]⟩ (S p) (S t) false; refine step_append_gl5 rfl (.tmp 49) (.tmp 60) _ rfl E_lin elLin_good w1.heap.size _ _ out rfl hi3.hv ⟨w2.heap.size + 1, 0, none⟩ 1 [.int .i64 0, .slice (some ⟨w2.heap.size, 0, none⟩) 3 3] rfl ⟨0, [wordF kBOWLER, wordF p, ⟨t, 0, false⟩]⟩ rfl (cells_at5 _ _ (by simp) _ _) (oneCells rfl) (fun b hb => ⟨hb.2.1, hb.2.2.1⟩) he3 (by simp only [maxLen]; omega) (by omega) hi3.hz ?_; intro g6 cap6 w6 hown6 hg6 hat6; have hp6 := lines_app hi3 hk3 (by decide) hown6 hg6 hat6; obtain ⟨c0, c1⟩ := hp6.cells; have HP6 := Lib.hid hp6; clear hi3 hk3 he3 hp6 hown6 hg6 hat6; have tok2 : True := trivial))
          go_wp2
          go_roundw
          case rel => exact ⟨k + 1, _, by omega, by go_num, Lib.hid HP6.out.inv, by unfold Hid; rw [HTK.out, ← List.append_assoc, ← hqk.out], by unfold Hid; rw [List.length_append, hol.out]; rfl, ⟨_, _, _, rfl⟩⟩
          case measure => simp [intOf]; omega
        · obtain rfl : k = m.bows.length := by omega
          have hqk2 := hqk.out
          rw [List.take_of_length_le (Nat.le_refl _)] at hqk2
          have hw := text_Write _ out wr (HG.out.below HBR.out).glob (lines_sl HI.out) (by have := HL8.out; rw [HR.out] at this; rw [hqk2]; unfold mdlLines at this; omega)
          have er : writeS out = R := by rw [HR.out, hqk2]; rfl
          rw [er] at hw
          have KW := Lib.hid hw
          clear hqk2 hqk hw er
          go_wp2_with (go_at_call 46; refine KW.out.mono ?_; rintro x w9 ⟨rfl, hb9⟩)
          exact bodyPost_ret (v := .tuple #[.string (S R), .int .i64 0]) (by simp [results, Tryz.results16, go_sem]) rfl ⟨rfl, HBR.out.trans (hb9.mono HBR.out.size)⟩
end Go.Proofs.YtglkejlimeakbaaGreatDoor

namespace Go.Proofs.YtglkejlimeakbaaGreatDoor
open Go.RowKit

theorem S_app (a b : List UInt8) : S a ++ S b = S (a ++ b) := by
  have := data_app (S a) (S b)
  rw [← S_of (S a ++ S b), this]; rfl
theorem S_one (s : ByteArray) (k : Nat) (h : k < s.size) : s.extract k (k + 1) = S [s[k]] := by
  have : (s.extract k (k + 1)).data.toList = [s[k]] := by
    rw [Lib.extract_data, drop_cons s k h]
    simp
  rw [← S_of (s.extract k (k + 1)), this]
set_option maxRecDepth 100000 in
set_option maxHeartbeats 1000000 in
theorem ref_Quote (s : ByteArray) (w : World) (hs : s.size ≤ 1000000000) :
    Calls Tryz.prog 48 #[.string s] w fun e w' => e = .returned (.string (S (quoteS s.data.toList))) ∧ w' = w := by
  have q1 : (⟨#[34]⟩ : ByteArray) = S [34] := rfl
  have hle : ∀ k, (34 :: subst1 34 [34, 34] (s.data.toList.take k)).length ≤ 2000000001 := fun k => by
    have h1 := subst1_le (s.data.toList.take k)
    have h2 : (s.data.toList.take k).length ≤ s.size := by simp; omega
    simp only [List.length_cons]; omega
  obtain ⟨res, hres⟩ : ∃ r, r = quoteS s.data.toList := ⟨_, rfl⟩
  rw [← hres]
  have HR := Lib.hid hres
  have HLE := Lib.hid hle
  clear hres hle
  go_enter Tryz.func48, Tryz.ntmps48
  go_wp2
  go_loop [3, 4] (fun o i => ∃ (k : Nat) (cur : List UInt8), k ≤ s.size ∧ i = .int .i64 k ∧ o = .string (S cur) ∧ Hid (cur = 34 :: subst1 34 [34, 34] (s.data.toList.take k))) (fun _ i => s.size - (intOf i).toNat)
  case atStart => exact ⟨0, [34], Nat.zero_le _, rfl, rfl, rfl⟩
  case round =>
    obtain ⟨k, cur, hk, rfl, rfl, hcur⟩ := hrel
    have hcl : cur.length ≤ 2000000001 := by rw [hcur.out]; exact HLE.out k
    by_cases hlt : k < s.size
    · have hsn := subst1_snoc (s.data.toList.take k) s[k]
      rw [← take_snoc s k hlt] at hsn
      have hone := S_one s k hlt
      have hi1 : (k : Int) + 1 ≤ (s.size : Int) := by omega
      by_cases hq : s[k] = 34
      · have e1 : ((s[k].toNat : Int) == 34) = true := by rw [hq]; rfl
        rw [if_pos hq] at hsn
        rw [hq] at hone
        have hfin : 34 :: subst1 34 [34, 34] (s.data.toList.take (k + 1)) = cur ++ [34] ++ [34] := by rw [hsn, hcur.out]; simp
        have s1 : (⟨#[34]⟩ : ByteArray).size = 1 := rfl
        have a1 := fun W => run_string_add_sum (P := Tryz.prog) W (S cur) ⟨#[34]⟩ (by rw [s1, S_size]; omega)
        have a2 := fun W => run_string_add_sum (P := Tryz.prog) W (S cur ++ ⟨#[34]⟩) (s.extract k (k + 1)) (by rw [ByteArray.size_append, s1, S_size, hone, S_size]; simp; omega)
        clear s1
        have HF := Lib.hid hfin
        have HO := Lib.hid hone
        clear hsn hfin hone hq
        go_wp2
        go_round
        case rel => exact ⟨k + 1, cur ++ [34] ++ [34], by omega, by go_num, by rw [HO.out, S_app, S_app], HF.out.symm⟩
        case measure => simp [intOf]; omega
      · have e1 : ((s[k].toNat : Int) == 34) = false := beq_eq_false_iff_ne.2 fun e => hq (byte_eq 34 e)
        rw [if_neg hq] at hsn
        have hfin : 34 :: subst1 34 [34, 34] (s.data.toList.take (k + 1)) = cur ++ [s[k]] := by rw [hsn, hcur.out]; simp
        have a2 := fun W => run_string_add_sum (P := Tryz.prog) W (S cur) (s.extract k (k + 1)) (by rw [S_size, hone, S_size]; simp; omega)
        have HF := Lib.hid hfin
        have HO := Lib.hid hone
        clear hsn hfin hone hq
        go_wp2
        go_round
        case rel => exact ⟨k + 1, cur ++ [s[k]], by omega, by go_num, by rw [HO.out, S_app], HF.out.symm⟩
        case measure => simp [intOf]; omega
    · obtain rfl : k = s.size := by omega
      have s1 : (⟨#[34]⟩ : ByteArray).size = 1 := rfl
      have a1 := fun W => run_string_add_sum (P := Tryz.prog) W (S cur) ⟨#[34]⟩ (by rw [s1, S_size]; omega)
      clear s1
      go_wp2
      go_ret
      refine ⟨?_, rfl⟩
      have hc := hcur.out
      rw [List.take_of_length_le (by simp)] at hc
      rw [S_app, HR.out, hc]
      rfl

end Go.Proofs.YtglkejlimeakbaaGreatDoor

namespace Go.Proofs.YtglkejlimeakbaaGreatDoor
open Go.RowKit

theorem Blk.two {w : World} {g : Nat} {t : TypeId} {a b : Value} (h : Blk w g t #[a, b]) :
    w.cell? ⟨g, 0, none⟩ = some a ∧ w.cell? ⟨g, 1, none⟩ = some b ∧ w.frozen? ⟨g, 0, none⟩ = false ∧ w.frozen? ⟨g, 1, none⟩ = false := ⟨h.cell 0, h.cell 1, h.frozen 0, h.frozen 1⟩
/-- A spread and an error, handed back. -/
def SprPost (w : World) (r : Spr × Int) (e : Ending) (w' : World) : Prop :=
  ∃ v, e = .returned (.tuple #[sprV r.1 v, .int .i64 r.2]) ∧ Sl 1 elInt w' (fun b => w.heap.size ≤ b ∧ b < w'.heap.size) v r.1.ws ∧ Below w.heap.size w w'
end Go.Proofs.YtglkejlimeakbaaGreatDoor

namespace Go.Proofs.YtglkejlimeakbaaGreatDoor
open Go.RowKit

section
variable {w W : World} {gr : Nat} {gs : Option Nat} {a b : Spr} {va vb : Value} {N : Nat} {f f' : Nat → Int}
end
end Go.Proofs.YtglkejlimeakbaaGreatDoor

namespace Go.Proofs.YtglkejlimeakbaaGreatDoor
open Go.RowKit

end Go.Proofs.YtglkejlimeakbaaGreatDoor

namespace Go.Proofs.YtglkejlimeakbaaGreatDoor
open Go.RowKit

end Go.Proofs.YtglkejlimeakbaaGreatDoor

namespace Go.Proofs.YtglkejlimeakbaaGreatDoor
open Go.RowKit

theorem itoa_le {n : Int} (h0 : 0 ≤ n) (h : n ≤ 9223372036854775807) : (Lib.itoa n).length ≤ 20 := by
  have := decDigits_le (u := n.toNat) (by omega)
  unfold Lib.itoa
  rw [if_neg (by omega)]
  omega
end Go.Proofs.YtglkejlimeakbaaGreatDoor

namespace Go.Proofs.YtglkejlimeakbaaGreatDoor
open Go.RowKit

/-- A slice that lies below. -/
theorem otc_below {w w' : World} {v : Value} {d : List Otc} (h : Sl 3 elOtc w (· < w.heap.size) v d) (hb : Below w.heap.size w w') : Sl 3 elOtc w' (· < w'.heap.size) v d := h.keep elOtc_good (Same.of_below hb) fun _ h => Nat.lt_of_lt_of_le h hb.size
end Go.Proofs.YtglkejlimeakbaaGreatDoor

namespace Go.Proofs.YtglkejlimeakbaaGreatDoor
open Go.RowKit

def SprOut (W : World) (r : Spr × Int) (e : Ending) (W' : World) : Prop :=
  ∃ D k, e = .returned (.tuple #[.agg #[.int .i64 r.1.balls, .slice D r.1.ws.length k], .int .i64 r.2]) ∧ Sl 1 elInt W' (· < W'.heap.size) (.slice D r.1.ws.length k) r.1.ws ∧ Below W.heap.size W W'
theorem SprPost.out {W : World} {r : Spr × Int} {e : Ending} {W' : World} (h : SprPost W r e W') : SprOut W r e W' := by
  obtain ⟨v, rfl, hs, hb⟩ := h
  obtain ⟨D, k, rfl, _⟩ := hs.shape
  exact ⟨D, k, rfl, hs.keep elInt_good (Same.refl _ _) fun _ h => h.2, hb⟩
end Go.Proofs.YtglkejlimeakbaaGreatDoor

namespace Go.Proofs.YtglkejlimeakbaaGreatDoor
section
open Go.RowKit

theorem dig_at : ∀ r : Nat, r < 10 → (⟨#[48, 49, 50, 51, 52, 53, 54, 55, 56, 57]⟩ : ByteArray).extract r (r + 1) = S [UInt8.ofNat (48 + r)] := by
  intro r h
  match r, h with
  | 0, _ => rfl
  | 1, _ => rfl
  | 2, _ => rfl
  | 3, _ => rfl
  | 4, _ => rfl
  | 5, _ => rfl
  | 6, _ => rfl
  | 7, _ => rfl
  | 8, _ => rfl
  | 9, _ => rfl
theorem padR_len (M u : Nat) (s : List UInt8) : s.length ≤ (padR M u s).length := by
  unfold padR
  split
  · simp
  · simp; omega
theorem padS_small (u : Nat) (h : u ≤ 9223372036854775807) (width : Int) : (padS (u : Int) width).length ≤ 100 := by
  unfold padS
  have := decDigits_le (u := u) (by omega)
  simp only [List.length_append, List.length_replicate]
  rw [if_neg (by omega), Int.natAbs_natCast]
  simp; omega
theorem S_cons (c : UInt8) (t : ByteArray) : S [c] ++ t = S (c :: t.data.toList) := by
  apply ByteArray.ext; apply Array.ext'
  simp [S, ByteArray.data_append]
theorem empty_app (t : ByteArray) : (⟨#[]⟩ : ByteArray) ++ t = t := by
  apply ByteArray.ext; apply Array.ext'
  simp [ByteArray.data_append]
set_option maxRecDepth 100000 in
set_option maxHeartbeats 1000000 in
theorem ref_Padded (u : Nat) (width : Int) (w : World) (h1 : u ≤ 9223372036854775807) (k0 : -9223372036854775808 ≤ width) (k1 : width ≤ 9223372036854775807) :
    Calls Tryz.prog 101 #[.int .i64 (u : Int), .int .i64 width] w fun e w' => e = .returned (.string (S (padS (u : Int) width))) ∧ w = w' := by
  obtain ⟨M, hM⟩ : ∃ M : Nat, (M : Int) = max 1 (min width 20) := ⟨(max 1 (min width 20)).toNat, by omega⟩
  have hm20 : M ≤ 20 := by omega
  have hm1 : 1 ≤ M := by omega
  have hmm : max 1 (min width 20) = (M : Int) := hM.symm
  have hst : padS (u : Int) width = padR M u [] := by
    have := padR_all u width
    rw [hmm, Int.toNat_natCast] at this
    rw [this]
    unfold padS
    rw [if_neg (by omega), List.nil_append]; rfl
  have HL := Lib.hid (padS_small u h1 width)
  obtain ⟨z, hz⟩ : ∃ z, z = padS (u : Int) width := ⟨_, rfl⟩
  rw [← hz] at hst HL ⊢
  have HS0 := Lib.hid hst
  have hn0 : ¬ (u : Int) < 0 := by omega
  clear hst hz hM
  go_enter Tryz.func101, Tryz.ntmps101
  go_wp2
  go_loop [6, 8] (fun uv tv => ∃ (k : Nat) (t : ByteArray), uv = .int .u64 (k : Int) ∧ tv = .string t ∧ k ≤ 9223372036854775807 ∧ Hid (z = padR M k t.data.toList)) (fun uv tv => (intOf uv).toNat + (M - (match tv with | .string t => t.size | _ => 0)))
  case atStart => exact ⟨u, ⟨#[]⟩, rfl, rfl, h1, Lib.hid HS0.out⟩
  case round =>
    obtain ⟨k, t, rfl, rfl, hk, HS⟩ := hrel
    have hts : t.size ≤ 100 := by have := padR_len M k t.data.toList; rw [← HS.out] at this; have := HL.out; have e : t.data.toList.length = t.size := rfl; omega
    obtain ⟨r, hr⟩ : ∃ r : Nat, r = k % 10 := ⟨_, rfl⟩
    obtain ⟨q, hq⟩ : ∃ q : Nat, q = k / 10 := ⟨_, rfl⟩
    have hr10 : r < 10 := by omega
    have er : (k : Int) % 10 = (r : Int) := by omega
    have eq : (k : Int) / 10 = (q : Int) := by omega
    have hqk : q ≤ 9223372036854775807 := by omega
    obtain ⟨c, hc⟩ : ∃ c, c = S [UInt8.ofNat (48 + r)] := ⟨_, rfl⟩
    have hx : (⟨#[48, 49, 50, 51, 52, 53, 54, 55, 56, 57]⟩ : ByteArray).extract r (r + 1) = c := by rw [dig_at r hr10, hc]
    have hc1 : c.size = 1 := by rw [hc]; rfl
    have a1 := fun W => run_string_add_sum (P := Tryz.prog) W c t (by omega)
    have a2 := fun W => run_string_add_sum (P := Tryz.prog) W (⟨#[]⟩ : ByteArray) t (by rw [show (⟨#[]⟩ : ByteArray).size = 0 from rfl]; omega)
    by_cases hgo : 0 < k ∨ t.size < M
    · have hstep : Hid (z = padR M q (c ++ t).data.toList) := Lib.hid (by rw [HS.out, padR_step (by simpa using hgo), hq, hc, S_cons, hr, S_data])
      have hm : q + (M - (1 + t.size)) < k + (M - t.size) := by omega
      have hsz : (c ++ t).size = 1 + t.size := by rw [ByteArray.size_append, hc1]
      have HM := Lib.hid (show q + (M - (c ++ t).size) < k + (M - t.size) by rw [hsz]; exact hm)
      clear hr hq hc HS hm hsz
      by_cases hk0 : 0 < k
      · have hk1 : (0 : Int) < (k : Int) := by omega
        clear hgo
        go_wp2
        go_round
        case rel => exact ⟨q, _, rfl, rfl, hqk, hstep⟩
        case measure => have := HM.out; rw [ByteArray.size_append] at this; simp [intOf]; exact this
      · have hk1 : ¬ (0 : Int) < (k : Int) := by omega
        have ht1 : (t.size : Int) < (M : Int) := by have := hgo.resolve_left hk0; omega
        clear hgo
        go_wp2
        go_round
        case rel => exact ⟨q, _, rfl, rfl, hqk, hstep⟩
        case measure => have := HM.out; rw [ByteArray.size_append] at this; simp [intOf]; exact this
    · have hk1 : ¬ (0 : Int) < (k : Int) := by omega
      have ht1 : ¬ (t.size : Int) < (M : Int) := by omega
      have hk0 : k = 0 := by omega
      have HE := Lib.hid (show z = t.data.toList by rw [HS.out, hk0]; exact padR_end (by show M ≤ t.size; omega))
      clear hgo hk0 hr hq hc HS
      go_wp2
      go_ret
      exact ⟨ret_str (by rw [HE.out, empty_app]), rfl⟩
set_option maxRecDepth 100000 in
theorem ref_Decimal (u : Nat) (w : World) (h1 : u ≤ 9223372036854775807) :
    Calls Tryz.prog 49 #[.int .i64 (u : Int)] w fun e w' => e = .returned (.string (S (Lib.itoa (u : Int)))) ∧ w = w' := by
  have K := Lib.hid (ref_Padded u 1 w h1 (by omega) (by omega))
  rw [padS_one] at K
  clear h1
  go_enter Tryz.func49, Tryz.ntmps49
  go_wp2_with (go_at_call 101; refine K.out.mono ?_; rintro e w2 ⟨rfl, rfl⟩)
  go_ret
  exact ⟨rfl, rfl⟩
end
open Go.RowKit

theorem join_app (l : List (List UInt8)) (x sep : List UInt8) : Lib.join (l ++ [x]) sep = Lib.join l sep ++ (if l.length = 0 then [] else sep) ++ x := by
  cases l with
  | nil => rw [List.nil_append, Lib.join_one, Lib.join_nil]; rfl
  | cons y r =>
    rw [List.cons_append, Lib.join_cons, Lib.join_cons, if_neg (by simp)]
    have e : Lib.joinTail sep (r ++ [x]) = Lib.joinTail sep r ++ (sep ++ x) := by unfold Lib.joinTail; simp
    rw [e]; simp
theorem text_step {d : List Otc} {k : Nat} (hk : k < d.length) : Lib.join ((d.take (k + 1)).map otcW) [32] = Lib.join ((d.take k).map otcW) [32] ++ (if k = 0 then [] else [32]) ++ (Lib.itoa d[k].runs ++ (if d[k].wick = true then [87] else []) ++ [58] ++ Lib.itoa d[k].wt) := by
  rw [List.take_succ_eq_append_getElem hk, List.map_append, List.map_cons, List.map_nil, join_app, List.length_map, List.length_take, Nat.min_eq_left (by omega)]
  rfl
set_option maxRecDepth 100000 in
set_option maxHeartbeats 2000000 in
theorem ref_Text (d : List Otc) (v : Value) (w : World) (h : Sl 3 elOtc w (· < w.heap.size) v d) : Calls Tryz.prog 47 #[v] w fun e w' => e = .returned (.tuple #[.string (S (textC d).1), .int .i64 (textC d).2]) ∧ Below w.heap.size w w' := by
  obtain ⟨z, hz⟩ : ∃ z, z = textC d := ⟨_, rfl⟩
  rw [← hz]
  unfold textC at hz
  have kc := ref_CCheck d v w h
  obtain ⟨A, c, rfl, hc, hc2⟩ := h.shape
  by_cases h0 : checkD d = 0
  · rw [if_neg (fun k => k h0)] at hz
    rw [h0] at kc
    have hok := checkD_ok h0
    have hl16 := hok.len.2
    have HOK := Lib.hid hok.each
    have KC := Lib.hid kc
    have HZ := Lib.hid hz
    have H := Lib.hid h
    clear hz kc hok h0 h
    go_enter Tryz.func47, Tryz.ntmps47
    go_wp2_with (go_at_call 93; refine KC.out.mono ?_; rintro e w1 ⟨rfl, hb1⟩; have HB1 := Lib.hid hb1; clear hb1)
    go_loopw [5, 15] (fun tv i wr => ∃ (k : Nat) (t : ByteArray), k ≤ d.length ∧ i = .int .i64 k ∧ tv = .string t ∧ t.size ≤ 51 * k ∧ Below w.heap.size w wr ∧ Hid (t.data.toList = Lib.join ((d.take k).map otcW) [32])) (fun _ i _ => d.length - (intOf i).toNat)
    case atStart => exact ⟨0, ⟨#[]⟩, Nat.zero_le _, rfl, rfl, Nat.zero_le _, HB1.out, Lib.hid rfl⟩
    case round =>
      obtain ⟨k, t, hk, rfl, rfl, ht, hb, HS⟩ := hrel
      have HB := Lib.hid hb
      clear hb
      by_cases hlt : k < d.length
      · obtain ⟨b, o, rfl, hbl, y0, y1, y2⟩ := otc_at (otc_below H.out HB.out) hlt
        have hoo := HOK.out _ (List.getElem_mem hlt)
        have hst := text_step hlt
        obtain ⟨ru, hru⟩ : ∃ r : Nat, d[k].runs = (r : Int) := ⟨d[k].runs.toNat, by have := hoo.r0; omega⟩
        obtain ⟨wt, hwt⟩ : ∃ r : Nat, d[k].wt = (r : Int) := ⟨d[k].wt.toNat, by have := hoo.w1; omega⟩
        have hru7 : ru ≤ 7 := by have := hoo.r7; omega
        have hwt16 : wt ≤ 16 := by have := hoo.w16; omega
        obtain ⟨wk, hwk⟩ : ∃ b, b = d[k].wick := ⟨_, rfl⟩
        rw [hru] at y0
        rw [← hwk] at y1
        rw [hwt] at y2
        rw [hru, hwt, ← hwk] at hst
        have kd1 := fun W => ref_Decimal ru W (by omega)
        have kd2 := fun W => ref_Decimal wt W (by omega)
        obtain ⟨b1, hb1⟩ : ∃ b, b = S (Lib.itoa (ru : Int)) := ⟨_, rfl⟩
        obtain ⟨b2, hb2⟩ : ∃ b, b = S (Lib.itoa (wt : Int)) := ⟨_, rfl⟩
        have s1 : b1.size ≤ 20 := by rw [hb1, S_size]; exact itoa_le (by omega) (by omega)
        have s2 : b2.size ≤ 20 := by rw [hb2, S_size]; exact itoa_le (by omega) (by omega)
        have e1 : Lib.itoa (ru : Int) = b1.data.toList := by rw [hb1]; rfl
        have e2 : Lib.itoa (wt : Int) = b2.data.toList := by rw [hb2]; rfl
        rw [e1, e2, ← HS.out] at hst
        rw [← hb1] at kd1
        rw [← hb2] at kd2
        have KD1 := Lib.hid kd1
        have KD2 := Lib.hid kd2
        have tok0 : True := trivial
        have z1 : (⟨#[32]⟩ : ByteArray).size = 1 := rfl
        have z2 : (⟨#[87]⟩ : ByteArray).size = 1 := rfl
        have z3 : (⟨#[58]⟩ : ByteArray).size = 1 := rfl
        clear kd1 kd2 hb1 hb2 e1 e2 hru hwt hwk hoo HS
        have a0 := fun W => run_string_add_sum (P := Tryz.prog) W (⟨#[58]⟩ : ByteArray) b2 (by omega)
        have hk0 : k = 0 ∨ 0 < k := by omega
        cases wk
        case false =>
          by_cases hk1 : 0 < k
          · have hki : (0 : Int) < (k : Int) := by omega
            have a1 := fun W => run_string_add_sum (P := Tryz.prog) W (t) ((⟨#[32]⟩ : ByteArray)) (by (try simp only [ByteArray.size_append]); omega)
            have a2 := fun W => run_string_add_sum (P := Tryz.prog) W (t ++ (⟨#[32]⟩ : ByteArray)) (b1) (by (try simp only [ByteArray.size_append]); omega)
            have a3 := fun W => run_string_add_sum (P := Tryz.prog) W (t ++ (⟨#[32]⟩ : ByteArray) ++ b1) (((⟨#[58]⟩ : ByteArray) ++ b2)) (by (try simp only [ByteArray.size_append]); omega)
            have HN := Lib.hid (show (t ++ (⟨#[32]⟩ : ByteArray) ++ b1 ++ ((⟨#[58]⟩ : ByteArray) ++ b2)).data.toList = Lib.join ((d.take (k + 1)).map otcW) [32] by rw [hst]; rw [if_neg (by omega)]; simp [ByteArray.data_append])
            have hsz : (t ++ (⟨#[32]⟩ : ByteArray) ++ b1 ++ ((⟨#[58]⟩ : ByteArray) ++ b2)).size ≤ 51 * (k + 1) := by simp only [ByteArray.size_append]; omega
            clear hst hk0 hk1
            go_wp2_with (first
              | (clear tok0; go_at_call 49; refine (KD1.out _).mono ?_; rintro e w4 ⟨rfl, rfl⟩; have tok1 : True := trivial)
              | (clear tok1; go_at_call 49; refine (KD2.out _).mono ?_; rintro e w5 ⟨rfl, rfl⟩; have tok2 : True := trivial))
            go_roundw
            case rel => exact ⟨k + 1, _, by omega, by go_num, rfl, hsz, HB.out.alloc HB.out.size _, HN⟩
            case measure => simp [intOf]; omega
          · have hki : ¬ (0 : Int) < (k : Int) := by omega
            have a1 := fun W => run_string_add_sum (P := Tryz.prog) W (t) (b1) (by (try simp only [ByteArray.size_append]); omega)
            have a2 := fun W => run_string_add_sum (P := Tryz.prog) W (t ++ b1) (((⟨#[58]⟩ : ByteArray) ++ b2)) (by (try simp only [ByteArray.size_append]); omega)
            have HN := Lib.hid (show (t ++ b1 ++ ((⟨#[58]⟩ : ByteArray) ++ b2)).data.toList = Lib.join ((d.take (k + 1)).map otcW) [32] by rw [hst]; rw [if_pos (by omega)]; simp [ByteArray.data_append])
            have hsz : (t ++ b1 ++ ((⟨#[58]⟩ : ByteArray) ++ b2)).size ≤ 51 * (k + 1) := by simp only [ByteArray.size_append]; omega
            clear hst hk0 hk1
            go_wp2_with (first
              | (clear tok0; go_at_call 49; refine (KD1.out _).mono ?_; rintro e w4 ⟨rfl, rfl⟩; have tok1 : True := trivial)
              | (clear tok1; go_at_call 49; refine (KD2.out _).mono ?_; rintro e w5 ⟨rfl, rfl⟩; have tok2 : True := trivial))
            go_roundw
            case rel => exact ⟨k + 1, _, by omega, by go_num, rfl, hsz, HB.out.alloc HB.out.size _, HN⟩
            case measure => simp [intOf]; omega
        case true =>
          by_cases hk1 : 0 < k
          · have hki : (0 : Int) < (k : Int) := by omega
            have a1 := fun W => run_string_add_sum (P := Tryz.prog) W (t) ((⟨#[32]⟩ : ByteArray)) (by (try simp only [ByteArray.size_append]); omega)
            have a2 := fun W => run_string_add_sum (P := Tryz.prog) W (t ++ (⟨#[32]⟩ : ByteArray)) (b1) (by (try simp only [ByteArray.size_append]); omega)
            have a3 := fun W => run_string_add_sum (P := Tryz.prog) W (t ++ (⟨#[32]⟩ : ByteArray) ++ b1) ((⟨#[87]⟩ : ByteArray)) (by (try simp only [ByteArray.size_append]); omega)
            have a4 := fun W => run_string_add_sum (P := Tryz.prog) W (t ++ (⟨#[32]⟩ : ByteArray) ++ b1 ++ (⟨#[87]⟩ : ByteArray)) (((⟨#[58]⟩ : ByteArray) ++ b2)) (by (try simp only [ByteArray.size_append]); omega)
            have HN := Lib.hid (show (t ++ (⟨#[32]⟩ : ByteArray) ++ b1 ++ (⟨#[87]⟩ : ByteArray) ++ ((⟨#[58]⟩ : ByteArray) ++ b2)).data.toList = Lib.join ((d.take (k + 1)).map otcW) [32] by rw [hst]; rw [if_neg (by omega)]; simp [ByteArray.data_append])
            have hsz : (t ++ (⟨#[32]⟩ : ByteArray) ++ b1 ++ (⟨#[87]⟩ : ByteArray) ++ ((⟨#[58]⟩ : ByteArray) ++ b2)).size ≤ 51 * (k + 1) := by simp only [ByteArray.size_append]; omega
            clear hst hk0 hk1
            go_wp2_with (first
              | (clear tok0; go_at_call 49; refine (KD1.out _).mono ?_; rintro e w4 ⟨rfl, rfl⟩; have tok1 : True := trivial)
              | (clear tok1; go_at_call 49; refine (KD2.out _).mono ?_; rintro e w5 ⟨rfl, rfl⟩; have tok2 : True := trivial))
            go_roundw
            case rel => exact ⟨k + 1, _, by omega, by go_num, rfl, hsz, HB.out.alloc HB.out.size _, HN⟩
            case measure => simp [intOf]; omega
          · have hki : ¬ (0 : Int) < (k : Int) := by omega
            have a1 := fun W => run_string_add_sum (P := Tryz.prog) W (t) (b1) (by (try simp only [ByteArray.size_append]); omega)
            have a2 := fun W => run_string_add_sum (P := Tryz.prog) W (t ++ b1) ((⟨#[87]⟩ : ByteArray)) (by (try simp only [ByteArray.size_append]); omega)
            have a3 := fun W => run_string_add_sum (P := Tryz.prog) W (t ++ b1 ++ (⟨#[87]⟩ : ByteArray)) (((⟨#[58]⟩ : ByteArray) ++ b2)) (by (try simp only [ByteArray.size_append]); omega)
            have HN := Lib.hid (show (t ++ b1 ++ (⟨#[87]⟩ : ByteArray) ++ ((⟨#[58]⟩ : ByteArray) ++ b2)).data.toList = Lib.join ((d.take (k + 1)).map otcW) [32] by rw [hst]; rw [if_pos (by omega)]; simp [ByteArray.data_append])
            have hsz : (t ++ b1 ++ (⟨#[87]⟩ : ByteArray) ++ ((⟨#[58]⟩ : ByteArray) ++ b2)).size ≤ 51 * (k + 1) := by simp only [ByteArray.size_append]; omega
            clear hst hk0 hk1
            go_wp2_with (first
              | (clear tok0; go_at_call 49; refine (KD1.out _).mono ?_; rintro e w4 ⟨rfl, rfl⟩; have tok1 : True := trivial)
              | (clear tok1; go_at_call 49; refine (KD2.out _).mono ?_; rintro e w5 ⟨rfl, rfl⟩; have tok2 : True := trivial))
            go_roundw
            case rel => exact ⟨k + 1, _, by omega, by go_num, rfl, hsz, HB.out.alloc HB.out.size _, HN⟩
            case measure => simp [intOf]; omega
      · have hkl : k = d.length := by omega
        subst hkl
        have HZ2 := Lib.hid (show z = (t.data.toList, 0) by rw [HZ.out, HS.out, List.take_of_length_le (Nat.le_refl _)])
        clear HS
        go_wp2
        go_ret2
        exact ⟨by rw [HZ2.out] <;> rfl, HB.out⟩
  · rw [if_pos h0] at hz
    obtain ⟨z9, hz9⟩ : ∃ z9, z9 = checkD d := ⟨_, rfl⟩
    rw [← hz9] at kc hz h0
    have g1 : (z9 != 0) = true := by rw [bne_iff_ne]; exact h0
    have KC := Lib.hid kc
    have HZ := Lib.hid hz
    clear kc hz h0 h hz9
    go_enter Tryz.func47, Tryz.ntmps47
    go_wp2_with (go_at_call 93; refine KC.out.mono ?_; rintro e w2 ⟨rfl, hb2⟩; have HB2 := Lib.hid hb2; clear hb2)
    go_ret2
    exact ⟨by rw [HZ.out] <;> rfl, HB2.out⟩
end Go.Proofs.YtglkejlimeakbaaGreatDoor

namespace Go.Proofs.YtglkejlimeakbaaGreatDoor
open Go.RowKit

theorem minus_app (t : ByteArray) : ((⟨#[45]⟩ : ByteArray) ++ t).data.toList = 45 :: t.data.toList := by
  simp [ByteArray.data_append]
set_option maxRecDepth 100000 in
set_option maxHeartbeats 1000000 in
theorem ref_PaddedN (u : Nat) (w : World) (h1 : u ≤ 4611686018427387904) (h0 : 0 < u) :
    Calls Tryz.prog 101 #[.int .i64 (-(u : Int)), .int .i64 1] w fun e w' => e = .returned (.string (S (45 :: padS (u : Int) 1))) ∧ w = w' := by
  obtain ⟨M, hM⟩ : ∃ M : Nat, M = 1 := ⟨1, rfl⟩
  have hm20 : M ≤ 20 := by omega
  have hm1 : 1 ≤ M := by omega
  have hmm : max 1 (min (1 : Int) 20) = (M : Int) := by rw [hM]; rfl
  have hst : padS (u : Int) 1 = padR M u [] := by
    have := padR_all u 1
    rw [hmm, Int.toNat_natCast] at this
    rw [this]
    unfold padS
    rw [if_neg (by omega), List.nil_append]; rfl
  have HL := Lib.hid (padS_smallU u (by omega) 1)
  obtain ⟨z, hz⟩ : ∃ z, z = padS (u : Int) 1 := ⟨_, rfl⟩
  rw [← hz] at hst HL ⊢
  have HS0 := Lib.hid hst
  have hn0 : -(u : Int) < 0 := by omega
  have hu1 : IntKind.u64.wrap (-(u : Int)) = 18446744073709551616 - (u : Int) := by
    unfold IntKind.wrap; simp [IntKind.bits, IntKind.signed]; omega
  have hu2 : IntKind.u64.wrap (-(18446744073709551616 - (u : Int))) = (u : Int) := by
    unfold IntKind.wrap; simp [IntKind.bits, IntKind.signed]; omega
  clear hst hz hM
  go_enter Tryz.func101, Tryz.ntmps101
  go_wp2
  go_loop [6, 8] (fun uv tv => ∃ (k : Nat) (t : ByteArray), uv = .int .u64 (k : Int) ∧ tv = .string t ∧ k ≤ 9223372036854775807 ∧ Hid (z = padR M k t.data.toList)) (fun uv tv => (intOf uv).toNat + (M - (match tv with | .string t => t.size | _ => 0)))
  case atStart => exact ⟨u, ⟨#[]⟩, rfl, rfl, by omega, Lib.hid HS0.out⟩
  case round =>
    obtain ⟨k, t, rfl, rfl, hk, HS⟩ := hrel
    have hts : t.size ≤ 100 := by have := padR_lenU M k t.data.toList; rw [← HS.out] at this; have := HL.out; have e : t.data.toList.length = t.size := rfl; omega
    obtain ⟨r, hr⟩ : ∃ r : Nat, r = k % 10 := ⟨_, rfl⟩
    obtain ⟨q, hq⟩ : ∃ q : Nat, q = k / 10 := ⟨_, rfl⟩
    have hr10 : r < 10 := by omega
    have er : (k : Int) % 10 = (r : Int) := by omega
    have eq : (k : Int) / 10 = (q : Int) := by omega
    have hqk : q ≤ 9223372036854775807 := by omega
    obtain ⟨c, hc⟩ : ∃ c, c = S [UInt8.ofNat (48 + r)] := ⟨_, rfl⟩
    have hx : (⟨#[48, 49, 50, 51, 52, 53, 54, 55, 56, 57]⟩ : ByteArray).extract r (r + 1) = c := by rw [dig_atU r hr10, hc]
    have hc1 : c.size = 1 := by rw [hc]; rfl
    have a1 := fun W => run_string_add_sum (P := Tryz.prog) W c t (by omega)
    have a2 := fun W => run_string_add_sum (P := Tryz.prog) W (⟨#[45]⟩ : ByteArray) t (by rw [show (⟨#[45]⟩ : ByteArray).size = 1 from rfl]; omega)
    by_cases hgo : 0 < k ∨ t.size < M
    · have hstep : Hid (z = padR M q (c ++ t).data.toList) := Lib.hid (by rw [HS.out, padR_step (by simpa using hgo), hq, hc, S_consU, hr, S_data])
      have hm : q + (M - (1 + t.size)) < k + (M - t.size) := by omega
      have hsz : (c ++ t).size = 1 + t.size := by rw [ByteArray.size_append, hc1]
      have HM := Lib.hid (show q + (M - (c ++ t).size) < k + (M - t.size) by rw [hsz]; exact hm)
      clear hr hq hc HS hm hsz
      by_cases hk0 : 0 < k
      · have hk1 : (0 : Int) < (k : Int) := by omega
        clear hgo
        go_wp2
        go_round
        case rel => exact ⟨q, _, rfl, rfl, hqk, hstep⟩
        case measure => have := HM.out; rw [ByteArray.size_append] at this; simp [intOf]; exact this
      · have hk1 : ¬ (0 : Int) < (k : Int) := by omega
        have ht1 : (t.size : Int) < (M : Int) := by have := hgo.resolve_left hk0; omega
        clear hgo
        go_wp2
        go_round
        case rel => exact ⟨q, _, rfl, rfl, hqk, hstep⟩
        case measure => have := HM.out; rw [ByteArray.size_append] at this; simp [intOf]; exact this
    · have hk1 : ¬ (0 : Int) < (k : Int) := by omega
      have ht1 : ¬ (t.size : Int) < (M : Int) := by omega
      have hk0 : k = 0 := by omega
      have HE := Lib.hid (show z = t.data.toList by rw [HS.out, hk0]; exact padR_end (by show M ≤ t.size; omega))
      clear hgo hk0 hr hq hc HS
      go_wp2
      go_ret
      exact ⟨ret_str (by rw [HE.out, minus_app]), rfl⟩
set_option maxRecDepth 100000 in
theorem ref_DecimalZ (n : Int) (w : World) (h0 : -1000000 ≤ n) (h1 : n ≤ 1000000) :
    Calls Tryz.prog 49 #[.int .i64 n] w fun e w' => e = .returned (.string (S (Lib.itoa n))) ∧ w = w' := by
  by_cases hn : 0 ≤ n
  · obtain ⟨u, rfl⟩ : ∃ u : Nat, n = (u : Int) := ⟨n.toNat, by omega⟩
    exact ref_Decimal u w (by omega)
  · obtain ⟨u, rfl⟩ : ∃ u : Nat, n = -(u : Int) := ⟨(-n).toNat, by omega⟩
    have K := Lib.hid (ref_PaddedN u w (by omega) (by omega))
    have e : Lib.itoa (-(u : Int)) = 45 :: padS (u : Int) 1 := by
      rw [padS_one]
      unfold Lib.itoa
      rw [if_pos (by omega), if_neg (by omega)]
      simp
    rw [← e] at K
    clear e h0 h1 hn
    go_enter Tryz.func49, Tryz.ntmps49
    go_wp2_with (go_at_call 101; refine K.out.mono ?_; rintro e w2 ⟨rfl, rfl⟩)
    go_ret
    exact ⟨rfl, rfl⟩
theorem writeS_app : ∀ (l k : List Lin), writeS (l ++ k) = writeS l ++ writeS k
  | [], k => rfl
  | x :: l, k => by rw [List.cons_append, writeS, writeS, writeS_app l k]; simp
theorem write_take (f : Bat → Lin) {l : List Bat} {k : Nat} (h : k < l.length) : writeS ((l.take (k + 1)).map f) = writeS ((l.take k).map f) ++ writeS [f l[k]] := by
  rw [List.take_succ_eq_append_getElem h, List.map_append, writeS_app]; rfl
theorem write_takeW (f : Bow → Lin) {l : List Bow} {k : Nat} (h : k < l.length) : writeS ((l.take (k + 1)).map f) = writeS ((l.take k).map f) ++ writeS [f l[k]] := by
  rw [List.take_succ_eq_append_getElem h, List.map_append, writeS_app]; rfl
theorem write_bat {b : Bat} (hn : nameS b.name = true) : writeS [batLine b] = kBATTER ++ 32 :: (b.name ++ 32 :: (quoteS (textC b.dist).1 ++ [10])) := by
  have h2 := name_ok hn
  have w1 : fieldW (wordF kBATTER) = kBATTER := by unfold fieldW wordF; rw [show wordS kBATTER = true from kM_ok.1.1]; rfl
  have w2 : fieldW (wordF b.name) = b.name := by unfold fieldW wordF; rw [h2.1]; rfl
  have w3 : fieldW ⟨(textC b.dist).1, 0, true⟩ = quoteS (textC b.dist).1 := by unfold fieldW; rfl
  unfold batLine
  simp only [writeS, lineW, endW, w1, w2, w3]
  simp
theorem write_bow {b : Bow} (hn : nameS b.name = true) (h0 : -12 ≤ b.shift) (h1 : b.shift ≤ 12) : writeS [bowLine b] = kBOWLER ++ 32 :: (b.name ++ 32 :: (Lib.itoa b.shift ++ [10])) := by
  have h2 := name_ok hn
  have h3 := (shift_word h0 h1).1
  have w1 : fieldW (wordF kBOWLER) = kBOWLER := by unfold fieldW wordF; rw [show wordS kBOWLER = true from kM_ok.2.1]; rfl
  have w2 : fieldW (wordF b.name) = b.name := by unfold fieldW wordF; rw [h2.1]; rfl
  have w3 : fieldW (wordF (decW b.shift)) = decW b.shift := by unfold fieldW wordF; rw [h3.1]; rfl
  unfold bowLine
  simp only [writeS, lineW, endW, w1, w2, w3]
  simp [decW]
theorem r_Text_bad (m : Mdl) (bv wv : Value) (w : World) (h : MdlAt w (· < w.heap.size) bv wv m) (hc : checkM m ≠ 0) :
    Calls Tryz.prog 17 #[.agg #[bv, wv]] w (TextPost w (textM m)) := by
  have hb1 : Below w.heap.size w (w.alloc (.cells #[bv, wv] 35)) := Below.alloc (Below.refl _ _) (Nat.le_refl _) _
  have kc := r_Check m _ _ _ (h.below hb1)
  rw [show textM m = ([], checkM m) by unfold textM; rw [if_pos hc]]
  obtain ⟨A, c, rfl, _, _⟩ := h.bat.shape
  obtain ⟨A', c', rfl, _, _⟩ := h.bow.shape
  generalize checkM m = z at *
  have e0 : (z != 0) = true := by simp [hc]
  have KC := Lib.hid kc
  have HB := Lib.hid hb1
  clear kc hb1 h hc
  go_enter Tryz.func17, Tryz.ntmps17
  go_wp2_with (go_at_call 43; refine KC.out.mono ?_; rintro x w1 ⟨rfl, hb2⟩; have HB1 := Lib.hid (HB.out.trans (hb2.mono HB.out.size)); clear hb2)
  refine bodyPost_ret (v := .tuple #[.string ⟨#[]⟩, .int .i64 z]) (by simp [results, Tryz.results17, go_sem]) rfl ⟨?_, HB1.out⟩
  rfl
set_option maxRecDepth 100000 in
set_option maxHeartbeats 4000000 in
theorem r_Text (m : Mdl) (bv wv : Value) (w : World) (h : MdlAt w (· < w.heap.size) bv wv m) :
    Calls Tryz.prog 17 #[.agg #[bv, wv]] w (TextPost w (textM m)) := by
  by_cases hc0 : checkM m ≠ 0
  · exact r_Text_bad m bv wv w h hc0
  have hc0 : checkM m = 0 := by omega
  rw [show textM m = (writeS (mdlLines m), 0) by unfold textM; rw [if_neg (fun k => k hc0)]]
  have ho := checkM_ok hc0
  have hlen : m.bats.length ≤ 11 ∧ m.bows.length ≤ 11 := ⟨ho.nb.2, ho.nw.2⟩
  have hb1 : Below w.heap.size w (w.alloc (.cells #[bv, wv] 35)) := Below.alloc (Below.refl _ _) (Nat.le_refl _) _
  have kc0 := r_Check m _ _ _ (h.below hb1)
  have hx0 := Blk.new w 35 #[bv, wv]
  rw [hc0] at kc0
  have kc : Calls Tryz.prog 43 #[.agg #[bv, wv]] (w.alloc (.cells #[bv, wv] 35)) fun e w1 => e = .returned (.int .i64 0) ∧ Below w.heap.size w w1 ∧ Blk w1 w.heap.size 35 #[bv, wv] := by
    refine kc0.mono ?_
    rintro e w1 ⟨rfl, hb2⟩
    exact ⟨rfl, hb1.trans (hb2.mono hb1.size), hx0.below hb2 hx0.lt⟩
  obtain ⟨A, c, rfl, hcc, hcc2⟩ := h.bat.shape
  obtain ⟨A', c', rfl, hcc', hcc2'⟩ := h.bow.shape
  obtain ⟨R, hR⟩ : ∃ R, R = writeS (mdlLines m) := ⟨_, rfl⟩
  rw [← hR]
  have HR := Lib.hid hR
  have KC := Lib.hid kc
  have HM := Lib.hid h
  have HO := Lib.hid ho
  have hn1 := hlen.1
  have hn2 := hlen.2
  clear kc kc0 hx0 hb1 h ho hR hlen hc0
  go_enter Tryz.func17, Tryz.ntmps17
  go_wp2_with (go_at_call 43; refine KC.out.mono ?_; rintro e w1 ⟨rfl, hb1, hx1⟩; obtain ⟨r0, r1, _, _⟩ := hx1.duo; have HB1 := Lib.hid hb1; have HX1 := Lib.hid hx1; clear hb1 hx1)
  go_loopw [5, 20] (fun v i wr => ∃ (k : Nat) (t : ByteArray), k ≤ m.bats.length ∧ i = .int .i64 k ∧ v = .string t ∧ t.size ≤ 500 * k ∧ Hid (Below w1.heap.size w1 wr) ∧ Hid (t.data.toList = writeS ((m.bats.take k).map batLine)))
    (fun _ i _ => m.bats.length - (intOf i).toNat)
  case atStart => exact ⟨0, ⟨#[]⟩, Nat.zero_le _, rfl, rfl, Nat.zero_le _, Lib.hid (Below.refl _ _), Lib.hid rfl⟩
  case round =>
    obtain ⟨k, t, hk, rfl, rfl, ht, HB, HS⟩ := hrel
    have HBR := Lib.hid (HB1.out.trans (HB.out.mono HB1.out.size))
    by_cases hlt : k < m.bats.length
    · obtain ⟨b0, o, v, rfl, hbl, yy0, yy1, hv, hpl⟩ := bat_at HM.out.bat hlt
      have y0 := (HBR.out.cell (p := ⟨b0, o + k * 2, none⟩) hbl).trans yy0
      have y1 := (HBR.out.cell (p := ⟨b0, o + k * 2 + 1, none⟩) hbl).trans yy1
      have htk := write_take batLine hlt
      have hdok := HO.out.bat _ (List.getElem_mem hlt)
      have hwb := write_bat hdok.1
      have hnl := (name_ok hdok.1).2
      obtain ⟨⟨p, d⟩, hp⟩ : ∃ b, b = m.bats[k] := ⟨_, rfl⟩
      rw [← hp] at y0 hv hpl htk hdok hwb hnl
      dsimp only at y0 hv hpl hdok hwb hnl
      obtain ⟨A2, c2, hve, _, _⟩ := hv.shape
      obtain ⟨n2, hn2'⟩ : ∃ n, n = d.length := ⟨_, rfl⟩
      rw [← hn2'] at hve
      subst hve
      obtain ⟨tx, htx⟩ : ∃ x, x = (textC d).1 := ⟨_, rfl⟩
      have hql := quoteS_le tx
      have htl := (textC_facts hdok.2).2.1
      have hx := Blk.new wr 82 #[.string (S p), .slice A2 n2 c2]
      have hbw : Below w.heap.size w (wr.alloc (.cells #[.string (S p), .slice A2 n2 c2] 82)) := HBR.out.alloc HBR.out.size _
      have hbw1 : Below w1.heap.size w1 (wr.alloc (.cells #[.string (S p), .slice A2 n2 c2] 82)) := HB.out.alloc HB.out.size _
      have kt := ref_Text d (.slice A2 n2 c2) _ (hv.keep elOtc_good (Same.of_below hbw) fun b h => Nat.lt_of_lt_of_le h hbw.size)
      rw [(textC_facts hdok.2).2.2] at kt
      rw [hwb, ← HS.out, ← htx] at htk
      rw [← htx] at kt htl
      have kq := fun W => ref_Quote (S tx) W (by rw [S_size]; omega)
      obtain ⟨Q, hQ⟩ : ∃ Q, Q = S (quoteS tx) := ⟨_, rfl⟩
      have hQl : Q.size ≤ 300 := by rw [hQ, S_size]; omega
      rw [S_data, ← hQ] at kq
      rw [show quoteS tx = Q.data.toList by rw [hQ]; rfl] at htk
      obtain ⟨P, hP⟩ : ∃ P, P = S p := ⟨_, rfl⟩
      have hPl : P.size ≤ 20 := by rw [hP, S_size]; exact hnl
      rw [← hP] at y0 hx hbw hbw1 kt
      rw [show p = P.data.toList by rw [hP]; rfl] at htk
      obtain ⟨TX, hTX⟩ : ∃ P, P = S tx := ⟨_, rfl⟩
      rw [← hTX] at kq kt
      have HX := Lib.hid hx
      have KT := Lib.hid kt
      have KQ := Lib.hid kq
      have HBW := Lib.hid hbw1
      have k1 : (⟨#[66, 65, 84, 84, 69, 82, 32]⟩ : ByteArray).size = 7 := rfl
      have k2 : (⟨#[32]⟩ : ByteArray).size = 1 := rfl
      have k3 : (⟨#[10]⟩ : ByteArray).size = 1 := rfl
      have a1 := fun W => run_string_add_sum (P := Tryz.prog) W (⟨#[66, 65, 84, 84, 69, 82, 32]⟩ : ByteArray) P (by omega)
      have a2 := fun W => run_string_add_sum (P := Tryz.prog) W ((⟨#[66, 65, 84, 84, 69, 82, 32]⟩ : ByteArray) ++ P) (⟨#[32]⟩ : ByteArray) (by simp only [ByteArray.size_append]; omega)
      have a3 := fun W => run_string_add_sum (P := Tryz.prog) W ((⟨#[66, 65, 84, 84, 69, 82, 32]⟩ : ByteArray) ++ P ++ (⟨#[32]⟩ : ByteArray)) Q (by simp only [ByteArray.size_append]; omega)
      have a4 := fun W => run_string_add_sum (P := Tryz.prog) W ((⟨#[66, 65, 84, 84, 69, 82, 32]⟩ : ByteArray) ++ P ++ (⟨#[32]⟩ : ByteArray) ++ Q) (⟨#[10]⟩ : ByteArray) (by simp only [ByteArray.size_append]; omega)
      have a5 := fun W => run_string_add_sum (P := Tryz.prog) W t ((⟨#[66, 65, 84, 84, 69, 82, 32]⟩ : ByteArray) ++ P ++ (⟨#[32]⟩ : ByteArray) ++ Q ++ (⟨#[10]⟩ : ByteArray)) (by simp only [ByteArray.size_append]; omega)
      have hsz : (t ++ ((⟨#[66, 65, 84, 84, 69, 82, 32]⟩ : ByteArray) ++ P ++ (⟨#[32]⟩ : ByteArray) ++ Q ++ (⟨#[10]⟩ : ByteArray))).size ≤ 500 * (k + 1) := by simp only [ByteArray.size_append]; omega
      have HN := Lib.hid (show (t ++ ((⟨#[66, 65, 84, 84, 69, 82, 32]⟩ : ByteArray) ++ P ++ (⟨#[32]⟩ : ByteArray) ++ Q ++ (⟨#[10]⟩ : ByteArray))).data.toList = writeS ((m.bats.take (k + 1)).map batLine) by rw [htk]; simp [ByteArray.data_append, kBATTER])
      have HSZ := Lib.hid hsz
      clear yy0 yy1 hp hv htk hdok hx hbw hbw1 kt kq hbl hwb hnl hql htl hQ hP hTX htx hsz k1 k2 k3 hQl hPl HS hn2'
      have tok0 : True := trivial
      go_wp2_with (clear tok0; go_at_call 47; refine KT.out.mono ?_; rintro e w2 ⟨rfl, hb2⟩; obtain ⟨x0, x1, _, _⟩ := (HX.out.below hb2 HX.out.lt).duo; have HB2 := Lib.hid (HBW.out.trans (hb2.mono HBW.out.size)); clear hb2; have tok1 : True := trivial)
      go_region_held3 (fun w' => w'.cell? ⟨wr.heap.size, 0, none⟩ = some (.string P)) (first | exact x0 | go_keep) ((clear tok1; go_at_call 48; refine (KQ.out _).mono ?_; rintro e w3 ⟨rfl, rfl⟩; have tok2 : True := trivial))
      go_wp2
      go_roundw
      case rel => exact ⟨k + 1, _, by omega, by go_num, rfl, HSZ.out, Lib.hid (Below.drew HB2.out), HN⟩
      case measure => simp [intOf]; omega
    · obtain rfl : k = m.bats.length := by omega
      have hx := HX1.out.below HB.out HX1.out.lt
      obtain ⟨r0, r1, _, _⟩ := hx.duo
      have hqk2 := HS.out
      rw [List.take_of_length_le (Nat.le_refl _)] at hqk2
      have HQ := Lib.hid hqk2
      have HI0 := HB
      clear hx hqk2 hk hlt HS HB HBR
      go_wp2
      go_loopw [5, 44] (fun v i wz => ∃ (k : Nat) (t : ByteArray), k ≤ m.bows.length ∧ i = .int .i64 k ∧ v = .string t ∧ t.size ≤ 500 * (m.bats.length + k) ∧ Hid (Below w1.heap.size w1 wz) ∧ Hid (t.data.toList = writeS (m.bats.map batLine) ++ writeS ((m.bows.take k).map bowLine)))
        (fun _ i _ => m.bows.length - (intOf i).toNat)
      case atStart => exact ⟨0, t, Nat.zero_le _, rfl, rfl, ht, HI0, Lib.hid (by rw [HQ.out]; simp [writeS])⟩
      case round =>
        clear HI0 HQ r0 r1 ht
        obtain ⟨k, t, hk, rfl, rfl, ht, HB, HS⟩ := hrel
        have HBR := Lib.hid (HB1.out.trans (HB.out.mono HB1.out.size))
        by_cases hlt : k < m.bows.length
        · obtain ⟨b0, o, rfl, hbl, yy0, yy1, hpl⟩ := bow_at HM.out.bow hlt
          have y0 := (HBR.out.cell (p := ⟨b0, o + k * 2, none⟩) hbl).trans yy0
          have y1 := (HBR.out.cell (p := ⟨b0, o + k * 2 + 1, none⟩) hbl).trans yy1
          have htk := write_takeW bowLine hlt
          have hdok := HO.out.bow _ (List.getElem_mem hlt)
          have hwb := write_bow hdok.1 hdok.2.1 hdok.2.2
          have hnl := (name_ok hdok.1).2
          obtain ⟨⟨p, s⟩, hp⟩ : ∃ b, b = m.bows[k] := ⟨_, rfl⟩
          rw [← hp] at y0 y1 hpl htk hdok hwb hnl
          dsimp only at y0 y1 hpl hdok hwb hnl
          obtain ⟨_, s0, s1⟩ := hdok
          have kd := fun W => ref_DecimalZ s W (by omega) (by omega)
          rw [hwb] at htk
          obtain ⟨Q, hQ⟩ : ∃ Q, Q = S (Lib.itoa s) := ⟨_, rfl⟩
          have hQl : Q.size ≤ 20 := by rw [hQ, S_size]; exact (shift_word s0 s1).1.2
          rw [← hQ] at kd
          rw [show Lib.itoa s = Q.data.toList by rw [hQ]; rfl] at htk
          obtain ⟨P, hP⟩ : ∃ P, P = S p := ⟨_, rfl⟩
          have hPl : P.size ≤ 20 := by rw [hP, S_size]; exact hnl
          rw [← hP] at y0
          rw [show p = P.data.toList by rw [hP]; rfl] at htk
          obtain ⟨x0, x1, _, _⟩ := (Blk.new wr 85 #[.string P, .int .i64 s]).duo
          have HBW := Lib.hid (HB.out.alloc HB.out.size (.cells #[.string P, .int .i64 s] 85))
          have KD := Lib.hid kd
          have k1 : (⟨#[66, 79, 87, 76, 69, 82, 32]⟩ : ByteArray).size = 7 := rfl
          have k2 : (⟨#[32]⟩ : ByteArray).size = 1 := rfl
          have k3 : (⟨#[10]⟩ : ByteArray).size = 1 := rfl
          have a1 := fun W => run_string_add_sum (P := Tryz.prog) W (⟨#[66, 79, 87, 76, 69, 82, 32]⟩ : ByteArray) P (by omega)
          have a2 := fun W => run_string_add_sum (P := Tryz.prog) W ((⟨#[66, 79, 87, 76, 69, 82, 32]⟩ : ByteArray) ++ P) (⟨#[32]⟩ : ByteArray) (by simp only [ByteArray.size_append]; omega)
          have a3 := fun W => run_string_add_sum (P := Tryz.prog) W ((⟨#[66, 79, 87, 76, 69, 82, 32]⟩ : ByteArray) ++ P ++ (⟨#[32]⟩ : ByteArray)) Q (by simp only [ByteArray.size_append]; omega)
          have a4 := fun W => run_string_add_sum (P := Tryz.prog) W ((⟨#[66, 79, 87, 76, 69, 82, 32]⟩ : ByteArray) ++ P ++ (⟨#[32]⟩ : ByteArray) ++ Q) (⟨#[10]⟩ : ByteArray) (by simp only [ByteArray.size_append]; omega)
          have a5 := fun W => run_string_add_sum (P := Tryz.prog) W t ((⟨#[66, 79, 87, 76, 69, 82, 32]⟩ : ByteArray) ++ P ++ (⟨#[32]⟩ : ByteArray) ++ Q ++ (⟨#[10]⟩ : ByteArray)) (by simp only [ByteArray.size_append]; omega)
          have HSZ := Lib.hid (show (t ++ ((⟨#[66, 79, 87, 76, 69, 82, 32]⟩ : ByteArray) ++ P ++ (⟨#[32]⟩ : ByteArray) ++ Q ++ (⟨#[10]⟩ : ByteArray))).size ≤ 500 * (m.bats.length + (k + 1)) by simp only [ByteArray.size_append]; omega)
          have HN := Lib.hid (show (t ++ ((⟨#[66, 79, 87, 76, 69, 82, 32]⟩ : ByteArray) ++ P ++ (⟨#[32]⟩ : ByteArray) ++ Q ++ (⟨#[10]⟩ : ByteArray))).data.toList = writeS (m.bats.map batLine) ++ writeS ((m.bows.take (k + 1)).map bowLine) by rw [htk, ← List.append_assoc, ← HS.out]; simp [ByteArray.data_append, kBOWLER])
          clear yy0 yy1 hp htk kd hbl hwb hnl hQ hP k1 k2 k3 hQl hPl HS
          have tok0 : True := trivial
          go_wp2
          go_region_held3 (fun w' => w'.cell? ⟨wr.heap.size, 0, none⟩ = some (.string P) ∧ w'.cell? ⟨wr.heap.size, 1, none⟩ = some (.int .i64 s)) (first | exact ⟨x0, x1⟩ | go_keep) ((clear tok0; go_at_call 49; refine (KD.out _).mono ?_; rintro e w3 ⟨rfl, rfl⟩; have tok1 : True := trivial))
          go_wp2
          go_roundw
          case rel => exact ⟨k + 1, _, by omega, by go_num, rfl, HSZ.out, Lib.hid (Below.drew HBW.out), HN⟩
          case measure => simp [intOf]; omega
        · obtain rfl : k = m.bows.length := by omega
          have hqk2 := HS.out
          rw [List.take_of_length_le (Nat.le_refl _)] at hqk2
          have er : t = S R := by
            have : t.data.toList = R := by rw [hqk2, HR.out]; unfold mdlLines; rw [writeS_app]
            rw [← this]; rfl
          have ER := Lib.hid er
          clear hqk2 er HS
          go_wp2
          refine bodyPost_ret (v := .tuple #[.string t, .int .i64 0]) (by simp [results, Tryz.results17, go_sem]) rfl ⟨?_, HBR.out⟩
          rw [ER.out]
end Go.Proofs.YtglkejlimeakbaaGreatDoor

namespace Go.Proofs.YtglkejlimeakbaaGreatDoor
open Go.RowKit

set_option maxRecDepth 100000 in
set_option maxHeartbeats 2000000 in
theorem cur_Word (c : Cur) (F : Nat → Prop) (g : Nat) (w : World) (h : CurAt w F g c) :
    Calls Tryz.prog 83 #[.pointer (some ⟨g, 0, none⟩)] w (StrCur w F g (c.word false)) := by
  obtain ⟨q, hq⟩ : ∃ q, q = c.word false := ⟨_, rfl⟩
  rw [← hq]
  unfold Cur.word at hq
  have hrd := cur_read c false F g w h
  obtain ⟨⟨c', t, ok⟩, hr⟩ : ∃ r, r = c.read false := ⟨_, rfl⟩
  rw [← hr] at hrd hq
  have HRD := Lib.hid hrd
  have HQ := Lib.hid hq
  clear hrd hr hq h
  go_enter Tryz.func83, Tryz.ntmps83
  go_wp2_with (go_at_call 106; refine HRD.out.mono ?_; rintro e w2 ⟨rfl, hc2, ho2⟩)
  go_ret
  rw [HQ.out]
  exact ⟨rfl, hc2, ho2⟩
set_option maxRecDepth 100000 in
set_option maxHeartbeats 2000000 in
theorem cur_String (c : Cur) (F : Nat → Prop) (g : Nat) (w : World) (h : CurAt w F g c) :
    Calls Tryz.prog 84 #[.pointer (some ⟨g, 0, none⟩)] w (StrCur w F g (c.word true)) := by
  obtain ⟨q, hq⟩ : ∃ q, q = c.word true := ⟨_, rfl⟩
  rw [← hq]
  unfold Cur.word at hq
  have hrd := cur_read c true F g w h
  obtain ⟨⟨c', t, ok⟩, hr⟩ : ∃ r, r = c.read true := ⟨_, rfl⟩
  rw [← hr] at hrd hq
  have HRD := Lib.hid hrd
  have HQ := Lib.hid hq
  clear hrd hr hq h
  go_enter Tryz.func84, Tryz.ntmps84
  go_wp2_with (go_at_call 106; refine HRD.out.mono ?_; rintro e w2 ⟨rfl, hc2, ho2⟩)
  go_ret
  rw [HQ.out]
  exact ⟨rfl, hc2, ho2⟩
set_option maxRecDepth 100000 in
set_option maxHeartbeats 2000000 in
theorem cur_Int (c : Cur) (lo hi : Int) (F : Nat → Prop) (g : Nat) (w : World) (h : CurAt w F g c) (hlen : ∀ f ∈ c.fields, f.text.length ≤ 1000000000) (hg : ∀ W, Only g w W → GlobN W) :
    Calls Tryz.prog 59 #[.pointer (some ⟨g, 0, none⟩), .int .i64 lo, .int .i64 hi] w (IntCur w F g (c.intP lo hi)) := by
  obtain ⟨q, hq⟩ : ∃ q, q = c.intP lo hi := ⟨_, rfl⟩
  rw [← hq]
  unfold Cur.intP at hq
  have hrd := cur_read c false F g w h
  have htl := Cur.read_text c false hlen
  obtain ⟨⟨c', t, ok⟩, hr⟩ : ∃ r, r = c.read false := ⟨_, rfl⟩
  rw [← hr] at hrd hq htl
  dsimp only at htl
  have HRD := Lib.hid hrd
  clear hrd hr h hlen
  cases ok
  · have HQ := Lib.hid hq
    clear hq hg
    go_enter Tryz.func59, Tryz.ntmps59
    go_wp2_with (go_at_call 106; refine HRD.out.mono ?_; rintro e w2 ⟨rfl, hc2, ho2⟩)
    go_ret
    rw [HQ.out, if_neg (by simp)]
    exact ⟨rfl, hc2, ho2⟩
  · dsimp only at hq
    rw [if_pos rfl] at hq
    have kn0 : ∀ W, Only g w W → Calls Tryz.prog 77 #[.string (S t), .int .i64 lo, .int .i64 hi] W fun e W' => e = .returned (.tuple #[.int .i64 (numberS t lo hi).1, .int .i64 (numberS t lo hi).2]) ∧ Below W.heap.size W W' := fun W hW => by
      have := text_Number (S t) lo hi W (hg W hW) (by rw [S_size]; omega)
      rw [S_data] at this
      exact this
    obtain ⟨⟨v, er⟩, hv⟩ : ∃ z, z = numberS t lo hi := ⟨_, rfl⟩
    rw [← hv] at hq kn0
    have HQ := Lib.hid hq
    have KN := Lib.hid kn0
    clear hq hg hv kn0 htl
    go_enter Tryz.func59, Tryz.ntmps59
    go_wp2_with (first
      | (go_at_call 106; refine HRD.out.mono ?_; rintro e w2 ⟨rfl, hc2, ho2⟩; have HC2 := Lib.hid hc2; have HO2 := Lib.hid ho2; clear hc2 ho2)
      | (go_at_call 77; refine (KN.out _ HO2.out).mono ?_; rintro e w3 ⟨rfl, hb3⟩; have hc3 := HC2.out.below hb3; have c3 := hc3.last; have HC3 := Lib.hid hc3; have HO3 := Lib.hid (HO2.out.trans (Only.of_below hb3)); clear hc3 hb3)
      | (go_at_call 107; refine (cur_fail c' er c'.last F g _ HC3.out).mono ?_; rintro e w4 ⟨rfl, hc4, ho4⟩))
    go_ret
    rw [HQ.out]
    exact ⟨rfl, hc4, HO3.out.trans ho4⟩
end Go.Proofs.YtglkejlimeakbaaGreatDoor

namespace Go.Proofs.YtglkejlimeakbaaGreatDoor
open Go.RowKit

def rcurCells (c : Cur) (fv : Value) : Array Value := #[.int .i64 c.num, fv, .int .i64 c.next, .int .i64 c.err, .int .i64 c.pos]
/-- The column of the field read last. -/
def lastOf (c : Cur) : Int := if c.next = 0 then 0 else ((c.fields[c.next - 1]?).map (·.col)).getD 0
structure RCurAt (w : World) (F : Nat → Prop) (g : Nat) (c : Cur) : Prop where
  ok : c.ok
  blk : ∃ fv, Blk w g 110 (rcurCells c fv) ∧ Sl 3 elFld w F fv c.fields
  foot : ∀ b, F b → b < w.heap.size ∧ b ≠ g
  last : c.last = lastOf c
theorem RCurAt.lt {w : World} {F : Nat → Prop} {g : Nat} {c : Cur} (h : RCurAt w F g c) : g < w.heap.size := let ⟨_, hb, _⟩ := h.blk; hb.lt
theorem RCurAt.keep {w w' : World} {F G : Nat → Prop} {g : Nat} {c : Cur} (h : RCurAt w F g c) (hs : Same F w w') (hg : w'.heap[g]? = w.heap[g]?) (hz : w.heap.size ≤ w'.heap.size) : RCurAt w' F g c := by
  obtain ⟨fv, hb, hf⟩ := h.blk
  exact ⟨h.ok, ⟨fv, hg.trans hb, hf.keep elFld_good hs fun _ h => h⟩, fun b hF => ⟨by have := (h.foot b hF).1; omega, (h.foot b hF).2⟩, h.last⟩
theorem RCurAt.below {w w' : World} {F : Nat → Prop} {g : Nat} {c : Cur} (h : RCurAt w F g c) (hb : Below w.heap.size w w') : RCurAt w' F g c :=
  h.keep (G := F) (Same.below hb fun b hF => (h.foot b hF).1) (hb.block g h.lt) hb.size
theorem RCurAt.drewN {w : World} {F : Nat → Prop} {g : Nat} {c : Cur} (h : RCurAt w F g c) (n : Nat) : RCurAt (w.drewN n) F g c :=
  h.keep (G := F) (fun _ _ => rfl) rfl (Nat.le_refl _)
theorem RCurAt.alloc {w : World} {F : Nat → Prop} {g : Nat} {c : Cur} (h : RCurAt w F g c) (o : Obj) : RCurAt (w.alloc o) F g c := h.below (Below.alloc (Below.refl _ _) (Nat.le_refl _) o)
/-- Behind writes into the cursor's own block. -/
theorem RCurAt.wrote {w w' : World} {F : Nat → Prop} {g : Nat} {c c' : Cur} {fv : Value} (h : RCurAt w F g c) (hf : Sl 3 elFld w F fv c.fields) (ho : Only g w w') (hb : Blk w' g 110 (rcurCells c' fv)) (hc : c'.fields = c.fields) (hok : c'.ok) (hl : c'.last = lastOf c') : RCurAt w' F g c' :=
  ⟨hok, ⟨fv, hb, by rw [hc]; exact hf.keep elFld_good (ho.same h.foot) fun _ h => h⟩, fun b hF => ⟨by have := (h.foot b hF).1; have := ho.size; omega, (h.foot b hF).2⟩, hl⟩
theorem fail_last {c : Cur} (h : c.last = lastOf c) (e col : Int) : (c.fail e col).last = lastOf (c.fail e col) := by
  unfold Cur.fail
  split
  · exact h
  · exact h
set_option maxRecDepth 100000 in
set_option maxHeartbeats 1000000 in
theorem rcur_fail (c : Cur) (e col : Int) (F : Nat → Prop) (g : Nat) (w : World) (h : RCurAt w F g c) (he : c.err = 0) :
    Calls Tryz.prog 114 #[.pointer (some ⟨g, 0, none⟩), .int .i64 e, .int .i64 col] w fun x w' => x = .returned (.tuple #[]) ∧ RCurAt w' F g (c.fail e col) ∧ Only g w w' := by
  obtain ⟨fv, hb, hf⟩ := h.blk
  have c2 : w.cell? ⟨g, 3, none⟩ = some (.int .i64 c.err) := hb.cell 3
  have c3 : w.cell? ⟨g, 4, none⟩ = some (.int .i64 c.pos) := hb.cell 4
  have f2 := hb.frozen 3
  have f3 := hb.frozen 4
  have H := Lib.hid h
  have HB := Lib.hid hb
  have HF := Lib.hid hf
  have HE := Lib.hid he
  clear h hb hf he
  go_enter Tryz.func114, Tryz.ntmps114
  go_wp2
  go_end0
  have ho : Only g w ((w.setCell ⟨g, 3, none⟩ (.int .i64 e)).setCell ⟨g, 4, none⟩ (.int .i64 col)) := ((Only.refl g w).setCell (p := ⟨g, 3, none⟩) (.inl rfl) _).setCell (p := ⟨g, 4, none⟩) (.inl rfl) _
  refine ⟨rfl, H.out.wrote HF.out ho (c' := c.fail e col) ?_ (by unfold Cur.fail; rw [if_pos HE.out]) (Cur.fail_ok H.out.ok e col) (fail_last H.out.last e col), ho⟩
  have := (HB.out.set_ 3 (.int .i64 e)).set_ 4 (.int .i64 col)
  unfold Cur.fail
  rw [if_pos HE.out]
  exact this
set_option maxRecDepth 100000 in
set_option maxHeartbeats 1000000 in
theorem rcur_More (c : Cur) (F : Nat → Prop) (g : Nat) (w : World) (h : RCurAt w F g c) :
    Calls Tryz.prog 72 #[.pointer (some ⟨g, 0, none⟩)] w fun x w' => x = .returned (.bool c.more) ∧ ∃ n, w' = w.drewN n := by
  obtain ⟨fv, hb, hf⟩ := h.blk
  obtain ⟨A, cp, rfl, hc1, hc2⟩ := hf.shape
  have c1 : w.cell? ⟨g, 1, none⟩ = some (.slice A c.fields.length cp) := hb.cell 1
  have c2 : w.cell? ⟨g, 2, none⟩ = some (.int .i64 c.next) := hb.cell 2
  have c4 : w.cell? ⟨g, 3, none⟩ = some (.int .i64 c.err) := hb.cell 3
  clear h hb hf
  by_cases he : c.err = 0
  · have e0 : (c.err == 0) = true := beq_iff_eq.2 he
    have HE := Lib.hid he
    clear he
    go_enter Tryz.func72, Tryz.ntmps72
    go_wp2
    go_quiet (fail)
    go_wp2
    go_ret
    refine ⟨ret_b ?_, _, rfl⟩
    unfold Cur.more
    rw [decide_eq_true HE.out]
    simp
  · have e0 : (c.err == 0) = false := beq_eq_false_iff_ne.2 he
    have HE := Lib.hid he
    clear he
    go_enter Tryz.func72, Tryz.ntmps72
    go_wp2
    go_quiet (fail)
    go_wp2
    go_ret
    refine ⟨ret_b ?_, _, rfl⟩
    unfold Cur.more
    rw [decide_eq_false HE.out]
    simp
/-- A block of three cells behind three stores. -/
def put3 (W : World) (R : Nat) (a b c : Value) : World := ((W.setCell ⟨R, 0, none⟩ a).setCell ⟨R, 1, none⟩ b).setCell ⟨R, 2, none⟩ c
theorem put3_only (W : World) (R : Nat) (a b c : Value) : Only R W (put3 W R a b c) :=
  (((Only.refl R W).setCell (p := ⟨R, 0, none⟩) (.inl rfl) _).setCell (p := ⟨R, 1, none⟩) (.inl rfl) _).setCell (p := ⟨R, 2, none⟩) (.inl rfl) _
theorem blk_put3 {w : World} {g : Nat} {t : TypeId} {a b c : Value} (h : Blk w g t #[a, b, c]) (x0 x1 x2 : Value) : Blk (put3 w g x0 x1 x2) g t #[x0, x1, x2] :=
  ((h.set_ 0 x0).set_ 1 x1).set_ 2 x2
theorem RCurAt.only {w w' : World} {F : Nat → Prop} {g R : Nat} {c : Cur} (h : RCurAt w F g c) (ho : Only R w w') (hg : g ≠ R) (hF : ¬ F R) : RCurAt w' F g c :=
  h.keep (G := F) (ho.same fun b hb => ⟨(h.foot b hb).1, fun e => hF (e ▸ hb)⟩) (ho.block g h.lt fun e => hg (Option.some.inj e)) ho.size
/-- Only the blocks g and, behind w's own, others have turned. -/
theorem Only.glue {w w0 w' : World} {g R : Nat} (h1 : Only g w w0) (h2 : Only R w0 w') (hR : w.heap.size ≤ R) : Only g w w' :=
  ⟨h2.os.trans h1.os, h2.tape.trans h1.tape, h2.output.trans h1.output, Nat.le_trans h1.size h2.size, fun i hi hne => (h2.block i (Nat.lt_of_lt_of_le hi h1.size) fun e => by injection e with e; omega).trans (h1.block i hi hne)⟩
/-- How the reference hands back a field. -/
def fieldV (r : Cur × List UInt8 × Bool) (q : Bool) : Value := if r.2.2 then .tuple #[.agg #[.string (S r.2.1), .int .i64 r.1.last, .bool q], .bool true] else .tuple #[.agg #[.string ⟨#[]⟩, .int .i64 0, .bool false], .bool false]
def RNextPost (w : World) (F : Nat → Prop) (g : Nat) (r : Cur × List UInt8 × Bool) (q : Bool) (x : Ending) (w' : World) : Prop :=
  x = .returned (fieldV r q) ∧ RCurAt w' F g r.1 ∧ Only g w w'
theorem next_ret {R' : Ending → World → Prop} {a : Act} {w : World} {x0 x1 x2 v : Value} {g : Nat} (h2 : a.tmps[4]? = some (.pointer (some ⟨g, 0, none⟩))) (h3 : a.tmps[5]? = some v) (hb : Blk w g 87 #[x0, x1, x2])
    (hd : a.defers = []) (hR : R' (.returned (.tuple #[.agg #[x0, x1, x2], v])) w) : bodyPost Tryz.prog Tryz.f113 R' .ret a w := by
  obtain ⟨r0, r1, r2, _⟩ := hb.three
  refine bodyPost_ret (v := .tuple #[.agg #[x0, x1, x2], v]) (by simp [results, Tryz.results113, go_sem, h2, h3, r0, r1, r2]) hd hR
@[go_sem] theorem build_fld0 (w : World) : (Instr.build 87 #[]).run Tryz.prog w = .ok (.agg #[.string ByteArray.empty, .int .i64 0, .bool false]) w := run_build w 87 _ _ (by kernel_rfl)
set_option maxRecDepth 100000 in
set_option maxHeartbeats 2000000 in
theorem rcur_next (c : Cur) (q : Bool) (F : Nat → Prop) (g : Nat) (w : World) (h : RCurAt w F g c) :
    Calls Tryz.prog 113 #[.pointer (some ⟨g, 0, none⟩), .bool q] w (RNextPost w F g (c.read q) q) := by
  obtain ⟨r, hr⟩ : ∃ r, r = c.read q := ⟨_, rfl⟩
  rw [← hr]
  unfold Cur.read at hr
  obtain ⟨w0, hw0⟩ : ∃ x, x = w.alloc (.cells #[.string ⟨#[]⟩, .int .i64 0, .bool false] 87) := ⟨_, rfl⟩
  have h0 : RCurAt w0 F g c := by rw [hw0]; exact h.alloc _
  have hk0 : Blk w0 w.heap.size 87 #[.string ⟨#[]⟩, .int .i64 0, .bool false] := by rw [hw0]; exact Blk.new w _ _
  have ho0 : Only g w w0 := by rw [hw0]; exact (Only.refl g w).alloc _
  obtain ⟨fv, hb, hf⟩ := h0.blk
  obtain ⟨A, cp, rfl, hc1, hc2⟩ := hf.shape
  have hgw : g < w.heap.size := h.lt
  have c3 : w0.cell? ⟨g, 3, none⟩ = some (.int .i64 c.err) := hb.cell 3
  obtain ⟨r0, r1, r2, j0, j1, j2⟩ := hk0.three
  by_cases he : c.err = 0
  · have e0 : (c.err != 0) = false := by rw [he]; rfl
    rw [if_pos he] at hr
    have hmore := rcur_More c F g w0 h0
    by_cases hlt : c.next < c.fields.length
    · have hm : c.more = true := by unfold Cur.more; rw [decide_eq_true hlt, decide_eq_true he]; rfl
      rw [hm] at hmore
      obtain ⟨b, o, cs, rfl, hF, hcl, hcc, hel⟩ := hf.at hlt
      rw [List.getElem?_eq_getElem hlt] at hr
      have hlast2 : ((c.fields[c.next + 1 - 1]?).map (·.col)).getD 0 = (c.fields[c.next]).col := by rw [Nat.add_sub_cancel, List.getElem?_eq_getElem hlt]; rfl
      obtain ⟨⟨ft, fc, fq⟩, hfe⟩ : ∃ f, f = c.fields[c.next] := ⟨_, rfl⟩
      rw [← hfe] at hel hr hlast2
      clear hfe
      have hel' : cs = [.string (S ft), .int .i64 fc, .bool fq] := hel
      subst hel'
      have hbg := h0.foot b hF
      have hFR : ¬ F w.heap.size := fun hf => by have := (h.foot _ hf).1; omega
      have HR := Lib.hid hr
      have HM := Lib.hid hmore
      have H0 := Lib.hid h0
      have HK0 := Lib.hid hk0
      have HO0 := Lib.hid ho0
      have HB := Lib.hid hb
      have HF := Lib.hid hf
      have HCC := Lib.hid hcc
      have HE := Lib.hid he
      have HL2 := Lib.hid hlast2
      have HFR := Lib.hid hFR
      have hz0 : w0.heap.size = w.heap.size + 1 := by rw [hw0]; simp
      rw [hw0] at c3
      clear hr hmore h0 hb hf h hk0 ho0 he hm hcc hel hcl r0 r1 r2 j0 j1 j2 hlast2 hFR
      go_enter Tryz.func113, Tryz.ntmps113
      go_wp2_with fail
      rw [← hw0]
      refine HM.out.mono ?_
      rintro x w1 ⟨rfl, nd, rfl⟩
      have HZ0 := Lib.hid hz0
      clear c3 hw0 hz0
      go_wp2_with fail
      generalize hwq : w0.drewN nd = wq
      have hzq : wq.heap.size = w.heap.size + 1 := by rw [← hwq]; exact HZ0.out
      have hbl : b < wq.heap.size := by rw [hzq, ← HZ0.out]; exact hbg.1
      have hgl : g < wq.heap.size := by omega
      have hRl : w.heap.size < wq.heap.size := by omega
      have kq : Blk wq w.heap.size 87 #[.string ⟨#[]⟩, .int .i64 0, .bool false] := by rw [← hwq]; exact HK0.out
      have bq : Blk wq g 110 (rcurCells c (.slice (some ⟨b, o, none⟩) c.fields.length cp)) := by rw [← hwq]; exact HB.out
      have cq : RCurAt wq F g c := by rw [← hwq]; exact H0.out.drewN _
      have oq : Only g w wq := by rw [← hwq]; exact HO0.out.drewN _
      have z0 : wq.cell? ⟨b, o + c.next * 3, none⟩ = some (.string (S ft)) := by rw [← hwq]; exact HCC.out 0 _ rfl
      have z1 : wq.cell? ⟨b, o + c.next * 3 + 1, none⟩ = some (.int .i64 fc) := by rw [← hwq]; exact HCC.out 1 _ rfl
      have z2 : wq.cell? ⟨b, o + c.next * 3 + 2, none⟩ = some (.bool fq) := by rw [← hwq]; exact HCC.out 2 _ rfl
      have d1 : wq.cell? ⟨g, 1, none⟩ = some (.slice (some ⟨b, o, none⟩) c.fields.length cp) := bq.cell 1
      have d2 : wq.cell? ⟨g, 2, none⟩ = some (.int .i64 c.next) := bq.cell 2
      have d1a := (World.cell?_alloc_lt wq (Obj.cells #[.string ⟨#[]⟩, .int .i64 0, .bool false] 87) ⟨g, 1, none⟩ hgl).trans d1
      have d2a := (World.cell?_alloc_lt wq (Obj.cells #[.string ⟨#[]⟩, .int .i64 0, .bool false] 87) ⟨g, 2, none⟩ hgl).trans d2
      have z0a := (World.cell?_alloc_lt wq (Obj.cells #[.string ⟨#[]⟩, .int .i64 0, .bool false] 87) ⟨b, o + c.next * 3, none⟩ hbl).trans z0
      have z1a := (World.cell?_alloc_lt wq (Obj.cells #[.string ⟨#[]⟩, .int .i64 0, .bool false] 87) ⟨b, o + c.next * 3 + 1, none⟩ hbl).trans z1
      have z2a := (World.cell?_alloc_lt wq (Obj.cells #[.string ⟨#[]⟩, .int .i64 0, .bool false] 87) ⟨b, o + c.next * 3 + 2, none⟩ hbl).trans z2
      have fq0 : Sl 3 elFld wq F (.slice (some ⟨b, o, none⟩) c.fields.length cp) c.fields := by rw [← hwq]; exact HF.out.keep elFld_good (fun _ _ => rfl) fun _ h => h
      have FQ := Lib.hid fq0
      have KQ := Lib.hid kq
      have BQ := Lib.hid bq
      have CQ := Lib.hid cq
      have OQ := Lib.hid oq
      clear hwq kq bq cq oq fq0 HM H0 HK0 HO0 HB HCC
      go_region
      generalize hW : World.drew _ = wx
      have hx : wx = (wq.alloc (Obj.cells #[.string (S ft), .int .i64 fc, .bool fq] 87)).drew := hW.symm
      clear hW
      have hox : Only g w wx := by rw [hx]; exact (OQ.out.alloc _).drew
      have hbx : Blk wx g 110 (rcurCells c (.slice (some ⟨b, o, none⟩) c.fields.length cp)) := by rw [hx]; exact BQ.out.alloc _
      have hkx : Blk wx w.heap.size 87 #[.string ⟨#[]⟩, .int .i64 0, .bool false] := by rw [hx]; exact KQ.out.alloc _
      have hnx : Blk wx (w.heap.size + 1) 87 #[.string (S ft), .int .i64 fc, .bool fq] := by rw [hx, ← hzq]; exact Blk.new wq _ _
      have hfx : Sl 3 elFld wx F (.slice (some ⟨b, o, none⟩) c.fields.length cp) c.fields := by rw [hx]; exact FQ.out.keep elFld_good (Same.below (Below.drew (Below.alloc (Below.refl wq.heap.size wq) (Nat.le_refl _) _)) fun b hb => (CQ.out.foot b hb).1) fun _ h => h
      have hcx : RCurAt wx F g c := by rw [hx]; exact (CQ.out.alloc _).keep (G := F) (fun _ _ => rfl) rfl (Nat.le_refl _)
      obtain ⟨x0, x1, x2, _⟩ := hnx.three
      have w2 : wx.cell? ⟨g, 2, none⟩ = some (.int .i64 c.next) := hbx.cell 2
      have v2 := hbx.frozen 2
      obtain ⟨k0, k1, k2, l0, l1, l2⟩ := hkx.three
      have HFX := Lib.hid hfx
      have HZQ := Lib.hid hzq
      have HX := Lib.hid hox
      have HBX := Lib.hid hbx
      have HCX := Lib.hid hcx
      have HKX := Lib.hid hkx
      have HNX := Lib.hid hnx
      clear hfx hzq hx hox hbx hkx hnx hcx d1 d2 z0 z1 z2 d1a d2a z0a z1a z2a
      by_cases hq : fq = q
      · have hr2 : r = ({ c with next := c.next + 1, last := fc }, ft, true) := by rw [HR.out, if_pos hq]
        have e1 : (!(fq == q)) = false := by rw [hq]; simp
        have HR2 := Lib.hid hr2
        have Hq := Lib.hid hq
        have hnw : Only g wx (wx.setCell ⟨g, 2, none⟩ (.int .i64 ((c.next : Int) + 1))) := (Only.refl g wx).setCell (p := ⟨g, 2, none⟩) (.inl rfl) _
        have hbn := HBX.out.set_ 2 (.int .i64 ((c.next : Int) + 1))
        have hcn : RCurAt (wx.setCell ⟨g, 2, none⟩ (.int .i64 ((c.next : Int) + 1))) F g { c with next := c.next + 1, last := fc } :=
          HCX.out.wrote (c' := { c with next := c.next + 1, last := fc }) HFX.out hnw hbn rfl (by unfold Cur.ok; exact hlt) (by unfold lastOf; rw [if_neg (by simp)]; exact HL2.out.symm)
        clear hr2 hq
        have hkn := HKX.out.far (p := ⟨g, 2, none⟩) (by show w.heap.size ≠ g; omega) (.int .i64 ((c.next : Int) + 1))
        have HNW := Lib.hid hnw
        have HCN := Lib.hid hcn
        have HKN := Lib.hid hkn
        clear hnw hbn hcn hkn
        go_wp2
        refine next_ret rfl rfl (blk_put3 HKN.out _ _ _) rfl ?_
        rw [HR2.out, Hq.out]
        have hp := put3_only (wx.setCell ⟨g, 2, none⟩ (.int .i64 ((c.next : Int) + 1))) w.heap.size (.string (S ft)) (.int .i64 fc) (.bool q)
        exact ⟨rfl, HCN.out.only hp (by omega) HFR.out, Only.glue (HX.out.trans HNW.out) hp (Nat.le_refl _)⟩
      · have hr2 : r = (c.fail 4 fc, [], false) := by rw [HR.out, if_neg hq]
        have e1 : (!(fq == q)) = true := by simp [hq]
        have HR2 := Lib.hid hr2
        have hfl := rcur_fail c 4 fc F g wx HCX.out HE.out
        have HFL := Lib.hid hfl
        clear hr2 hq hfl
        go_wp2_with (go_at_call 114; refine HFL.out.mono ?_; rintro x w2 ⟨rfl, hc2, ho2⟩; have hk2 := HKX.out.grown ho2 (fun e => by injection e with e; omega); obtain ⟨p0, p1, p2, m0, m1, m2⟩ := hk2.three; have HC2 := Lib.hid hc2; have HO2 := Lib.hid ho2; have HK2 := Lib.hid hk2; clear hc2 ho2 hk2)
        refine next_ret rfl rfl (blk_put3 HK2.out _ _ _) rfl ?_
        rw [HR2.out]
        have hp := put3_only w2 w.heap.size (.string ⟨#[]⟩) (.int .i64 0) (.bool false)
        exact ⟨rfl, HC2.out.only hp (by omega) HFR.out, Only.glue (HX.out.trans HO2.out) hp (Nat.le_refl _)⟩
    · have hm : c.more = false := by unfold Cur.more; rw [decide_eq_false hlt, Bool.and_false]
      rw [hm] at hmore
      rw [List.getElem?_eq_none (by omega)] at hr
      have hfl := fun n => rcur_fail c 4 0 F g (w0.drewN n) (h0.drewN n) he
      have hFR : ¬ F w.heap.size := fun hf => by have := (h.foot _ hf).1; omega
      have HFR := Lib.hid hFR
      have HR := Lib.hid hr
      have HM := Lib.hid hmore
      have HFL := Lib.hid hfl
      have HK0 := Lib.hid hk0
      have HO0 := Lib.hid ho0
      rw [hw0] at c3
      clear hr hmore hfl h0 hb hf h hk0 ho0 he hm hFR r0 r1 r2 j0 j1 j2
      go_enter Tryz.func113, Tryz.ntmps113
      go_wp2_with fail
      rw [← hw0]
      refine HM.out.mono ?_
      rintro x w1 ⟨rfl, nd, rfl⟩
      clear c3 hw0
      go_wp2_with (go_at_call 114; refine (HFL.out nd).mono ?_; rintro x w2 ⟨rfl, hc2, ho2⟩; have hk2 := Blk.grown (w := w0.drewN nd) HK0.out ho2 (fun e => by injection e with e; omega); obtain ⟨p0, p1, p2, m0, m1, m2⟩ := hk2.three; have HC2 := Lib.hid hc2; have HO2 := Lib.hid ho2; have HK2 := Lib.hid hk2; clear hc2 ho2 hk2)
      refine next_ret rfl rfl (blk_put3 HK2.out _ _ _) rfl ?_
      rw [HR.out]
      have hp := put3_only w2 w.heap.size (.string ⟨#[]⟩) (.int .i64 0) (.bool false)
      exact ⟨rfl, HC2.out.only hp (by omega) HFR.out, Only.glue ((HO0.out.drewN nd).trans HO2.out) hp (Nat.le_refl _)⟩
  · have e0 : (c.err != 0) = true := by rw [bne_iff_ne]; exact he
    rw [if_neg he] at hr
    have HR := Lib.hid hr
    have H0 := Lib.hid h0
    have HK0 := Lib.hid hk0
    have HO0 := Lib.hid ho0
    rw [hw0] at c3
    clear hr h0 hb hf h hk0 ho0 he r0 r1 r2 j0 j1 j2
    go_enter Tryz.func113, Tryz.ntmps113
    go_wp2
    rw [← hw0]
    refine next_ret rfl rfl HK0.out rfl ?_
    rw [HR.out]
    exact ⟨rfl, H0.out, HO0.out⟩
end Go.Proofs.YtglkejlimeakbaaGreatDoor

namespace Go.Proofs.YtglkejlimeakbaaGreatDoor
open Go.RowKit

def RStrCur (w : World) (F : Nat → Prop) (g : Nat) (r : Cur × List UInt8) (x : Ending) (w' : World) : Prop := x = .returned (.string (S r.2)) ∧ RCurAt w' F g r.1 ∧ Only g w w'
def RIntCur (w : World) (F : Nat → Prop) (g : Nat) (r : Cur × Int) (x : Ending) (w' : World) : Prop := x = .returned (.int .i64 r.2) ∧ RCurAt w' F g r.1 ∧ Only g w w'
theorem rcur_next_some {c c' : Cur} {t : List UInt8} {q : Bool} {F : Nat → Prop} {g : Nat} {w : World} (h : RCurAt w F g c) (hr : (c', t, true) = c.read q) :
    Calls Tryz.prog 113 #[.pointer (some ⟨g, 0, none⟩), .bool q] w fun x w' => x = .returned (.tuple #[.agg #[.string (S t), .int .i64 c'.last, .bool q], .bool true]) ∧ RCurAt w' F g c' ∧ Only g w w' := by
  have := rcur_next c q F g w h
  rw [← hr] at this
  exact this
theorem rcur_next_none {c c' : Cur} {t : List UInt8} {q : Bool} {F : Nat → Prop} {g : Nat} {w : World} (h : RCurAt w F g c) (hr : (c', t, false) = c.read q) :
    Calls Tryz.prog 113 #[.pointer (some ⟨g, 0, none⟩), .bool q] w fun x w' => x = .returned (.tuple #[.agg #[.string ⟨#[]⟩, .int .i64 0, .bool false], .bool false]) ∧ RCurAt w' F g c' ∧ Only g w w' := by
  have := rcur_next c q F g w h
  rw [← hr] at this
  exact this
/-- A field that was read leaves no error behind. -/
theorem read_err {c c' : Cur} {t : List UInt8} {q : Bool} (hr : (c', t, true) = c.read q) : c'.err = 0 := by
  unfold Cur.read Cur.fail at hr
  repeat' split at hr
  all_goals (rcases Prod.mk.inj hr with ⟨h1, h2⟩; rcases Prod.mk.inj h2 with ⟨h2, h3⟩; first | (exact absurd h3 (by decide)) | (rw [h1]; assumption))
theorem read_none {c c' : Cur} {t : List UInt8} {q : Bool} (hr : (c', t, false) = c.read q) : t = [] := by
  unfold Cur.read Cur.fail at hr
  repeat' split at hr
  all_goals (rcases Prod.mk.inj hr with ⟨h1, h2⟩; rcases Prod.mk.inj h2 with ⟨h2, h3⟩; first | exact h2 | (exact absurd h3 (by decide)))

set_option maxRecDepth 100000 in
set_option maxHeartbeats 2000000 in
theorem rcur_Ident (c : Cur) (F : Nat → Prop) (g : Nat) (w : World) (h : RCurAt w F g c) (hlen : ∀ f ∈ c.fields, f.text.length ≤ 1000000000) :
    Calls Tryz.prog 69 #[.pointer (some ⟨g, 0, none⟩)] w (RStrCur w F g c.ident) := by
  obtain ⟨q, hq⟩ : ∃ q, q = c.ident := ⟨_, rfl⟩
  rw [← hq]
  unfold Cur.ident at hq
  have htl := Cur.read_text c false hlen
  obtain ⟨⟨c', t, ok⟩, hr⟩ : ∃ r, r = c.read false := ⟨_, rfl⟩
  rw [← hr] at hq htl
  dsimp only at htl
  have HQ := Lib.hid hq
  cases ok
  · have hrd := rcur_next_none h hr
    have ht0 := read_none hr
    have HRD := Lib.hid hrd
    have HT := Lib.hid ht0
    clear hrd hr hq h hlen ht0
    go_enter Tryz.func69, Tryz.ntmps69
    go_wp2_with (go_at_call 113; refine HRD.out.mono ?_; rintro e w2 ⟨rfl, hc2, ho2⟩)
    go_ret
    rw [HQ.out, if_neg (by simp)]
    exact ⟨by rw [HT.out]; rfl, hc2.alloc _, ho2.alloc _⟩
  · have hrd := rcur_next_some h hr
    have he0 := read_err hr
    have HRD := Lib.hid hrd
    have HE := Lib.hid he0
    clear hrd hr hq h hlen he0
    cases hn : nameS t
    · have HN := Lib.hid hn
      go_enter Tryz.func69, Tryz.ntmps69
      go_wp2_with (first | (go_at_call 113; refine HRD.out.mono ?_; rintro e w2 ⟨rfl, hc2, ho2⟩; have HC2 := Lib.hid hc2; have HO2 := Lib.hid ho2; clear hc2 ho2) | (go_at_call 73; refine (ref_Name (S t) _ (by simp only [S_size, maxLen]; omega)).mono ?_; rintro e w3 ⟨rfl, rfl⟩) | (go_at_call 114; refine (rcur_fail c' 5 c'.last F g _ (HC2.out.alloc _) HE.out).mono ?_; rintro e w4 ⟨rfl, hc4, ho4⟩))
      go_ret
      rw [HQ.out, if_pos ⟨trivial, HN.out⟩]
      exact ⟨rfl, hc4, (HO2.out.alloc _).trans ho4⟩
    · have HN := Lib.hid hn
      go_enter Tryz.func69, Tryz.ntmps69
      go_wp2_with (first | (go_at_call 113; refine HRD.out.mono ?_; rintro e w2 ⟨rfl, hc2, ho2⟩; have HC2 := Lib.hid hc2; have HO2 := Lib.hid ho2; clear hc2 ho2) | (go_at_call 73; refine (ref_Name (S t) _ (by simp only [S_size, maxLen]; omega)).mono ?_; rintro e w3 ⟨rfl, rfl⟩))
      go_ret
      rw [HQ.out, if_neg (by rw [HN.out]; simp)]
      exact ⟨rfl, HC2.out.alloc _, HO2.out.alloc _⟩
end Go.Proofs.YtglkejlimeakbaaGreatDoor

namespace Go.Proofs.YtglkejlimeakbaaGreatDoor
open Go.RowKit

set_option maxRecDepth 100000 in
set_option maxHeartbeats 2000000 in
theorem rcur_Reject (c : Cur) (n : Int) (F : Nat → Prop) (g : Nat) (w : World) (h : RCurAt w F g c) :
    Calls Tryz.prog 91 #[.pointer (some ⟨g, 0, none⟩), .int .i64 n] w fun x w' => x = .returned (.tuple #[]) ∧ RCurAt w' F g (c.reject n) ∧ Only g w w' := by
  have H := Lib.hid h
  obtain ⟨fv, hb, hf⟩ := h.blk
  obtain ⟨A, cp, rfl, hc1, hc2⟩ := hf.shape
  have d1 : w.cell? ⟨g, 1, none⟩ = some (.slice A c.fields.length cp) := hb.cell 1
  have d2 : w.cell? ⟨g, 2, none⟩ = some (.int .i64 c.next) := hb.cell 2
  have d3 : w.cell? ⟨g, 3, none⟩ = some (.int .i64 c.err) := hb.cell 3
  have hok : c.next ≤ c.fields.length := h.ok
  have hla := h.last
  unfold lastOf at hla
  have HLA := Lib.hid hla
  have HF := Lib.hid hf
  clear h hb hf hla
  by_cases he : c.err = 0
  · have e1 : (c.err != 0) = false := by rw [he]; rfl
    have HE := Lib.hid he
    clear he
    by_cases hn : n = 0
    · have e0 : (n == 0) = true := by rw [hn]; rfl
      have HN := Lib.hid hn
      clear hn HF
      go_enter Tryz.func91, Tryz.ntmps91
      go_wp2
      refine bodyPost_ret (v := .tuple #[]) (by simp [results, Tryz.results91, go_sem]) rfl ?_
      exact ⟨rfl, by unfold Cur.reject; rw [if_pos HN.out]; exact H.out, Only.refl _ _⟩
    · have e0 : (n == 0) = false := beq_eq_false_iff_ne.2 hn
      have HN := Lib.hid hn
      clear hn
      by_cases hz : c.next = 0
      · have hl0 : c.last = 0 := by rw [HLA.out, if_pos hz]
        have HL0 := Lib.hid hl0
        have e2 : decide ((c.next : Int) > 0) = false := by simp [hz]
        have e3 : (c.next : Int) = 0 := by omega
        rw [e3] at d2
        clear hl0 hz HF e2 e3 hok
        go_enter Tryz.func91, Tryz.ntmps91
        go_wp2_with (go_at_call 114; refine (rcur_fail c n 0 F g w H.out HE.out).mono ?_; rintro e w2 ⟨rfl, hc2, ho2⟩)
        go_end0
        exact ⟨rfl, by unfold Cur.reject; rw [if_neg HN.out, HL0.out]; exact hc2, ho2⟩
      · have hlt : c.next - 1 < c.fields.length := by omega
        obtain ⟨b, o, cs, rfl, hF, hcl, hcc, hel⟩ := HF.out.at hlt
        obtain ⟨⟨ft, fc, fq⟩, hfe⟩ : ∃ f, f = c.fields[c.next - 1] := ⟨_, rfl⟩
        have hlv : c.last = fc := by rw [HLA.out, if_neg hz, List.getElem?_eq_getElem hlt, ← hfe]; rfl
        rw [← hfe] at hel
        have hel' : cs = [.string (S ft), .int .i64 fc, .bool fq] := hel
        subst hel'
        have y1 : w.cell? ⟨b, o + (c.next - 1) * 3 + 1, none⟩ = some (.int .i64 fc) := hcc 1 _ rfl
        obtain ⟨k, hk⟩ : ∃ k, c.next = k + 1 := ⟨c.next - 1, by omega⟩
        rw [hk, Nat.add_sub_cancel] at y1
        rw [hk] at d2 hok
        have e2 : ((k + 1 : Nat) : Int) = (k : Int) + 1 := rfl
        have HLV := Lib.hid hlv
        clear hlv hfe hcc hel hcl hlt hz hk
        go_enter Tryz.func91, Tryz.ntmps91
        go_wp2
        go_region
        go_wp2_with (go_at_call 114; refine (rcur_fail c n fc F g _ (H.out.drewN 1) HE.out).mono ?_; rintro e w2 ⟨rfl, hc2, ho2⟩)
        go_end0
        exact ⟨rfl, by unfold Cur.reject; rw [if_neg HN.out, HLV.out]; exact hc2, (Only.refl g w).drew.trans ho2⟩
  · have e1 : (c.err != 0) = true := by rw [bne_iff_ne]; exact he
    have HE := Lib.hid he
    clear he HF
    go_enter Tryz.func91, Tryz.ntmps91
    go_wp2
    refine bodyPost_ret (v := .tuple #[]) (by simp [results, Tryz.results91, go_sem]) rfl ?_
    exact ⟨rfl, by unfold Cur.reject; split; exact H.out; unfold Cur.fail; rw [if_neg HE.out]; exact H.out, Only.refl _ _⟩

set_option maxRecDepth 100000 in
set_option maxHeartbeats 2000000 in
theorem rcur_Close (c : Cur) (F : Nat → Prop) (g : Nat) (w : World) (h : RCurAt w F g c) :
    Calls Tryz.prog 35 #[.pointer (some ⟨g, 0, none⟩)] w fun x w' => x = .returned (closeV c.close) ∧ Below w.heap.size w w' := by
  obtain ⟨q, hq⟩ : ∃ q, q = c.close := ⟨_, rfl⟩
  rw [← hq]
  unfold Cur.close at hq
  obtain ⟨fv, hb, hf⟩ := h.blk
  obtain ⟨A, cp, rfl, hc1, hc2⟩ := hf.shape
  have hgl := h.lt
  have HFO := Lib.hid fun b hF => (h.foot b hF).1
  have hcur0 := h.below ((Below.refl w.heap.size w).alloc (Nat.le_refl _) (Obj.cells #[.int .i64 0, .int .i64 0, .int .i64 0] 41))
  have hb0 : Blk (w.alloc (Obj.cells #[.int .i64 0, .int .i64 0, .int .i64 0] 41)) g 110 (rcurCells c (.slice A c.fields.length cp)) := hb.alloc _
  have c0 : (w.alloc (Obj.cells #[.int .i64 0, .int .i64 0, .int .i64 0] 41)).cell? ⟨g, 0, none⟩ = some (.int .i64 c.num) := hb0.cell 0
  have c1 : (w.alloc (Obj.cells #[.int .i64 0, .int .i64 0, .int .i64 0] 41)).cell? ⟨g, 1, none⟩ = some (.slice A c.fields.length cp) := hb0.cell 1
  have c2 : (w.alloc (Obj.cells #[.int .i64 0, .int .i64 0, .int .i64 0] 41)).cell? ⟨g, 2, none⟩ = some (.int .i64 c.next) := hb0.cell 2
  have c4 : (w.alloc (Obj.cells #[.int .i64 0, .int .i64 0, .int .i64 0] 41)).cell? ⟨g, 3, none⟩ = some (.int .i64 c.err) := hb0.cell 3
  have c5 : (w.alloc (Obj.cells #[.int .i64 0, .int .i64 0, .int .i64 0] 41)).cell? ⟨g, 4, none⟩ = some (.int .i64 c.pos) := hb0.cell 4
  have HC0 := Lib.hid hcur0
  have HB0 := Lib.hid hb0
  have HF := Lib.hid hf
  have hok : c.next ≤ c.fields.length := h.ok
  clear hcur0 hb0 hf hb h
  by_cases he : c.err = 0
  · have e0 : (c.err != 0) = false := by rw [he]; rfl
    rw [if_neg (fun h => h he)] at hq
    have HE := Lib.hid he
    have HQ := Lib.hid hq
    clear he hq
    by_cases hlt : c.next < c.fields.length
    · have hm : c.more = true := by unfold Cur.more; rw [decide_eq_true HE.out, decide_eq_true hlt]; rfl
      have HM := Lib.hid hm
      clear hm
      obtain ⟨b, o, cs, rfl, hF, hcl, hcc, hel⟩ := HF.out.at hlt
      obtain ⟨⟨ft, fc, fq⟩, hfe⟩ : ∃ f, f = c.fields[c.next] := ⟨_, rfl⟩
      have HQ' := HQ.out
      rw [List.getElem?_eq_getElem hlt, ← hfe] at HQ'
      rw [← hfe] at hel
      have hel' : cs = [.string (S ft), .int .i64 fc, .bool fq] := hel
      subst hel'
      have y1 : (w.alloc (Obj.cells #[.int .i64 0, .int .i64 0, .int .i64 0] 41)).cell? ⟨b, o + c.next * 3 + 1, none⟩ = some (.int .i64 fc) := (World.cell?_alloc_lt w _ ⟨b, o + c.next * 3 + 1, none⟩ (by have := (HFO.out b hF); exact this)).trans (hcc 1 _ rfl)
      have HQF := Lib.hid HQ'
      clear hfe HQ' HQ hcc hel hcl
      go_enter Tryz.func35, Tryz.ntmps35
      go_wp2_with (go_at_call 72; refine (rcur_More c F g _ HC0.out).mono ?_; rintro e w2 ⟨rfl, n, rfl⟩; rw [HM.out])
      go_region
      go_wp2
      refine bodyPost_ret (v := .tuple #[.agg #[.int .i64 c.num, .int .i64 fc, .int .i64 4], .bool true]) (by simp [results, Tryz.results35, go_sem]) rfl ⟨?_, ?_⟩
      · rw [HQF.out]; rfl
      · (repeat (first | exact Below.refl _ _ | refine Below.setCell ?_ (by simp) _ | refine Below.drewN_ ?_ _ | refine Below.drew ?_ | refine Below.alloc ?_ (by simp) _))
    · have hm : c.more = false := by unfold Cur.more; rw [decide_eq_false hlt, Bool.and_false]
      have HM := Lib.hid hm
      clear hm
      go_enter Tryz.func35, Tryz.ntmps35
      go_wp2_with (go_at_call 72; refine (rcur_More c F g _ HC0.out).mono ?_; rintro e w2 ⟨rfl, n, rfl⟩; rw [HM.out])
      refine bodyPost_ret (v := .tuple #[.agg #[.int .i64 0, .int .i64 0, .int .i64 0], .bool false]) (by simp [results, Tryz.results35, go_sem]) rfl ⟨?_, ?_⟩
      · have := HQ.out
        rw [List.getElem?_eq_none (by omega)] at this
        rw [this]; rfl
      · (repeat (first | exact Below.refl _ _ | refine Below.setCell ?_ (by simp) _ | refine Below.drewN_ ?_ _ | refine Below.drew ?_ | refine Below.alloc ?_ (by simp) _))
  · have e0 : (c.err != 0) = true := by rw [bne_iff_ne]; exact he
    rw [if_pos he] at hq
    have HQ := Lib.hid hq
    clear hq he
    go_enter Tryz.func35, Tryz.ntmps35
    go_wp2
    go_region
    go_wp2
    refine bodyPost_ret (v := .tuple #[.agg #[.int .i64 c.num, .int .i64 c.pos, .int .i64 c.err], .bool true]) (by simp [results, Tryz.results35, go_sem]) rfl ⟨?_, ?_⟩
    · rw [HQ.out]; rfl
    · exact (((Below.refl _ _).alloc (Nat.le_refl _) _).drew)
end Go.Proofs.YtglkejlimeakbaaGreatDoor

namespace Go.Proofs.YtglkejlimeakbaaGreatDoor
open Go.RowKit

end Go.Proofs.YtglkejlimeakbaaGreatDoor

namespace Go.Proofs.YtglkejlimeakbaaGreatDoor
open Go.RowKit

/-- append of a whole slice onto an empty row just made. -/
theorem step_append_all {P : Program} {ops : Array Oper} {o : Oper} {a : Act} {w : World} {K : Act → World → Prop} {Q : Exit → Act → World → Prop} {E : Prop} (hgd : o.guard = none) (s x : Operand) (t : TypeId)
    (ho : o.op = .call { callee := .builtin .append, args := #[s, x], argTypes := #[t, t] })
    {e : TypeId} {size bytes : Nat} (hE : ElemOf P t e size bytes) {α : Type} {R : World → (Nat → Prop) → List Value → α → Prop} (hR : Good R)
    (base : Nat) (ad0 : Addr) (l' : List α) (hs : a.eval s = .slice (some ad0) 0 0) (hown : OwnG size R e base w (.slice (some ad0) 0 0) NoG [])
    (F : Nat → Prop) (A : Option Addr) (n c : Nat) (hx : a.eval x = .slice A n c) (hsl : Sl size R w F (.slice A n c) l')
    (hRF : ∀ w G G' cs x, R w G cs x → R w G' cs x)
    (h1 : ∀ w F cs x, R w F cs x → ∀ u ∈ cs, u.oneCell' = true)
    (h63 : l'.length ≤ maxLen) (hbytes : l'.length * bytes ≤ 140737488355328) (hbase : base ≤ w.heap.size)
    (h : ∀ A' c' w', Sl size R w' (fun b => base ≤ b ∧ b < w'.heap.size) (.slice A' n c') l' → Below base w w' → K (a.put o.dst (.slice A' n c')) w') :
    if Region.wanted o (yielded ops a.tmps) = true then Oper.wp P o a w K Q else E := by
  have hw : Region.wanted o (yielded ops a.tmps) = true := by simp [Region.wanted, hgd]
  rw [if_pos hw]
  have hown0 := hown
  obtain ⟨i, z, e1, e2, e3, e4, e5, e6, e7⟩ := hE
  obtain ⟨A', c', hv, hlc, hcm, hA⟩ := hsl
  injection hv with hv1 hv2 hv3
  subst hv2; subst hv3
  by_cases h0 : 0 < l'.length
  · obtain ⟨b, o', hab, hFb, _⟩ := hA h0
    obtain ⟨css', hl', hsz', hcell', hel''⟩ := Sl.rows (l := l') (b := b) (o := o') (n := l'.length) (c := c) ⟨A', c, by rw [← hab], hlc, hcm, hA⟩ e7
    rw [hv1, hab] at hx
    obtain ⟨css, hlen, ho', hsz, hel'⟩ := hown
    have hcss : css = [] := List.eq_nil_of_length_eq_zero (by simpa using hlen)
    subst hcss
    obtain ⟨v', w', hr, h2, h3, _, h4⟩ := run_append_own_at (P := P) w base t o.type e i z size bytes e1 e2 e3 e4 e5 e6 e7 (.slice (some ad0) 0 0) 0 [] ho' ⟨b, o', none⟩ l'.length c css'.flatten (by rw [flat_len hsz', hl'])
      (fun j u hu => by rw [show (⟨b, o', none⟩ : Addr).add j = ⟨b, o' + j, none⟩ from Addr.add_lit b o' j]; exact hcell' j u hu) (fun u hu => by
        obtain ⟨cs, hc, hu'⟩ := List.mem_flatten.1 hu
        obtain ⟨k, hk⟩ := List.mem_iff_getElem?.1 hc
        have hil : k < l'.length := by have := (List.getElem?_eq_some_iff.1 hk).1; omega
        exact h1 w F cs _ (hel'' k l'[k] cs (List.getElem?_eq_getElem hil) hk) u hu') (by omega) (by simpa using hbytes) hbase
    have hnew : OwnSl size R e base w' v' l' := by
      refine ⟨css', hl', by simpa using h2, hsz', fun k x cs hk hc => ?_⟩
      exact hR.keep (G := NoG) (hRF _ F NoG _ _ (hel'' k x cs hk hc)) (fun _ h => h.elim) fun _ h => h
    have hsl' := hnew.sl hR
    obtain ⟨A2, c2, hv2, _⟩ := hsl'.shape
    subst hv2
    unfold Oper.wp execOp
    simp only [ho, resolve, invoke, builtin, Sem.run_bind, Sem.run_pure, Result.andThen_ok, List.map_toArray, List.map_cons, List.map_nil, hs, hx, hr]
    exact h _ _ _ hsl' (below_own (Below.refl base w) hown0 h3 (Nat.le_refl _) hbase)
  · have hn : l' = [] := List.eq_nil_of_length_eq_zero (by omega)
    subst hn
    have hr : (Builtin.append_ #[t, t] o.type #[.slice (some ad0) 0 0, .slice A 0 c]).run P w = .ok (.slice (some ad0) 0 0) w := by
      cases A with
      | none => exact run_append_nothing w t t o.type e i e1 e2 (some ad0) 0 0 (Nat.le_refl _) _ (Src.ofNil w e1 c)
      | some ad => exact run_append_nothing w t t o.type e i e1 e2 (some ad0) 0 0 (Nat.le_refl _) _ (Src.ofSlice w e1 ad 0 c [] (by simp) (by simp) (by simp))
    simp only [List.length_nil] at hx h hr ⊢
    unfold Oper.wp execOp
    simp only [ho, resolve, invoke, builtin, Sem.run_bind, Sem.run_pure, Result.andThen_ok, List.map_toArray, List.map_cons, List.map_nil, hs, hx, hr]
    exact h (some ad0) 0 w ⟨some ad0, 0, rfl, Nat.le_refl _, by decide, fun h => absurd h (by simp)⟩ (Below.refl _ _)
@[go_sem] theorem build_rcur (x : Int) (A : Option Addr) (n c : Nat) (w : World) : (Instr.build 110 #[(0, .agg #[.int .i64 x, .slice A n c])]).run Tryz.prog w = .ok (.agg #[.int .i64 x, .slice A n c, .int .i64 0, .int .i64 0, .int .i64 0]) w := run_build w 110 _ _ (by kernel_rfl)
theorem elFld_F : ∀ w (G G' : Nat → Prop) cs x, elFld w G cs x → elFld w G' cs x := fun _ _ _ _ _ h => h
def RAtPost (w : World) (x : Lin) (e : Ending) (w' : World) : Prop :=
  ∃ g, e = .returned (.pointer (some ⟨g, 0, none⟩)) ∧ w.heap.size ≤ g ∧ RCurAt w' (fun b => w.heap.size ≤ b ∧ b < w'.heap.size ∧ b ≠ g) g (Cur.start x) ∧ Below w.heap.size w w'
set_option maxRecDepth 100000 in
set_option maxHeartbeats 2000000 in
theorem ref_At (x : Lin) (v : Value) (F : Nat → Prop) (w : World) (h : Sl 3 elFld w F v x.fields) (hF : ∀ b, F b → b < w.heap.size) (hl : x.fields.length ≤ 1000000000) :
    Calls Tryz.prog 32 #[.agg #[.int .i64 x.num, v]] w (RAtPost w x) := by
  obtain ⟨A, c, rfl, hc, hc'⟩ := h.shape
  have hb0 := Blk.new w 56 #[.int .i64 x.num, .slice A x.fields.length c]
  obtain ⟨wp, hwp⟩ : ∃ y, y = w.alloc (.cells #[.int .i64 x.num, .slice A x.fields.length c] 56) := ⟨_, rfl⟩
  have hz : wp.heap.size = w.heap.size + 1 := by rw [hwp]; simp
  have hown : OwnG 3 elFld 87 (w.heap.size + 1) (wp.alloc (.cells #[] 87)).drew (.slice (some ⟨w.heap.size + 1, 0, none⟩) 0 0) NoG [] := by
    have := World.ownsRow_made (base := w.heap.size + 1) (e := 87) (size := 3) wp #[] 0 (by omega) (by decide) rfl
    rw [hz] at this
    exact ⟨[], rfl, this, by simp, by simp⟩
  have hb1 : Below w.heap.size w wp := by rw [hwp]; exact Below.alloc (Below.refl _ _) (Nat.le_refl _) _
  have hb2 : Below w.heap.size w (wp.alloc (.cells #[] 87)).drew := Below.drew (Below.alloc hb1 (by omega) _)
  have hsl : Sl 3 elFld (wp.alloc (.cells #[] 87)).drew F (.slice A x.fields.length c) x.fields := h.keep elFld_good (Same.below hb2 hF) fun _ h => h
  have hzz : w.heap.size + 1 ≤ (wp.alloc (.cells #[] 87)).drew.heap.size := by simp; omega
  have hbk : Blk (wp.alloc (.cells #[] 87)).drew w.heap.size 56 #[.int .i64 x.num, .slice A x.fields.length c] := by rw [hwp]; exact (hb0.alloc _).drew
  rw [hwp] at hown hsl hb2 hzz hbk
  have HBK := Lib.hid hbk
  have HO := Lib.hid hown
  have HS := Lib.hid hsl
  have HB := Lib.hid hb2
  have HZ := Lib.hid hzz
  have h63 : x.fields.length ≤ maxLen := by simp only [maxLen]; omega
  have h64 := hl
  clear h hb0 hF hown hsl hb1 hb2 hz hwp hzz hbk
  go_enter Tryz.func32, Tryz.ntmps32
  go_wp2
  go_region_law (refine step_append_all rfl (.tmp 5) (.tmp 7) _ rfl E_fld elFld_good (w.heap.size + 1) ⟨w.heap.size + 1, 0, none⟩ x.fields rfl HO.out F A x.fields.length c rfl HS.out elFld_F elFld_one h63 (by omega) HZ.out ?_; intro A1 c1 w1 hs1 hb1; have hblk : Blk w1 w.heap.size 56 #[.int .i64 x.num, .slice A x.fields.length c] := (hb1.block _ (by omega)).trans HBK.out; have k0 := hblk.cell 0; have k1 := hblk.cell 1; simp only [List.getElem?_toArray, List.getElem?_cons_zero, List.getElem?_cons_succ] at k0 k1; have HS1 := Lib.hid hs1; have HB1 := Lib.hid hb1; clear hs1 hb1 hblk)
  all_goals
    go_wp2_with fail
    obtain ⟨W2, hW2⟩ : ∃ W, W = w1.alloc (.cells #[.int .i64 x.num, .slice A1 x.fields.length c1, .int .i64 0, .int .i64 0, .int .i64 0] 110) := ⟨_, rfl⟩
    rw [← hW2]
    have hz1 := HB1.out.size
    have hz0 := HZ.out
    have hz2 : W2.heap.size = w1.heap.size + 1 := by rw [hW2]; simp
    have hbl : Below w.heap.size w W2 := by rw [hW2]; exact (HB.out.trans (HB1.out.mono (by omega))).alloc (by omega) _
    have hsm : Sl 3 elFld W2 (fun b => w.heap.size ≤ b ∧ b < W2.heap.size ∧ b ≠ w1.heap.size) (.slice A1 x.fields.length c1) x.fields := by
      rw [hW2]
      exact HS1.out.keep elFld_good (fun b hb => Below.heap_alloc w1 _ b hb.2) fun b hb => ⟨by omega, by simp; omega, by omega⟩
    have hblk : Blk W2 w1.heap.size 110 (rcurCells (Cur.start x) (.slice A1 x.fields.length c1)) := by rw [hW2]; exact Blk.new w1 _ _
    refine bodyPost_ret (v := .pointer (some ⟨w1.heap.size, 0, none⟩)) (by simp [results, Tryz.results32, go_sem]) rfl ⟨_, rfl, by omega, ⟨Nat.zero_le _, ⟨_, hblk, hsm⟩, fun b hb => ⟨hb.2.1, hb.2.2⟩, rfl⟩, hbl⟩
end Go.Proofs.YtglkejlimeakbaaGreatDoor
