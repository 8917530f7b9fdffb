/- The contract of the reference's outcome: one piece of a distribution's text. -/
import Derived.Test.YtoeeodemimndlaaGreatDoorH13
import Derived.Test.YtoeeodemimndlaaGreatDoorF15
import Derived.Test.YtoeeodemimndlaaGreatDoorP53
set_option linter.unusedSimpArgs false
set_option linter.unusedVariables false
namespace Go.Proofs.YtoeeodemimndlaaGreatDoor
section

theorem occ58 (l : List UInt8) (j : Nat) : Lib.occAt l [58] j = (l[j]? == some 58) := by
  unfold Lib.occAt
  have e : l[j]? = (l.drop j).head? := by rw [List.head?_drop]
  rw [e]
  cases l.drop j with
  | nil => rfl
  | cons b r =>
    show ((58 : UInt8) == b && List.isPrefixOf [] r) = (some b == some 58)
    rw [show List.isPrefixOf ([] : List UInt8) r = true by cases r <;> rfl, Bool.and_true]
    by_cases h : b = 58
    · subst h; rfl
    · have e1 : ((58 : UInt8) == b) = false := beq_eq_false_iff_ne.2 fun k => h k.symm
      have e2 : (b == (58 : UInt8)) = false := beq_eq_false_iff_ne.2 h
      show ((58 : UInt8) == b) = (b == (58 : UInt8))
      rw [e1, e2]
theorem cut_hit {l : List UInt8} {i : Nat} (hi : i < l.length) (h : l[i] = 58) (hb : ∀ j, j < i → l[j]? ≠ some 58) : Lib.cut l [58] = (l.take i, l.drop (i + 1), true) := by
  have e : Lib.index l [58] = (i : Int) := Lib.index_first (by omega) (by rw [occ58, List.getElem?_eq_getElem hi, h]; rfl) fun j hj => by rw [occ58]; simp [hb j hj]
  unfold Lib.cut
  rw [e, if_pos (by omega)]
  simp
theorem cut_miss {l : List UInt8} (hb : ∀ j, j < l.length → l[j]? ≠ some 58) : Lib.cut l [58] = (l, [], false) := by
  have e : Lib.index l [58] = -1 := Lib.index_none fun j hj => by
    rw [occ58]
    by_cases h : j < l.length
    · simp [hb j h]
    · rw [List.getElem?_eq_none (by omega)]; rfl
  unfold Lib.cut
  rw [e, if_neg (by omega)]
theorem suf87 (x : List UInt8) : Lib.hasSuffix x [87] = (x.getLast? == some 87) := by
  unfold Lib.hasSuffix List.isSuffixOf
  rw [show ([87] : List UInt8).reverse = [87] from rfl, ← List.head?_reverse]
  cases x.reverse with
  | nil => rfl
  | cons b r =>
    show ((87 : UInt8) == b && List.isPrefixOf [] r) = (some b == some 87)
    rw [show List.isPrefixOf ([] : List UInt8) r = true by cases r <;> rfl, Bool.and_true]
    by_cases h : b = 87
    · subst h; rfl
    · have e1 : ((87 : UInt8) == b) = false := beq_eq_false_iff_ne.2 fun k => h k.symm
      have e2 : (b == (87 : UInt8)) = false := beq_eq_false_iff_ne.2 h
      show ((87 : UInt8) == b) = (b == (87 : UInt8))
      rw [e1, e2]
theorem last_take {l : List UInt8} {i : Nat} (hi : i ≤ l.length) (h0 : 0 < i) : (l.take i).getLast? = l[i - 1]? := by
  rw [List.getLast?_eq_getElem?, List.length_take, Nat.min_eq_left hi, List.getElem?_take, if_pos (by omega)]
/-- No colon: not a piece. -/
theorem piece_miss {l : List UInt8} (hb : ∀ j, j < l.length → l[j]? ≠ some 58) : pieceOk l = false := by
  have e : partB l = [] := by unfold partB; rw [cut_miss hb]
  unfold pieceOk
  rw [e, show (numberS [] 1 16).2 = 4 by kernel_rfl]
  simp
/-- A colon at i, no W in front of it. -/
theorem piece_plain {l : List UInt8} {i : Nat} (hi : i < l.length) (h : l[i] = 58) (hb : ∀ j, j < i → l[j]? ≠ some 58) (hw : ¬ (0 < i ∧ l[i - 1]? = some 87)) : partA l = l.take i ∧ partW l = false ∧ partB l = l.drop (i + 1) := by
  have e := cut_hit hi h hb
  have es : Lib.hasSuffix (l.take i) [87] = false := by
    rw [suf87]
    by_cases h0 : 0 < i
    · rw [last_take (by omega) h0]
      have : l[i - 1]? ≠ some 87 := fun k => hw ⟨h0, k⟩
      simp [this]
    · have : i = 0 := by omega
      subst this; rfl
  refine ⟨?_, ?_, ?_⟩
  · unfold partA; rw [e]; unfold Lib.trimSuffix; simp only; rw [es]; simp
  · unfold partW; rw [e]; exact es
  · unfold partB; rw [e]
/-- A colon at i, a W in front of it. -/
theorem piece_wick {l : List UInt8} {i : Nat} (hi : i < l.length) (h : l[i] = 58) (hb : ∀ j, j < i → l[j]? ≠ some 58) (h0 : 0 < i) (hw : l[i - 1]? = some 87) : partA l = l.take (i - 1) ∧ partW l = true ∧ partB l = l.drop (i + 1) := by
  have e := cut_hit hi h hb
  have es : Lib.hasSuffix (l.take i) [87] = true := by
    rw [suf87, last_take (by omega) h0, hw]; rfl
  refine ⟨?_, ?_, ?_⟩
  · unfold partA; rw [e]; unfold Lib.trimSuffix; simp only; rw [es, if_pos rfl, List.take_take, List.length_take]
    congr 1
    simp; omega
  · unfold partW; rw [e]; exact es
  · unfold partB; rw [e]
end
open Go.RowKit

theorem Blk.all3 {w : World} {g : Nat} {t : TypeId} {a b c : Value} (h : Blk w g t #[a, b, c]) :
    w.cell? ⟨g, 0, none⟩ = some a ∧ w.cell? ⟨g, 1, none⟩ = some b ∧ w.cell? ⟨g, 2, none⟩ = some c ∧ w.frozen? ⟨g, 0, none⟩ = false ∧ w.frozen? ⟨g, 1, none⟩ = false ∧ w.frozen? ⟨g, 2, none⟩ = false := ⟨h.cell 0, h.cell 1, h.cell 2, h.frozen 0, h.frozen 1, h.frozen 2⟩
theorem outc_ret {R' : Ending → World → Prop} {a : Act} {w : World} {x0 x1 x2 v : Value} {g : Nat} (h2 : a.tmps[2]? = some (.pointer (some ⟨g, 0, none⟩))) (h3 : a.tmps[3]? = some v) (hb : Blk w g 57 #[x0, x1, x2])
    (hd : a.defers = []) (hR : R' (.returned (.tuple #[.agg #[x0, x1, x2], v])) w) : bodyPost Tryz.prog Tryz.f54 R' .ret a w := by
  obtain ⟨r0, r1, r2, _⟩ := hb.all3
  refine bodyPost_ret (v := .tuple #[.agg #[x0, x1, x2], v]) (by simp [results, Tryz.results54, go_sem, h2, h3, r0, r1, r2]) hd hR
theorem outc_fin {w w5 : World} {y0 y1 y2 : Value} (hb : Below w.heap.size w w5) (h : Blk w5 w.heap.size 57 #[y0, y1, y2]) (x1 x2 : Int) (wk : Bool) :
    Blk (((((w5.setCell ⟨w.heap.size + 1, 0, none⟩ (.int .i64 x1)).setCell ⟨w.heap.size + 1, 2, none⟩ (.int .i64 x2)).setCell ⟨w.heap.size, 0, none⟩ (.int .i64 x1)).setCell ⟨w.heap.size, 1, none⟩ (.bool wk)).setCell ⟨w.heap.size, 2, none⟩ (.int .i64 x2)) w.heap.size 57 #[.int .i64 x1, .bool wk, .int .i64 x2] ∧
    Below w.heap.size w (((((w5.setCell ⟨w.heap.size + 1, 0, none⟩ (.int .i64 x1)).setCell ⟨w.heap.size + 1, 2, none⟩ (.int .i64 x2)).setCell ⟨w.heap.size, 0, none⟩ (.int .i64 x1)).setCell ⟨w.heap.size, 1, none⟩ (.bool wk)).setCell ⟨w.heap.size, 2, none⟩ (.int .i64 x2)) := by
  have o1 := ((Only.refl (w.heap.size + 1) w5).setCell (p := ⟨w.heap.size + 1, 0, none⟩) (.inl rfl) (.int .i64 x1)).setCell (p := ⟨w.heap.size + 1, 2, none⟩) (.inl rfl) (.int .i64 x2)
  have b1 : Below w.heap.size w5 _ := o1.below (by omega) hb.size
  have o2 := (((Only.refl w.heap.size ((w5.setCell ⟨w.heap.size + 1, 0, none⟩ (.int .i64 x1)).setCell ⟨w.heap.size + 1, 2, none⟩ (.int .i64 x2))).setCell (p := ⟨w.heap.size, 0, none⟩) (.inl rfl) (.int .i64 x1)).setCell (p := ⟨w.heap.size, 1, none⟩) (.inl rfl) (.bool wk)).setCell (p := ⟨w.heap.size, 2, none⟩) (.inl rfl) (.int .i64 x2)
  have b2 : Below w.heap.size _ _ := o2.below (Nat.le_refl _) (Nat.le_trans hb.size b1.size)
  exact ⟨((((h.far (p := ⟨w.heap.size + 1, 0, none⟩) (by simp) _).far (p := ⟨w.heap.size + 1, 2, none⟩) (by simp) _).set_ 0 _).set_ 1 _).set_ 2 _, (hb.trans b1).trans b2⟩
theorem ext_take (s : ByteArray) (k : Nat) : (s.extract 0 k).data.toList = s.data.toList.take k := by
  simp [ByteArray.data_extract, Array.toList_extract, List.extract_eq_take_drop]
theorem ext_drop (s : ByteArray) (k : Nat) : (s.extract k s.size).data.toList = s.data.toList.drop k := by
  have e : s.data.toList.length = s.size := by simp
  rw [ByteArray.data_extract, Array.toList_extract, List.extract_eq_take_drop, ← e]
  rw [List.take_of_length_le (by simp)]
/-- A piece read: an outcome, and whether it is one. -/
def PiecePost (l : List UInt8) (w : World) (e : Ending) (w' : World) : Prop :=
  ∃ o : Otc, e = .returned (.tuple #[.agg #[.int .i64 o.runs, .bool o.wick, .int .i64 o.wt], .bool (pieceOk l)]) ∧ (pieceOk l = true → o = pieceO l) ∧ Below w.heap.size w w'
set_option maxRecDepth 100000 in
set_option maxHeartbeats 1000000 in
theorem ref_outcome (s : ByteArray) (w : World) (hs : s.size ≤ 1000000) : Calls Tryz.prog 54 #[.string s] w (PiecePost s.data.toList w) := by
  have hsl : s.data.toList.length = s.size := by simp
  go_enter Tryz.func54, Tryz.ntmps54
  go_wp2
  go_loop [4] (fun i => ∃ k : Nat, k ≤ s.size ∧ i = .int .i64 k ∧ Hid (∀ j, j < k → s.data.toList[j]? ≠ some 58)) (fun i => s.size - (intOf i).toNat)
  case atStart => exact ⟨0, Nat.zero_le _, rfl, Lib.hid fun j hj => by omega⟩
  case round =>
    obtain ⟨k, hk, rfl, HS⟩ := hrel
    by_cases hlt : k < s.size
    · have hgk : s.data.toList[k]? = some s[k] := by rw [List.getElem?_eq_getElem (by rw [hsl]; exact hlt)]; rfl
      by_cases h58 : s[k] = 58
      · have t1 : ((s[k].toNat : Int) != 58) = false := by rw [h58]; rfl
        have hne : ((k : Int) == (s.size : Int)) = false := by rw [beq_eq_false_iff_ne]; omega
        have hl58 : s.data.toList[k]'(by rw [hsl]; exact hlt) = 58 := by rw [List.getElem?_eq_getElem (by rw [hsl]; exact hlt)] at hgk; rw [Option.some.inj hgk]; exact h58
        obtain ⟨p, hp⟩ : ∃ p, s.extract 0 k = p := ⟨_, rfl⟩
        obtain ⟨pb, hx2⟩ : ∃ p, s.extract (k + 1) s.size = p := ⟨_, rfl⟩
        have hpl : p.data.toList = s.data.toList.take k := by rw [← hp, ext_take]
        have hps : p.size = k := by have e : p.size = p.data.toList.length := by simp
                                    rw [e, hpl, List.length_take, hsl]; omega
        have hpb : pb.data.toList = s.data.toList.drop (k + 1) := by rw [← hx2, ext_drop]
        have hbs : pb.size ≤ 1000000 := by have e : pb.size = pb.data.toList.length := by simp
                                           rw [e, hpb, List.length_drop, hsl]; omega
        by_cases hk0 : 0 < k
        · have hki : (0 : Int) < (k : Int) := by omega
          obtain ⟨m, hm⟩ : ∃ m : Nat, m + 1 = k := ⟨k - 1, by omega⟩
          have s1 : IntKind.i64.wrap ((k : Int) - 1) = (m : Int) := by rw [show (k : Int) - 1 = (m : Int) by omega]; exact IntWalk.i64_in _ (by omega)
          have hmp : m < p.size := by omega
          have hgm : s.data.toList[k - 1]? = some p[m] := by
            have e : p.data.toList[m]? = some p[m] := by rw [List.getElem?_eq_getElem (by simpa using hmp)]; rfl
            rw [hpl, List.getElem?_take, if_pos (by omega)] at e
            rw [show k - 1 = m by omega]; exact e
          by_cases h87 : p[m] = 87
          · have t2 : ((p[m].toNat : Int) == 87) = true := by rw [h87]; rfl
            have PL := piece_wick (by rw [hsl]; exact hlt) hl58 HS.out hk0 (by rw [hgm, h87])
            obtain ⟨pa, hx1⟩ : ∃ q, p.extract 0 m = q := ⟨_, rfl⟩
            have hpa : pa.data.toList = s.data.toList.take (k - 1) := by rw [← hx1, ext_take, hpl, List.take_take]; congr 1; omega
            have has : pa.size ≤ 1000000 := by have e : pa.size = pa.data.toList.length := by simp
                                               rw [e, hpa, List.length_take, hsl]; omega
            clear hgm h87 hl58 hgk hpl h58 hk0
            have kn1 := fun W => ref_Number pa 0 7 W (by unfold maxLen; omega)
            have kn2 := fun W => ref_Number pb 1 16 W (by unfold maxLen; omega)
            rw [hpa] at kn1
            rw [hpb] at kn2
            have hokd : pieceOk s.data.toList = (decide ((numberS (partA s.data.toList) 0 7).2 = 0) && decide ((numberS (partB s.data.toList) 1 16).2 = 0)) := rfl
            have hod : pieceO s.data.toList = ⟨(numberS (partA s.data.toList) 0 7).1, partW s.data.toList, (numberS (partB s.data.toList) 1 16).1⟩ := rfl
            rw [PL.1, PL.2.2] at hokd
            rw [PL.1, PL.2.1, PL.2.2] at hod
            generalize numberS (s.data.toList.take (k - 1)) 0 7 = n1 at *
            generalize numberS (s.data.toList.drop (k + 1)) 1 16 = n2 at *
            obtain ⟨x1, e1⟩ := n1
            obtain ⟨x2, e2⟩ := n2
            dsimp only at hokd hod kn1 kn2
            have HOK := Lib.hid hokd
            have HO := Lib.hid hod
            have KN1 := Lib.hid kn1
            have KN2 := Lib.hid kn2
            have hbU : Below w.heap.size w ((w.alloc (.cells #[.int .i64 0, .bool false, .int .i64 0] 57)).alloc (.cells #[.int .i64 0, .bool true, .int .i64 0] 57)) := Below.alloc (Below.alloc (Below.refl _ _) (Nat.le_refl _) _) (by simp) _
            have b0 : Blk ((w.alloc (.cells #[.int .i64 0, .bool false, .int .i64 0] 57)).alloc (.cells #[.int .i64 0, .bool true, .int .i64 0] 57)) w.heap.size 57 #[.int .i64 0, .bool false, .int .i64 0] := (Blk.new w _ _).alloc _
            have b1 : Blk ((w.alloc (.cells #[.int .i64 0, .bool false, .int .i64 0] 57)).alloc (.cells #[.int .i64 0, .bool true, .int .i64 0] 57)) (w.heap.size + 1) 57 #[.int .i64 0, .bool true, .int .i64 0] := by
              have hz1 : (w.alloc (.cells #[.int .i64 0, .bool false, .int .i64 0] 57)).heap.size = w.heap.size + 1 := by simp
              rw [← hz1]; exact Blk.new _ _ _
            have HBU := Lib.hid hbU
            have B0 := Lib.hid b0
            have B1 := Lib.hid b1
            have tok0 : True := trivial
            clear hbU b0 b1 kn1 kn2 hokd hod PL hpa hpb HS
            go_wp2_with (first
              | (clear tok0; go_at_call 72; refine (KN1.out _).mono ?_; rintro e w4 ⟨rfl, hb4⟩; have C0 := Lib.hid (B0.out.below hb4 B0.out.lt); have C1 := Lib.hid (B1.out.below hb4 B1.out.lt); have HB4 := Lib.hid (HBU.out.trans (hb4.mono HBU.out.size)); clear hb4; have tok1 : True := trivial)
              | (clear tok1; go_at_call 72; refine (KN2.out _).mono ?_; rintro e w5 ⟨rfl, hb5⟩; have D0 := Lib.hid (C0.out.below hb5 C0.out.lt); have D1 := Lib.hid (C1.out.below hb5 C1.out.lt); have HB5 := Lib.hid (HB4.out.trans (hb5.mono HB4.out.size)); clear hb5; obtain ⟨c0, c1, c2, cf0, cf1, cf2⟩ := D0.out.all3; obtain ⟨d0, d1, d2, df0, df1, df2⟩ := D1.out.all3; have tok2 : True := trivial))
            all_goals
              have HF := outc_fin HB5.out D0.out x1 x2 true
              refine outc_ret (v := .bool (pieceOk s.data.toList)) rfl (by rw [HOK.out]; first | rfl | (rename_i hne; rw [decide_eq_false hne]; rfl) | (rename_i hne; rw [decide_eq_true hne]; rfl)) HF.1 rfl ?_
              exact ⟨⟨x1, true, x2⟩, rfl, (fun _ => HO.out.symm), HF.2⟩
          · have t2 : ((p[m].toNat : Int) == 87) = false := by
              rw [beq_eq_false_iff_ne]; intro h; apply h87; apply UInt8.toNat.inj; have : p[m].toNat = 87 := by omega
              rw [this]; rfl
            have PL := piece_plain (by rw [hsl]; exact hlt) hl58 HS.out (fun h => h87 (by rw [hgm] at h; exact Option.some.inj h.2))
            obtain ⟨pa, hpp⟩ : ∃ q, p = q := ⟨_, rfl⟩
            subst hpp
            have hpa := hpl
            have has : p.size ≤ 1000000 := by omega
            clear hgm h87 hl58 hgk hpl h58 hk0
            have kn1 := fun W => ref_Number p 0 7 W (by unfold maxLen; omega)
            have kn2 := fun W => ref_Number pb 1 16 W (by unfold maxLen; omega)
            rw [hpa] at kn1
            rw [hpb] at kn2
            have hokd : pieceOk s.data.toList = (decide ((numberS (partA s.data.toList) 0 7).2 = 0) && decide ((numberS (partB s.data.toList) 1 16).2 = 0)) := rfl
            have hod : pieceO s.data.toList = ⟨(numberS (partA s.data.toList) 0 7).1, partW s.data.toList, (numberS (partB s.data.toList) 1 16).1⟩ := rfl
            rw [PL.1, PL.2.2] at hokd
            rw [PL.1, PL.2.1, PL.2.2] at hod
            generalize numberS (s.data.toList.take k) 0 7 = n1 at *
            generalize numberS (s.data.toList.drop (k + 1)) 1 16 = n2 at *
            obtain ⟨x1, e1⟩ := n1
            obtain ⟨x2, e2⟩ := n2
            dsimp only at hokd hod kn1 kn2
            have HOK := Lib.hid hokd
            have HO := Lib.hid hod
            have KN1 := Lib.hid kn1
            have KN2 := Lib.hid kn2
            have hbU : Below w.heap.size w ((w.alloc (.cells #[.int .i64 0, .bool false, .int .i64 0] 57)).alloc (.cells #[.int .i64 0, .bool false, .int .i64 0] 57)) := Below.alloc (Below.alloc (Below.refl _ _) (Nat.le_refl _) _) (by simp) _
            have b0 : Blk ((w.alloc (.cells #[.int .i64 0, .bool false, .int .i64 0] 57)).alloc (.cells #[.int .i64 0, .bool false, .int .i64 0] 57)) w.heap.size 57 #[.int .i64 0, .bool false, .int .i64 0] := (Blk.new w _ _).alloc _
            have b1 : Blk ((w.alloc (.cells #[.int .i64 0, .bool false, .int .i64 0] 57)).alloc (.cells #[.int .i64 0, .bool false, .int .i64 0] 57)) (w.heap.size + 1) 57 #[.int .i64 0, .bool false, .int .i64 0] := by
              have hz1 : (w.alloc (.cells #[.int .i64 0, .bool false, .int .i64 0] 57)).heap.size = w.heap.size + 1 := by simp
              rw [← hz1]; exact Blk.new _ _ _
            have HBU := Lib.hid hbU
            have B0 := Lib.hid b0
            have B1 := Lib.hid b1
            have tok0 : True := trivial
            clear hbU b0 b1 kn1 kn2 hokd hod PL hpa hpb HS
            go_wp2_with (first
              | (clear tok0; go_at_call 72; refine (KN1.out _).mono ?_; rintro e w4 ⟨rfl, hb4⟩; have C0 := Lib.hid (B0.out.below hb4 B0.out.lt); have C1 := Lib.hid (B1.out.below hb4 B1.out.lt); have HB4 := Lib.hid (HBU.out.trans (hb4.mono HBU.out.size)); clear hb4; have tok1 : True := trivial)
              | (clear tok1; go_at_call 72; refine (KN2.out _).mono ?_; rintro e w5 ⟨rfl, hb5⟩; have D0 := Lib.hid (C0.out.below hb5 C0.out.lt); have D1 := Lib.hid (C1.out.below hb5 C1.out.lt); have HB5 := Lib.hid (HB4.out.trans (hb5.mono HB4.out.size)); clear hb5; obtain ⟨c0, c1, c2, cf0, cf1, cf2⟩ := D0.out.all3; obtain ⟨d0, d1, d2, df0, df1, df2⟩ := D1.out.all3; have tok2 : True := trivial))
            all_goals
              have HF := outc_fin HB5.out D0.out x1 x2 false
              refine outc_ret (v := .bool (pieceOk s.data.toList)) rfl (by rw [HOK.out]; first | rfl | (rename_i hne; rw [decide_eq_false hne]; rfl) | (rename_i hne; rw [decide_eq_true hne]; rfl)) HF.1 rfl ?_
              exact ⟨⟨x1, false, x2⟩, rfl, (fun _ => HO.out.symm), HF.2⟩
        · have hki : ¬ (0 : Int) < (k : Int) := by omega
          have PL := piece_plain (by rw [hsl]; exact hlt) hl58 HS.out (fun h => hk0 h.1)
          have hpa := hpl
          have has : p.size ≤ 1000000 := by omega
          clear hl58 hgk hpl h58 hk0
          have kn1 := fun W => ref_Number p 0 7 W (by unfold maxLen; omega)
          have kn2 := fun W => ref_Number pb 1 16 W (by unfold maxLen; omega)
          rw [hpa] at kn1
          rw [hpb] at kn2
          have hokd : pieceOk s.data.toList = (decide ((numberS (partA s.data.toList) 0 7).2 = 0) && decide ((numberS (partB s.data.toList) 1 16).2 = 0)) := rfl
          have hod : pieceO s.data.toList = ⟨(numberS (partA s.data.toList) 0 7).1, partW s.data.toList, (numberS (partB s.data.toList) 1 16).1⟩ := rfl
          rw [PL.1, PL.2.2] at hokd
          rw [PL.1, PL.2.1, PL.2.2] at hod
          generalize numberS (s.data.toList.take k) 0 7 = n1 at *
          generalize numberS (s.data.toList.drop (k + 1)) 1 16 = n2 at *
          obtain ⟨x1, e1⟩ := n1
          obtain ⟨x2, e2⟩ := n2
          dsimp only at hokd hod kn1 kn2
          have HOK := Lib.hid hokd
          have HO := Lib.hid hod
          have KN1 := Lib.hid kn1
          have KN2 := Lib.hid kn2
          have hbU : Below w.heap.size w ((w.alloc (.cells #[.int .i64 0, .bool false, .int .i64 0] 57)).alloc (.cells #[.int .i64 0, .bool false, .int .i64 0] 57)) := Below.alloc (Below.alloc (Below.refl _ _) (Nat.le_refl _) _) (by simp) _
          have b0 : Blk ((w.alloc (.cells #[.int .i64 0, .bool false, .int .i64 0] 57)).alloc (.cells #[.int .i64 0, .bool false, .int .i64 0] 57)) w.heap.size 57 #[.int .i64 0, .bool false, .int .i64 0] := (Blk.new w _ _).alloc _
          have b1 : Blk ((w.alloc (.cells #[.int .i64 0, .bool false, .int .i64 0] 57)).alloc (.cells #[.int .i64 0, .bool false, .int .i64 0] 57)) (w.heap.size + 1) 57 #[.int .i64 0, .bool false, .int .i64 0] := by
            have hz1 : (w.alloc (.cells #[.int .i64 0, .bool false, .int .i64 0] 57)).heap.size = w.heap.size + 1 := by simp
            rw [← hz1]; exact Blk.new _ _ _
          have HBU := Lib.hid hbU
          have B0 := Lib.hid b0
          have B1 := Lib.hid b1
          have tok0 : True := trivial
          clear hbU b0 b1 kn1 kn2 hokd hod PL hpa hpb HS
          go_wp2_with (first
            | (clear tok0; go_at_call 72; refine (KN1.out _).mono ?_; rintro e w4 ⟨rfl, hb4⟩; have C0 := Lib.hid (B0.out.below hb4 B0.out.lt); have C1 := Lib.hid (B1.out.below hb4 B1.out.lt); have HB4 := Lib.hid (HBU.out.trans (hb4.mono HBU.out.size)); clear hb4; have tok1 : True := trivial)
            | (clear tok1; go_at_call 72; refine (KN2.out _).mono ?_; rintro e w5 ⟨rfl, hb5⟩; have D0 := Lib.hid (C0.out.below hb5 C0.out.lt); have D1 := Lib.hid (C1.out.below hb5 C1.out.lt); have HB5 := Lib.hid (HB4.out.trans (hb5.mono HB4.out.size)); clear hb5; obtain ⟨c0, c1, c2, cf0, cf1, cf2⟩ := D0.out.all3; obtain ⟨d0, d1, d2, df0, df1, df2⟩ := D1.out.all3; have tok2 : True := trivial))
          all_goals
            have HF := outc_fin HB5.out D0.out x1 x2 false
            refine outc_ret (v := .bool (pieceOk s.data.toList)) rfl (by rw [HOK.out]; first | rfl | (rename_i hne; rw [decide_eq_false hne]; rfl) | (rename_i hne; rw [decide_eq_true hne]; rfl)) HF.1 rfl ?_
            exact ⟨⟨x1, false, x2⟩, rfl, (fun _ => HO.out.symm), HF.2⟩
      · have t1 : ((s[k].toNat : Int) != 58) = true := by
          rw [bne_iff_ne]; intro h; apply h58; apply UInt8.toNat.inj; have : s[k].toNat = 58 := by omega
          rw [this]; rfl
        have HS2 := Lib.hid (show ∀ j, j < k + 1 → s.data.toList[j]? ≠ some 58 from fun j hj => by
          by_cases e : j = k
          · subst e; rw [hgk]; intro h; exact h58 (Option.some.inj h)
          · exact HS.out j (by omega))
        clear HS hgk h58
        go_wp2
        go_round
        case rel => exact ⟨k + 1, by omega, by go_num, HS2⟩
        case measure => simp [intOf]; omega
    · obtain rfl : k = s.size := by omega
      have hmiss := piece_miss (l := s.data.toList) fun j hj => HS.out j (by omega)
      have HM := Lib.hid hmiss
      clear HS hmiss
      go_wp2
      refine outc_ret (v := .bool false) rfl rfl (Blk.new w _ _) rfl ?_
      exact ⟨⟨0, false, 0⟩, by rw [HM.out], (fun h => by rw [HM.out] at h; cases h), Below.alloc (Below.refl _ _) (Nat.le_refl _) _⟩
end Go.Proofs.YtoeeodemimndlaaGreatDoor
