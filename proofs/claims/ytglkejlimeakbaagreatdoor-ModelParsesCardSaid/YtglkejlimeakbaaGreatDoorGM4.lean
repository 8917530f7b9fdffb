/- Several texts of this family in one: F15 F16 H23 H24 J18 J21 J23 J25 J22 F5 F6 P12. -/
import Derived.Test.YtglkejlimeakbaaGreatDoorGM0
import Derived.IntWalk
import Derived.Test.YtglkejlimeakbaaGreatDoorGM3
import Derived.Test.YtglkejlimeakbaaGreatDoorGM1
import Derived.Test.YtglkejlimeakbaaGreatDoorGM2
import Derived.Deep.RegionHeld3
import Derived.Laws.StructEq
set_option linter.unusedSimpArgs false
set_option linter.unusedVariables false
namespace Go.Proofs.YtglkejlimeakbaaGreatDoor
section

theorem dec_of {l : List UInt8} (h0 : (bodyD l).isEmpty = false) (h1 : ((bodyD l).head? == some 48 && !(l == [48])) = false) (h2 : (bodyD l).all digB = true) : decB l = true := by unfold decB; rw [h0, h1, h2]; rfl
theorem dec_not {l : List UInt8} (h2 : (bodyD l).all digB = false) : decB l = false := by unfold decB; rw [h2, Bool.and_false]
theorem dec_empty {l : List UInt8} (h0 : (bodyD l).isEmpty = true) : decB l = false := by unfold decB; rw [h0]; simp
theorem dec_zero {l : List UInt8} (h1 : ((bodyD l).head? == some 48 && !(l == [48])) = true) : decB l = false := by unfold decB; rw [h1]; simp
theorem number_form {l : List UInt8} (lo hi : Int) (h : decB l = false) : numberS l lo hi = (0, 4) := by unfold numberS; rw [if_pos h]
theorem number_big {l : List UInt8} {n : Int} {big : Bool} (lo hi : Int) (h0 : (bodyD l).isEmpty = false) (h1 : ((bodyD l).head? == some 48 && !(l == [48])) = false) (h : NumInv (bodyD l) (bodyD l).length n big)
    (hb : big = true ∨ 9223372036854775808 < n ∨ (n = 9223372036854775808 ∧ negB l = false)) : numberS l lo hi = (0, 2) := by
  obtain ⟨a1, a2, a3⟩ := h.fin
  unfold numberS
  rw [if_neg (by rw [dec_of h0 h1 a1]; simp), if_neg ?_]
  intro hf
  have hf1 := hf.1
  unfold fitB valI at hf1
  simp only [Bool.and_eq_true, decide_eq_true_eq] at hf1
  cases hn : negB l
  · rw [hn, if_neg (by simp)] at hf1
    cases big with
    | true => have := a2 rfl; omega
    | false =>
      have := a3 rfl
      rcases hb with hb | hb | hb
      · cases hb
      · omega
      · omega
  · rw [hn, if_pos rfl] at hf1
    cases big with
    | true => have := a2 rfl; omega
    | false =>
      have := a3 rfl
      rcases hb with hb | hb | hb
      · cases hb
      · omega
      · rw [hn] at hb; exact absurd hb.2 (by simp)
theorem number_ok {l : List UInt8} {n v : Int} {big : Bool} (lo hi : Int) (h0 : (bodyD l).isEmpty = false) (h1 : ((bodyD l).head? == some 48 && !(l == [48])) = false) (h : NumInv (bodyD l) (bodyD l).length n big)
    (hb : big = false) (hn : n ≤ 9223372036854775808) (hn2 : negB l = false → n < 9223372036854775808) (hv : v = if negB l = true then -n else n) : numberS l lo hi = if lo ≤ v ∧ v ≤ hi then (v, 0) else (0, 2) := by
  obtain ⟨a1, a2, a3⟩ := h.fin
  have hz := a3 hb
  have hge := h.2.1
  have hvi : valI l = v := by unfold valI; rw [hv, hz]
  have hf : fitB v = true := by
    unfold fitB
    simp only [Bool.and_eq_true, decide_eq_true_eq]
    rw [hv]
    cases hne : negB l
    · rw [if_neg (by simp)]; have := hn2 hne; omega
    · rw [if_pos rfl]; omega
  unfold numberS
  rw [if_neg (by rw [dec_of h0 h1 a1]; simp), hvi, hf]
  simp
/-- The test on a leading zero. -/
theorem zero_eq {l : List UInt8} (h : bodyD l ≠ []) : ((bodyD l).head? == some 48 && (negB l || decide (1 < (bodyD l).length))) = ((bodyD l).head? == some 48 && !(l == [48])) := by
  cases hn : negB l
  · have hb : bodyD l = l := by unfold bodyD; rw [hn, if_neg (by simp)]
    rw [hb] at h ⊢
    match l, h with
    | [a], _ =>
      by_cases ha : a = 48
      · subst ha; rfl
      · simp [ha]
    | a :: b :: r, _ => simp
  · have : (l == [48]) = false := by
      match l, hn with
      | a :: r, hn =>
        unfold negB at hn
        simp at hn
        subst hn
        simp
    rw [this]; rfl
end
open Go.RowKit

theorem isEmptyT' {s : ByteArray} (h : s.size = 0) : s.toList.isEmpty = true := by rw [ByteArray.toList_eq, List.isEmpty_iff, ← List.length_eq_zero_iff]; simpa using h
theorem isEmptyF' {s : ByteArray} (h : s.size ≠ 0) : s.toList.isEmpty = false := by rw [Bool.eq_false_iff]; intro h'; rw [ByteArray.toList_eq, List.isEmpty_iff, ← List.length_eq_zero_iff] at h'; exact h (by simpa using h')
theorem drop_one_bytes (s : ByteArray) : (s.extract 1 s.size).data.toList = s.data.toList.drop 1 := by
  rw [ByteArray.data_extract, Array.toList_extract]
  simp [List.take_of_length_le]
theorem byte_eqn {c : UInt8} {n : Nat} (hn : n < 256) : (((c.toNat : Int) == (n : Int)) = true) ↔ c = UInt8.ofNat n := by
  rw [beq_iff_eq]
  constructor
  · intro h; exact UInt8.toNat_inj.1 (by rw [UInt8.toNat_ofNat_of_lt' hn]; omega)
  · rintro rfl; rw [UInt8.toNat_ofNat_of_lt' hn]
theorem head_data {s : ByteArray} (h : 0 < s.size) : s.data.toList.head? = some s[0] := by
  have hl : 0 < s.data.toList.length := by simpa using h
  rw [List.head?_eq_getElem?, List.getElem?_eq_getElem hl]; rfl
theorem u64_lo (x : Int) : 0 ≤ IntKind.u64.wrap x := by simp [IntKind.wrap, IntKind.bits, IntKind.signed]; omega
theorem u64_hi (x : Int) : IntKind.u64.wrap x < 18446744073709551616 := by simp [IntKind.wrap, IntKind.bits, IntKind.signed]; omega
theorem NumInv.bd {d : List UInt8} {k : Nat} {n : Int} {big : Bool} (h : NumInv d k n big) : 0 ≤ n ∧ n < 18446744073709551616 := ⟨h.2.1, h.2.2.1⟩

set_option maxRecDepth 100000 in
set_option maxHeartbeats 4000000 in
theorem ref_Number_neg (s d : ByteArray) (lo hi : Int) (w : World) (hs : 0 < s.size) (hds : d.size ≤ 9223372036854775807) (hx : s.extract 1 s.size = d) (z : Int × Int) (hz : z = numberS s.data.toList lo hi) (hb : bodyD s.data.toList = d.data.toList) (hn : negB s.data.toList = true)
    (e1 : ((s[0].toNat : Int) == 45) = true) (hd0 : 0 < d.size) (e3 : ((d[0].toNat : Int) == 48) = false) (h0 : (bodyD s.data.toList).isEmpty = false) (h1 : ((bodyD s.data.toList).head? == some 48 && !(s.data.toList == [48])) = false) :
    Calls Tryz.prog 115 #[.string s, .int .i64 lo, .int .i64 hi] w fun e w' => e = .returned (.tuple #[.int .i64 z.1, .int .i64 z.2]) ∧ Below w.heap.size w w' := by
  have HZ := Lib.hid hz
  have HB := Lib.hid hb
  have HN := Lib.hid hn
  have H0 := Lib.hid h0
  have H1 := Lib.hid h1
  have e0 : s.toList.isEmpty = false := isEmptyF' (by omega)
  have e2 : d.toList.isEmpty = false := isEmptyF' (by omega)
  clear hz hb hn h0 h1
  have hl1 : d.size ≤ 9223372036854775807 := hds
  go_enter Tryz.func115, Tryz.ntmps115
  go_wp2
  go_loop [10, 11, 12] (fun nv bv i => ∃ (k : Nat) (n : Int) (big : Bool), k ≤ d.size ∧ i = .int .i64 k ∧ nv = .int .u64 n ∧ bv = .bool big ∧ Hid (NumInv d.data.toList k n big)) (fun _ _ i => d.size - (intOf i).toNat)
  case atStart => exact ⟨0, 0, false, Nat.zero_le _, rfl, rfl, rfl, Lib.hid (NumInv.start _)⟩
  case round =>
    obtain ⟨k, n, big, hk, rfl, rfl, rfl, HI⟩ := hrel
    obtain ⟨hn0, hn1⟩ := HI.out.bd
    by_cases hlt : k < d.size
    · have hkl : k < d.data.toList.length := by simpa using hlt
      have hde : d.data.toList[k] = d[k] := rfl
      have hdb : digB d.data.toList[k] = digB d[k] := rfl
      obtain ⟨c, hc⟩ : ∃ c, c = d[k] := ⟨_, rfl⟩
      cases hd : digB c
      · have HF := Lib.hid (number_form lo hi (dec_not (l := s.data.toList) (by rw [HB.out]; exact NumInv.not_digit hkl (by rw [hde, ← hc]; exact hd))))
        have hdd : ((c.toNat : Int) < 48) ∨ (¬ ((c.toNat : Int) < 48) ∧ (57 < (c.toNat : Int))) := by
          have : ¬ (48 ≤ c.toNat ∧ c.toNat ≤ 57) := fun h => by rw [(digB_iff _).2 h] at hd; cases hd
          omega
        clear hd hde hdb
        rw [hc] at hdd
        clear hc
        rcases hdd with hdd | ⟨hdd, hdd2⟩
        all_goals
          go_wp2
          go_ret2
          exact ⟨by rw [HZ.out, HF.out] <;> rfl, Below.refl _ _⟩
      · have hdd := (digB_iff _).1 hd
        have hc0 : ¬ ((c.toNat : Int) < 48) := by omega
        have hc1 : ¬ (57 < (c.toNat : Int)) := by omega
        rw [hc] at hc0 hc1
        have HD := Lib.hid (show digB d.data.toList[k] = true by rw [hde, ← hc]; exact hd)
        clear hd hdd hde hdb hc
        by_cases hg : 1152921504606846976 < n
        · go_wp2
          go_round
          case rel => exact ⟨k + 1, _, _, by omega, by go_num, rfl, rfl, Lib.hid (HI.out.next hkl HD.out (u64_lo _) (u64_hi _) (by simp [hg]) (fun h => absurd h (by omega)))⟩
          case measure => simp [intOf]; omega
        · go_wp2
          go_round
          case rel => exact ⟨k + 1, _, _, by omega, by go_num, rfl, rfl, Lib.hid (HI.out.next hkl HD.out (by omega) (by have := UInt8.toNat_lt d[k]; omega) (by simp [hg]) (fun _ => rfl))⟩
          case measure => simp [intOf]; omega
    · obtain rfl : k = d.size := by omega
      have HIN := Lib.hid (show NumInv (bodyD s.data.toList) (bodyD s.data.toList).length n big by rw [HB.out, show d.data.toList.length = d.size by simp]; exact HI.out)
      clear hlt hk
      cases big
      · by_cases h63 : 9223372036854775808 < n
        · have HF := Lib.hid (number_big lo hi H0.out H1.out HIN.out (.inr (.inl h63)))
          go_wp2
          go_ret2
          exact ⟨by rw [HZ.out, HF.out] <;> rfl, Below.refl _ _⟩
        · have hle : n ≤ 9223372036854775808 := by omega
          obtain ⟨v, hv⟩ : ∃ v : Int, v = -n := ⟨_, rfl⟩
          have HF := Lib.hid (number_ok lo hi H0.out H1.out HIN.out rfl hle (fun h => by rw [HN.out] at h; cases h) (v := v) (by rw [HN.out, if_pos rfl]; exact hv))
          have w1 : ∃ u : Int, IntKind.i64.wrap n = u ∧ IntKind.i64.wrap (-u) = v := by
            refine ⟨_, rfl, ?_⟩
            subst hv
            by_cases he : n = 9223372036854775808
            · subst he; decide
            · rw [IntWalk.i64_in n (by omega), IntWalk.i64_in _ (by omega)]
          obtain ⟨u, hu, huv⟩ := w1
          clear hv
          rcases (show (n == (9223372036854775808 : Int)) = true ∨ (n == (9223372036854775808 : Int)) = false by cases (n == (9223372036854775808 : Int)) <;> simp) with e9 | e9
          all_goals
            by_cases hlo : v < lo
            · go_wp2
              go_ret2
              exact ⟨by rw [HZ.out, HF.out, if_neg (by omega)] <;> rfl, Below.refl _ _⟩
            · by_cases hhi : hi < v
              · go_wp2
                go_ret2
                exact ⟨by rw [HZ.out, HF.out, if_neg (by omega)] <;> rfl, Below.refl _ _⟩
              · go_wp2
                go_ret2
                exact ⟨by rw [HZ.out, HF.out, if_pos (by omega)] <;> rfl, Below.refl _ _⟩
      · have HF := Lib.hid (number_big lo hi H0.out H1.out HIN.out (.inl rfl))
        go_wp2
        go_ret2
        exact ⟨by rw [HZ.out, HF.out] <;> rfl, Below.refl _ _⟩

set_option maxRecDepth 100000 in
set_option maxHeartbeats 4000000 in
theorem ref_Number_pos (s d : ByteArray) (hsd : s = d) (lo hi : Int) (w : World) (hds : d.size ≤ 9223372036854775807) (z : Int × Int) (hz : z = numberS d.data.toList lo hi) (hn : negB d.data.toList = false) (hd0 : 0 < d.size)
    (e1 : ((d[0].toNat : Int) == 45) = false) (e3 : ((d[0].toNat : Int) == 48) = false ∨ (((d[0].toNat : Int) == 48) = true ∧ d.size = 1)) (h0 : (bodyD s.data.toList).isEmpty = false) (h1 : ((bodyD s.data.toList).head? == some 48 && !(s.data.toList == [48])) = false) :
    Calls Tryz.prog 115 #[.string d, .int .i64 lo, .int .i64 hi] w fun e w' => e = .returned (.tuple #[.int .i64 z.1, .int .i64 z.2]) ∧ Below w.heap.size w w' := by
  have HB := Lib.hid (show bodyD s.data.toList = d.data.toList by rw [hsd]; unfold bodyD; rw [hn, if_neg (by simp)])
  have HN := Lib.hid (show negB s.data.toList = false by rw [hsd]; exact hn)
  have HZ := Lib.hid (show z = numberS s.data.toList lo hi by rw [hsd]; exact hz)
  have H0 := Lib.hid h0
  have H1 := Lib.hid h1
  clear hz hn h0 h1
  have e0 : d.toList.isEmpty = false := isEmptyF' (by omega)
  rcases e3 with e3 | ⟨e3, e4⟩
  all_goals (try have e4' : d.size ≤ 1 := by omega); (try clear e4)
  all_goals
    have hl1 : d.size ≤ 9223372036854775807 := hds
    go_enter Tryz.func115, Tryz.ntmps115
    go_wp2
    go_loop [10, 11, 12] (fun nv bv i => ∃ (k : Nat) (n : Int) (big : Bool), k ≤ d.size ∧ i = .int .i64 k ∧ nv = .int .u64 n ∧ bv = .bool big ∧ Hid (NumInv d.data.toList k n big)) (fun _ _ i => d.size - (intOf i).toNat)
    case atStart => exact ⟨0, 0, false, Nat.zero_le _, rfl, rfl, rfl, Lib.hid (NumInv.start _)⟩
    case round =>
      obtain ⟨k, n, big, hk, rfl, rfl, rfl, HI⟩ := hrel
      obtain ⟨hn0, hn1⟩ := HI.out.bd
      by_cases hlt : k < d.size
      · have hkl : k < d.data.toList.length := by simpa using hlt
        have hde : d.data.toList[k] = d[k] := rfl
        have hdb : digB d.data.toList[k] = digB d[k] := rfl
        obtain ⟨c, hc⟩ : ∃ c, c = d[k] := ⟨_, rfl⟩
        cases hd : digB c
        · have HF := Lib.hid (number_form lo hi (dec_not (l := s.data.toList) (by rw [HB.out]; exact NumInv.not_digit hkl (by rw [hde, ← hc]; exact hd))))
          have hdd : ((c.toNat : Int) < 48) ∨ (¬ ((c.toNat : Int) < 48) ∧ (57 < (c.toNat : Int))) := by
            have : ¬ (48 ≤ c.toNat ∧ c.toNat ≤ 57) := fun h => by rw [(digB_iff _).2 h] at hd; cases hd
            omega
          clear hd hde hdb
          rw [hc] at hdd
          clear hc
          rcases hdd with hdd | ⟨hdd, hdd2⟩
          all_goals
            go_wp2
            go_ret2
            exact ⟨by rw [HZ.out, HF.out] <;> rfl, Below.refl _ _⟩
        · have hdd := (digB_iff _).1 hd
          have hc0 : ¬ ((c.toNat : Int) < 48) := by omega
          have hc1 : ¬ (57 < (c.toNat : Int)) := by omega
          rw [hc] at hc0 hc1
          have HD := Lib.hid (show digB d.data.toList[k] = true by rw [hde, ← hc]; exact hd)
          clear hd hdd hde hdb hc
          by_cases hg : 1152921504606846976 < n
          · go_wp2
            go_round
            case rel => exact ⟨k + 1, _, _, by omega, by go_num, rfl, rfl, Lib.hid (HI.out.next hkl HD.out (u64_lo _) (u64_hi _) (by simp [hg]) (fun h => absurd h (by omega)))⟩
            case measure => simp [intOf]; omega
          · go_wp2
            go_round
            case rel => exact ⟨k + 1, _, _, by omega, by go_num, rfl, rfl, Lib.hid (HI.out.next hkl HD.out (by omega) (by have := UInt8.toNat_lt d[k]; omega) (by simp [hg]) (fun _ => rfl))⟩
            case measure => simp [intOf]; omega
      · obtain rfl : k = d.size := by omega
        have HIN := Lib.hid (show NumInv (bodyD s.data.toList) (bodyD s.data.toList).length n big by rw [HB.out, show d.data.toList.length = d.size by simp]; exact HI.out)
        clear hlt hk
        cases big
        · by_cases h63 : 9223372036854775808 < n
          · have HF := Lib.hid (number_big lo hi H0.out H1.out HIN.out (.inr (.inl h63)))
            go_wp2
            go_ret2
            exact ⟨by rw [HZ.out, HF.out] <;> rfl, Below.refl _ _⟩
          · have hle : n ≤ 9223372036854775808 := by omega
            by_cases he : n = 9223372036854775808
            · have HF := Lib.hid (number_big lo hi H0.out H1.out HIN.out (.inr (.inr ⟨he, HN.out⟩)))
              have e9 : (n == 9223372036854775808) = true := by rw [he]; rfl
              clear he
              go_wp2
              go_ret2
              exact ⟨by rw [HZ.out, HF.out] <;> rfl, Below.refl _ _⟩
            · have hlt : n < 9223372036854775808 := by omega
              have e9 : (n == 9223372036854775808) = false := beq_eq_false_iff_ne.2 he
              have HF := Lib.hid (number_ok lo hi H0.out H1.out HIN.out rfl hle (fun _ => hlt) (v := n) (by rw [HN.out, if_neg (by simp)]))
              clear he
              by_cases hlo : n < lo
              · go_wp2
                go_ret2
                exact ⟨by rw [HZ.out, HF.out, if_neg (by omega)] <;> rfl, Below.refl _ _⟩
              · by_cases hhi : hi < n
                · go_wp2
                  go_ret2
                  exact ⟨by rw [HZ.out, HF.out, if_neg (by omega)] <;> rfl, Below.refl _ _⟩
                · go_wp2
                  go_ret2
                  exact ⟨by rw [HZ.out, HF.out, if_pos (by omega)] <;> rfl, Below.refl _ _⟩
        · have HF := Lib.hid (number_big lo hi H0.out H1.out HIN.out (.inl rfl))
          go_wp2
          go_ret2
          exact ⟨by rw [HZ.out, HF.out] <;> rfl, Below.refl _ _⟩

set_option maxRecDepth 100000 in
set_option maxHeartbeats 1000000 in
theorem ref_Number_empty (s : ByteArray) (lo hi : Int) (w : World) (hs : s.size = 0) (z : Int × Int) (hz : z = numberS s.data.toList lo hi) :
    Calls Tryz.prog 115 #[.string s, .int .i64 lo, .int .i64 hi] w fun e w' => e = .returned (.tuple #[.int .i64 z.1, .int .i64 z.2]) ∧ Below w.heap.size w w' := by
  have e0 : s.toList.isEmpty = true := isEmptyT' hs
  have HZ := Lib.hid (show z = (0, 4) by
    rw [hz, number_form lo hi (dec_empty ?_)]
    have : s.data.toList = [] := List.eq_nil_of_length_eq_zero (by simpa using hs)
    rw [this]; rfl)
  clear hz hs
  go_enter Tryz.func115, Tryz.ntmps115
  go_wp2
  go_ret2
  exact ⟨by rw [HZ.out] <;> rfl, Below.refl _ _⟩
set_option maxRecDepth 100000 in
set_option maxHeartbeats 1000000 in
theorem ref_Number_zpos (s : ByteArray) (lo hi : Int) (w : World) (hs : 0 < s.size) (z : Int × Int) (hz : z = (0, 4)) (e1 : ((s[0].toNat : Int) == 45) = false) (e3 : ((s[0].toNat : Int) == 48) = true) (h2 : 1 < s.size) :
    Calls Tryz.prog 115 #[.string s, .int .i64 lo, .int .i64 hi] w fun e w' => e = .returned (.tuple #[.int .i64 z.1, .int .i64 z.2]) ∧ Below w.heap.size w w' := by
  have e0 : s.toList.isEmpty = false := isEmptyF' (by omega)
  have HZ := Lib.hid hz
  clear hz
  go_enter Tryz.func115, Tryz.ntmps115
  go_wp2
  go_ret2
  exact ⟨by rw [HZ.out] <;> rfl, Below.refl _ _⟩
set_option maxRecDepth 100000 in
set_option maxHeartbeats 1000000 in
theorem ref_Number_zneg0 (s d : ByteArray) (lo hi : Int) (w : World) (hs : 0 < s.size) (hx : s.extract 1 s.size = d) (z : Int × Int) (hz : z = (0, 4)) (e1 : ((s[0].toNat : Int) == 45) = true) (hd : d.size = 0) :
    Calls Tryz.prog 115 #[.string s, .int .i64 lo, .int .i64 hi] w fun e w' => e = .returned (.tuple #[.int .i64 z.1, .int .i64 z.2]) ∧ Below w.heap.size w w' := by
  have e0 : s.toList.isEmpty = false := isEmptyF' (by omega)
  have e2 : d.toList.isEmpty = true := isEmptyT' hd
  have HZ := Lib.hid hz
  clear hz hd
  go_enter Tryz.func115, Tryz.ntmps115
  go_wp2
  go_ret2
  exact ⟨by rw [HZ.out] <;> rfl, Below.refl _ _⟩
set_option maxRecDepth 100000 in
set_option maxHeartbeats 1000000 in
theorem ref_Number_zneg (s d : ByteArray) (lo hi : Int) (w : World) (hs : 0 < s.size) (hx : s.extract 1 s.size = d) (z : Int × Int) (hz : z = (0, 4)) (e1 : ((s[0].toNat : Int) == 45) = true) (hd : 0 < d.size) (e3 : ((d[0].toNat : Int) == 48) = true) :
    Calls Tryz.prog 115 #[.string s, .int .i64 lo, .int .i64 hi] w fun e w' => e = .returned (.tuple #[.int .i64 z.1, .int .i64 z.2]) ∧ Below w.heap.size w w' := by
  have e0 : s.toList.isEmpty = false := isEmptyF' (by omega)
  have e2 : d.toList.isEmpty = false := isEmptyF' (by omega)
  have HZ := Lib.hid hz
  clear hz
  go_enter Tryz.func115, Tryz.ntmps115
  go_wp2
  go_ret2
  exact ⟨by rw [HZ.out] <;> rfl, Below.refl _ _⟩
theorem ref_Number (s : ByteArray) (lo hi : Int) (w : World) (hs : s.size ≤ maxLen) :
    Calls Tryz.prog 115 #[.string s, .int .i64 lo, .int .i64 hi] w fun e w' => e = .returned (.tuple #[.int .i64 (numberS s.data.toList lo hi).1, .int .i64 (numberS s.data.toList lo hi).2]) ∧ Below w.heap.size w w' := by
  unfold maxLen at hs
  obtain ⟨z, hz⟩ : ∃ z, z = numberS s.data.toList lo hi := ⟨_, rfl⟩
  rw [← hz]
  have hsl : s.data.toList.length = s.size := by simp
  by_cases hs0 : s.size = 0
  · exact ref_Number_empty s lo hi w hs0 z hz
  · have hs1 : 0 < s.size := Nat.pos_of_ne_zero hs0
    have hh := head_data hs1
    cases hn : negB s.data.toList
    · have hbd : bodyD s.data.toList = s.data.toList := by unfold bodyD; rw [if_neg (by simp [hn])]
      have e1 : ((s[0].toNat : Int) == 45) = false := by
        rw [Bool.eq_false_iff]; intro h
        have h' : ((s[0].toNat : Int) == ((45 : Nat) : Int)) = true := h
        rw [byte_eqn (by omega)] at h'
        unfold negB at hn; rw [hh, h'] at hn; simp at hn
      have h0 : (bodyD s.data.toList).isEmpty = false := by rw [hbd, Bool.eq_false_iff]; intro h; rw [List.isEmpty_iff] at h; rw [h] at hsl; simp at hsl; omega
      have hz2 := zero_eq (l := s.data.toList) (by intro h; rw [h] at h0; simp at h0)
      rw [hbd, hn, Bool.false_or] at hz2
      cases h1 : ((bodyD s.data.toList).head? == some 48 && !(s.data.toList == [48]))
      · rw [hbd] at h1
        rw [h1, hh] at hz2
        refine ref_Number_pos s s rfl lo hi w hs z hz hn hs1 e1 ?_ h0 (by rw [hbd]; exact h1)
        rcases (show ((s[0].toNat : Int) == 48) = true ∨ ((s[0].toNat : Int) == 48) = false by cases ((s[0].toNat : Int) == 48) <;> simp) with e | e
        · have e' : ((s[0].toNat : Int) == ((48 : Nat) : Int)) = true := e
          rw [byte_eqn (by omega)] at e'
          rw [e', hsl] at hz2
          simp at hz2
          exact .inr ⟨e, by omega⟩
        · exact .inl e
      · have hz3 : z = (0, 4) := by rw [hz, number_form lo hi (dec_zero h1)]
        rw [hbd] at h1
        rw [h1, hh, hsl] at hz2
        simp at hz2
        exact ref_Number_zpos s lo hi w hs1 z hz3 e1 (by rw [hz2.1]; rfl) (by omega)
    · have hbd : bodyD s.data.toList = s.data.toList.drop 1 := by unfold bodyD; rw [if_pos hn]
      have e1 : ((s[0].toNat : Int) == 45) = true := by
        unfold negB at hn; rw [hh] at hn; simp at hn; rw [hn]; rfl
      obtain ⟨d, hx⟩ : ∃ d, s.extract 1 s.size = d := ⟨_, rfl⟩
      have hb : bodyD s.data.toList = d.data.toList := by rw [hbd, ← hx, drop_one_bytes]
      have hdl : d.data.toList.length = d.size := by simp
      have hds : d.size ≤ s.size := by rw [← hdl, ← hb, hbd, ← hsl]; simp
      by_cases hd0 : d.size = 0
      · have : d.data.toList = [] := List.eq_nil_of_length_eq_zero (by omega)
        exact ref_Number_zneg0 s d lo hi w hs1 hx z (by rw [hz, number_form lo hi (dec_empty (by rw [hb, this]; rfl))]) e1 hd0
      · have hd1 : 0 < d.size := Nat.pos_of_ne_zero hd0
        have hhd := head_data hd1
        have h0 : (bodyD s.data.toList).isEmpty = false := by rw [hb, Bool.eq_false_iff]; intro h; rw [List.isEmpty_iff] at h; rw [h] at hdl; simp at hdl; omega
        have hz2 := zero_eq (l := s.data.toList) (by intro h; rw [h] at h0; simp at h0)
        rw [hn, Bool.true_or, Bool.and_true, hb, hhd] at hz2
        rcases (show ((d[0].toNat : Int) == 48) = true ∨ ((d[0].toNat : Int) == 48) = false by cases ((d[0].toNat : Int) == 48) <;> simp) with e | e
        · have e' : ((d[0].toNat : Int) == ((48 : Nat) : Int)) = true := e
          rw [byte_eqn (by omega)] at e'
          have h1 : ((bodyD s.data.toList).head? == some 48 && !(s.data.toList == [48])) = true := by rw [hb, hhd, ← hz2, e']; simp
          exact ref_Number_zneg s d lo hi w hs1 hx z (by rw [hz, number_form lo hi (dec_zero h1)]) e1 hd1 e
        · have e' : ¬ (d[0] = 48) := fun h => by rw [h] at e; cases e
          have h1 : ((bodyD s.data.toList).head? == some 48 && !(s.data.toList == [48])) = false := by rw [hb, hhd, ← hz2]; simp [e']
          exact ref_Number_neg s d lo hi w hs1 (by omega) hx z hz hb hn e1 hd1 e h0 h1
end Go.Proofs.YtglkejlimeakbaaGreatDoor

namespace Go.Proofs.YtglkejlimeakbaaGreatDoor
open Go.RowKit

set_option maxRecDepth 100000 in
set_option maxHeartbeats 2000000 in
theorem rcur_Word (c : Cur) (F : Nat → Prop) (g : Nat) (w : World) (h : RCurAt w F g c) :
    Calls Tryz.prog 88 #[.pointer (some ⟨g, 0, none⟩)] w (RStrCur w F g (c.word false)) := by
  obtain ⟨q, hq⟩ : ∃ q, q = c.word false := ⟨_, rfl⟩
  rw [← hq]
  unfold Cur.word at hq
  obtain ⟨⟨c', t, ok⟩, hr⟩ : ∃ r, r = c.read false := ⟨_, rfl⟩
  rw [← hr] at hq
  have HQ := Lib.hid hq
  cases ok
  · have hrd := rcur_next_none h hr
    have ht0 := read_none hr
    have HRD := Lib.hid hrd
    have HT := Lib.hid ht0
    clear hrd hr hq h ht0
    go_enter Tryz.func88, Tryz.ntmps88
    go_wp2_with (go_at_call 113; refine HRD.out.mono ?_; rintro e w2 ⟨rfl, hc2, ho2⟩)
    go_ret
    rw [HQ.out]
    exact ⟨by rw [HT.out]; rfl, hc2.alloc _, ho2.alloc _⟩
  · have hrd := rcur_next_some h hr
    have HRD := Lib.hid hrd
    clear hrd hr hq h
    go_enter Tryz.func88, Tryz.ntmps88
    go_wp2_with (go_at_call 113; refine HRD.out.mono ?_; rintro e w2 ⟨rfl, hc2, ho2⟩)
    go_ret
    rw [HQ.out]
    exact ⟨rfl, hc2.alloc _, ho2.alloc _⟩
set_option maxRecDepth 100000 in
set_option maxHeartbeats 2000000 in
theorem rcur_String (c : Cur) (F : Nat → Prop) (g : Nat) (w : World) (h : RCurAt w F g c) :
    Calls Tryz.prog 90 #[.pointer (some ⟨g, 0, none⟩)] w (RStrCur w F g (c.word true)) := by
  obtain ⟨q, hq⟩ : ∃ q, q = c.word true := ⟨_, rfl⟩
  rw [← hq]
  unfold Cur.word at hq
  obtain ⟨⟨c', t, ok⟩, hr⟩ : ∃ r, r = c.read true := ⟨_, rfl⟩
  rw [← hr] at hq
  have HQ := Lib.hid hq
  cases ok
  · have hrd := rcur_next_none h hr
    have ht0 := read_none hr
    have HRD := Lib.hid hrd
    have HT := Lib.hid ht0
    clear hrd hr hq h ht0
    go_enter Tryz.func90, Tryz.ntmps90
    go_wp2_with (go_at_call 113; refine HRD.out.mono ?_; rintro e w2 ⟨rfl, hc2, ho2⟩)
    go_ret
    rw [HQ.out]
    exact ⟨by rw [HT.out]; rfl, hc2.alloc _, ho2.alloc _⟩
  · have hrd := rcur_next_some h hr
    have HRD := Lib.hid hrd
    clear hrd hr hq h
    go_enter Tryz.func90, Tryz.ntmps90
    go_wp2_with (go_at_call 113; refine HRD.out.mono ?_; rintro e w2 ⟨rfl, hc2, ho2⟩)
    go_ret
    rw [HQ.out]
    exact ⟨rfl, hc2.alloc _, ho2.alloc _⟩
set_option maxRecDepth 100000 in
set_option maxHeartbeats 2000000 in
theorem rcur_Int (c : Cur) (lo hi : Int) (F : Nat → Prop) (g : Nat) (w : World) (h : RCurAt w F g c) (hlen : ∀ f ∈ c.fields, f.text.length ≤ 1000000000) :
    Calls Tryz.prog 71 #[.pointer (some ⟨g, 0, none⟩), .int .i64 lo, .int .i64 hi] w (RIntCur w F g (c.int lo hi)) := by
  obtain ⟨q, hq⟩ : ∃ q, q = c.int lo hi := ⟨_, rfl⟩
  rw [← hq]
  unfold Cur.int at hq
  have htl := Cur.read_text c false hlen
  obtain ⟨⟨c', t, ok⟩, hr⟩ : ∃ r, r = c.read false := ⟨_, rfl⟩
  rw [← hr] at hq htl
  dsimp only at htl hq
  cases ok
  · have hrd := rcur_next_none h hr
    rw [if_neg (by simp)] at hq
    have HQ := Lib.hid hq
    have HRD := Lib.hid hrd
    clear hrd hr hq h hlen
    go_enter Tryz.func71, Tryz.ntmps71
    go_wp2_with (go_at_call 113; refine HRD.out.mono ?_; rintro e w2 ⟨rfl, hc2, ho2⟩)
    go_ret
    rw [HQ.out]
    exact ⟨rfl, hc2.alloc _, ho2.alloc _⟩
  · have hrd := rcur_next_some h hr
    have he0 := read_err hr
    rw [if_pos rfl] at hq
    have kn0 : ∀ W, Calls Tryz.prog 115 #[.string (S t), .int .i64 lo, .int .i64 hi] W fun e W' => e = .returned (.tuple #[.int .i64 (numberS t lo hi).1, .int .i64 (numberS t lo hi).2]) ∧ Below W.heap.size W W' := fun W => by
      have := ref_Number (S t) lo hi W (by simp only [S_size, maxLen]; omega)
      rw [S_data] at this
      exact this
    obtain ⟨⟨v, er⟩, hv⟩ : ∃ z, z = numberS t lo hi := ⟨_, rfl⟩
    rw [← hv] at hq kn0
    have KN := Lib.hid kn0
    have HRD := Lib.hid hrd
    have HE := Lib.hid he0
    dsimp only at hq
    clear hrd hr h hlen hv kn0 htl he0
    by_cases hz : er = 0
    · have e1 : (er != 0) = false := by rw [hz]; rfl
      rw [if_pos hz] at hq
      have HQ := Lib.hid hq
      clear hq hz
      go_enter Tryz.func71, Tryz.ntmps71
      go_wp2_with (first
        | (go_at_call 113; refine HRD.out.mono ?_; rintro e w2 ⟨rfl, hc2, ho2⟩; have HC2 := Lib.hid (hc2.alloc (.cells #[.string (S t), .int .i64 c'.last, .bool false] 87)); have HO2 := Lib.hid (ho2.alloc (.cells #[.string (S t), .int .i64 c'.last, .bool false] 87)); clear hc2 ho2)
        | (go_at_call 115; refine (KN.out _).mono ?_; rintro e w3 ⟨rfl, hb3⟩; have HC3 := Lib.hid (HC2.out.below hb3); have HO3 := Lib.hid (HO2.out.trans (Only.of_below hb3)); clear hb3))
      go_ret
      rw [HQ.out]
      exact ⟨rfl, HC3.out, HO3.out⟩
    · have e1 : (er != 0) = true := by rw [bne_iff_ne]; exact hz
      rw [if_neg hz] at hq
      have HQ := Lib.hid hq
      clear hq hz
      go_enter Tryz.func71, Tryz.ntmps71
      go_wp2_with (first
        | (go_at_call 113; refine HRD.out.mono ?_; rintro e w2 ⟨rfl, hc2, ho2⟩; have hk2 := Blk.new w2 87 #[.string (S t), .int .i64 c'.last, .bool false]; have HK2 := Lib.hid hk2; have HC2 := Lib.hid (hc2.alloc (.cells #[.string (S t), .int .i64 c'.last, .bool false] 87)); have HO2 := Lib.hid (ho2.alloc (.cells #[.string (S t), .int .i64 c'.last, .bool false] 87)); clear hc2 ho2 hk2)
        | (go_at_call 115; refine (KN.out _).mono ?_; rintro e w3 ⟨rfl, hb3⟩; have hk3 := HK2.out.below hb3 HK2.out.lt; obtain ⟨_, y1, _⟩ := hk3.three; clear hk3; have HC3 := Lib.hid (HC2.out.below hb3); have HO3 := Lib.hid (HO2.out.trans (Only.of_below hb3)); clear hb3)
        | (go_at_call 114; refine (rcur_fail c' er c'.last F g _ HC3.out HE.out).mono ?_; rintro e w4 ⟨rfl, hc4, ho4⟩))
      go_ret
      rw [HQ.out]
      exact ⟨rfl, hc4, HO3.out.trans ho4⟩
end Go.Proofs.YtglkejlimeakbaaGreatDoor

namespace Go.Proofs.YtglkejlimeakbaaGreatDoor
section

theorem occ58 (l : List UInt8) (j : Nat) : Lib.occAt l [58] j = (l[j]? == some 58) := by
  unfold Lib.occAt
  have e : l[j]? = (l.drop j).head? := by rw [List.head?_drop]
  rw [e]
  cases l.drop j with
  | nil => rfl
  | cons b r =>
    show ((58 : UInt8) == b && List.isPrefixOf [] r) = (some b == some 58)
    rw [show List.isPrefixOf ([] : List UInt8) r = true by cases r <;> rfl, Bool.and_true]
    by_cases h : b = 58
    · subst h; rfl
    · have e1 : ((58 : UInt8) == b) = false := beq_eq_false_iff_ne.2 fun k => h k.symm
      have e2 : (b == (58 : UInt8)) = false := beq_eq_false_iff_ne.2 h
      show ((58 : UInt8) == b) = (b == (58 : UInt8))
      rw [e1, e2]
theorem cut_hit {l : List UInt8} {i : Nat} (hi : i < l.length) (h : l[i] = 58) (hb : ∀ j, j < i → l[j]? ≠ some 58) : Lib.cut l [58] = (l.take i, l.drop (i + 1), true) := by
  have e : Lib.index l [58] = (i : Int) := Lib.index_first (by omega) (by rw [occ58, List.getElem?_eq_getElem hi, h]; rfl) fun j hj => by rw [occ58]; simp [hb j hj]
  unfold Lib.cut
  rw [e, if_pos (by omega)]
  simp
theorem cut_miss {l : List UInt8} (hb : ∀ j, j < l.length → l[j]? ≠ some 58) : Lib.cut l [58] = (l, [], false) := by
  have e : Lib.index l [58] = -1 := Lib.index_none fun j hj => by
    rw [occ58]
    by_cases h : j < l.length
    · simp [hb j h]
    · rw [List.getElem?_eq_none (by omega)]; rfl
  unfold Lib.cut
  rw [e, if_neg (by omega)]
theorem suf87 (x : List UInt8) : Lib.hasSuffix x [87] = (x.getLast? == some 87) := by
  unfold Lib.hasSuffix List.isSuffixOf
  rw [show ([87] : List UInt8).reverse = [87] from rfl, ← List.head?_reverse]
  cases x.reverse with
  | nil => rfl
  | cons b r =>
    show ((87 : UInt8) == b && List.isPrefixOf [] r) = (some b == some 87)
    rw [show List.isPrefixOf ([] : List UInt8) r = true by cases r <;> rfl, Bool.and_true]
    by_cases h : b = 87
    · subst h; rfl
    · have e1 : ((87 : UInt8) == b) = false := beq_eq_false_iff_ne.2 fun k => h k.symm
      have e2 : (b == (87 : UInt8)) = false := beq_eq_false_iff_ne.2 h
      show ((87 : UInt8) == b) = (b == (87 : UInt8))
      rw [e1, e2]
theorem last_take {l : List UInt8} {i : Nat} (hi : i ≤ l.length) (h0 : 0 < i) : (l.take i).getLast? = l[i - 1]? := by
  rw [List.getLast?_eq_getElem?, List.length_take, Nat.min_eq_left hi, List.getElem?_take, if_pos (by omega)]
/-- No colon: not a piece. -/
theorem piece_miss {l : List UInt8} (hb : ∀ j, j < l.length → l[j]? ≠ some 58) : pieceOk l = false := by
  have e : partB l = [] := by unfold partB; rw [cut_miss hb]
  unfold pieceOk
  rw [e, show (numberS [] 1 16).2 = 4 by kernel_rfl]
  simp
/-- A colon at i, no W in front of it. -/
theorem piece_plain {l : List UInt8} {i : Nat} (hi : i < l.length) (h : l[i] = 58) (hb : ∀ j, j < i → l[j]? ≠ some 58) (hw : ¬ (0 < i ∧ l[i - 1]? = some 87)) : partA l = l.take i ∧ partW l = false ∧ partB l = l.drop (i + 1) := by
  have e := cut_hit hi h hb
  have es : Lib.hasSuffix (l.take i) [87] = false := by
    rw [suf87]
    by_cases h0 : 0 < i
    · rw [last_take (by omega) h0]
      have : l[i - 1]? ≠ some 87 := fun k => hw ⟨h0, k⟩
      simp [this]
    · have : i = 0 := by omega
      subst this; rfl
  refine ⟨?_, ?_, ?_⟩
  · unfold partA; rw [e]; unfold Lib.trimSuffix; simp only; rw [es]; simp
  · unfold partW; rw [e]; exact es
  · unfold partB; rw [e]
/-- A colon at i, a W in front of it. -/
theorem piece_wick {l : List UInt8} {i : Nat} (hi : i < l.length) (h : l[i] = 58) (hb : ∀ j, j < i → l[j]? ≠ some 58) (h0 : 0 < i) (hw : l[i - 1]? = some 87) : partA l = l.take (i - 1) ∧ partW l = true ∧ partB l = l.drop (i + 1) := by
  have e := cut_hit hi h hb
  have es : Lib.hasSuffix (l.take i) [87] = true := by
    rw [suf87, last_take (by omega) h0, hw]; rfl
  refine ⟨?_, ?_, ?_⟩
  · unfold partA; rw [e]; unfold Lib.trimSuffix; simp only; rw [es, if_pos rfl, List.take_take, List.length_take]
    congr 1
    simp; omega
  · unfold partW; rw [e]; exact es
  · unfold partB; rw [e]
end
open Go.RowKit

theorem Blk.all3 {w : World} {g : Nat} {t : TypeId} {a b c : Value} (h : Blk w g t #[a, b, c]) :
    w.cell? ⟨g, 0, none⟩ = some a ∧ w.cell? ⟨g, 1, none⟩ = some b ∧ w.cell? ⟨g, 2, none⟩ = some c ∧ w.frozen? ⟨g, 0, none⟩ = false ∧ w.frozen? ⟨g, 1, none⟩ = false ∧ w.frozen? ⟨g, 2, none⟩ = false := ⟨h.cell 0, h.cell 1, h.cell 2, h.frozen 0, h.frozen 1, h.frozen 2⟩
theorem outc_ret {R' : Ending → World → Prop} {a : Act} {w : World} {x0 x1 x2 v : Value} {g : Nat} (h2 : a.tmps[2]? = some (.pointer (some ⟨g, 0, none⟩))) (h3 : a.tmps[3]? = some v) (hb : Blk w g 119 #[x0, x1, x2])
    (hd : a.defers = []) (hR : R' (.returned (.tuple #[.agg #[x0, x1, x2], v])) w) : bodyPost Tryz.prog Tryz.f128 R' .ret a w := by
  obtain ⟨r0, r1, r2, _⟩ := hb.all3
  refine bodyPost_ret (v := .tuple #[.agg #[x0, x1, x2], v]) (by simp [results, Tryz.results128, go_sem, h2, h3, r0, r1, r2]) hd hR
theorem outc_fin {w w5 : World} {y0 y1 y2 : Value} (hb : Below w.heap.size w w5) (h : Blk w5 w.heap.size 119 #[y0, y1, y2]) (x1 x2 : Int) (wk : Bool) :
    Blk (((((w5.setCell ⟨w.heap.size + 1, 0, none⟩ (.int .i64 x1)).setCell ⟨w.heap.size + 1, 2, none⟩ (.int .i64 x2)).setCell ⟨w.heap.size, 0, none⟩ (.int .i64 x1)).setCell ⟨w.heap.size, 1, none⟩ (.bool wk)).setCell ⟨w.heap.size, 2, none⟩ (.int .i64 x2)) w.heap.size 119 #[.int .i64 x1, .bool wk, .int .i64 x2] ∧
    Below w.heap.size w (((((w5.setCell ⟨w.heap.size + 1, 0, none⟩ (.int .i64 x1)).setCell ⟨w.heap.size + 1, 2, none⟩ (.int .i64 x2)).setCell ⟨w.heap.size, 0, none⟩ (.int .i64 x1)).setCell ⟨w.heap.size, 1, none⟩ (.bool wk)).setCell ⟨w.heap.size, 2, none⟩ (.int .i64 x2)) := by
  have o1 := ((Only.refl (w.heap.size + 1) w5).setCell (p := ⟨w.heap.size + 1, 0, none⟩) (.inl rfl) (.int .i64 x1)).setCell (p := ⟨w.heap.size + 1, 2, none⟩) (.inl rfl) (.int .i64 x2)
  have b1 : Below w.heap.size w5 _ := o1.below (by omega) hb.size
  have o2 := (((Only.refl w.heap.size ((w5.setCell ⟨w.heap.size + 1, 0, none⟩ (.int .i64 x1)).setCell ⟨w.heap.size + 1, 2, none⟩ (.int .i64 x2))).setCell (p := ⟨w.heap.size, 0, none⟩) (.inl rfl) (.int .i64 x1)).setCell (p := ⟨w.heap.size, 1, none⟩) (.inl rfl) (.bool wk)).setCell (p := ⟨w.heap.size, 2, none⟩) (.inl rfl) (.int .i64 x2)
  have b2 : Below w.heap.size _ _ := o2.below (Nat.le_refl _) (Nat.le_trans hb.size b1.size)
  exact ⟨((((h.far (p := ⟨w.heap.size + 1, 0, none⟩) (by simp) _).far (p := ⟨w.heap.size + 1, 2, none⟩) (by simp) _).set_ 0 _).set_ 1 _).set_ 2 _, (hb.trans b1).trans b2⟩
theorem ext_take (s : ByteArray) (k : Nat) : (s.extract 0 k).data.toList = s.data.toList.take k := by
  simp [ByteArray.data_extract, Array.toList_extract, List.extract_eq_take_drop]
theorem ext_drop (s : ByteArray) (k : Nat) : (s.extract k s.size).data.toList = s.data.toList.drop k := by
  have e : s.data.toList.length = s.size := by simp
  rw [ByteArray.data_extract, Array.toList_extract, List.extract_eq_take_drop, ← e]
  rw [List.take_of_length_le (by simp)]
/-- A piece read: an outcome, and whether it is one. -/
def PiecePost (l : List UInt8) (w : World) (e : Ending) (w' : World) : Prop :=
  ∃ o : Otc, e = .returned (.tuple #[.agg #[.int .i64 o.runs, .bool o.wick, .int .i64 o.wt], .bool (pieceOk l)]) ∧ (pieceOk l = true → o = pieceO l) ∧ Below w.heap.size w w'
set_option maxRecDepth 100000 in
set_option maxHeartbeats 1000000 in
theorem ref_outcome (s : ByteArray) (w : World) (hs : s.size ≤ 1000000) : Calls Tryz.prog 128 #[.string s] w (PiecePost s.data.toList w) := by
  have hsl : s.data.toList.length = s.size := by simp
  go_enter Tryz.func128, Tryz.ntmps128
  go_wp2
  go_loop [4] (fun i => ∃ k : Nat, k ≤ s.size ∧ i = .int .i64 k ∧ Hid (∀ j, j < k → s.data.toList[j]? ≠ some 58)) (fun i => s.size - (intOf i).toNat)
  case atStart => exact ⟨0, Nat.zero_le _, rfl, Lib.hid fun j hj => by omega⟩
  case round =>
    obtain ⟨k, hk, rfl, HS⟩ := hrel
    by_cases hlt : k < s.size
    · have hgk : s.data.toList[k]? = some s[k] := by rw [List.getElem?_eq_getElem (by rw [hsl]; exact hlt)]; rfl
      by_cases h58 : s[k] = 58
      · have t1 : ((s[k].toNat : Int) != 58) = false := by rw [h58]; rfl
        have hne : ((k : Int) == (s.size : Int)) = false := by rw [beq_eq_false_iff_ne]; omega
        have hl58 : s.data.toList[k]'(by rw [hsl]; exact hlt) = 58 := by rw [List.getElem?_eq_getElem (by rw [hsl]; exact hlt)] at hgk; rw [Option.some.inj hgk]; exact h58
        obtain ⟨p, hp⟩ : ∃ p, s.extract 0 k = p := ⟨_, rfl⟩
        obtain ⟨pb, hx2⟩ : ∃ p, s.extract (k + 1) s.size = p := ⟨_, rfl⟩
        have hpl : p.data.toList = s.data.toList.take k := by rw [← hp, ext_take]
        have hps : p.size = k := by have e : p.size = p.data.toList.length := by simp
                                    rw [e, hpl, List.length_take, hsl]; omega
        have hpb : pb.data.toList = s.data.toList.drop (k + 1) := by rw [← hx2, ext_drop]
        have hbs : pb.size ≤ 1000000 := by have e : pb.size = pb.data.toList.length := by simp
                                           rw [e, hpb, List.length_drop, hsl]; omega
        by_cases hk0 : 0 < k
        · have hki : (0 : Int) < (k : Int) := by omega
          obtain ⟨m, hm⟩ : ∃ m : Nat, m + 1 = k := ⟨k - 1, by omega⟩
          have s1 : IntKind.i64.wrap ((k : Int) - 1) = (m : Int) := by rw [show (k : Int) - 1 = (m : Int) by omega]; exact IntWalk.i64_in _ (by omega)
          have hmp : m < p.size := by omega
          have hgm : s.data.toList[k - 1]? = some p[m] := by
            have e : p.data.toList[m]? = some p[m] := by rw [List.getElem?_eq_getElem (by simpa using hmp)]; rfl
            rw [hpl, List.getElem?_take, if_pos (by omega)] at e
            rw [show k - 1 = m by omega]; exact e
          by_cases h87 : p[m] = 87
          · have t2 : ((p[m].toNat : Int) == 87) = true := by rw [h87]; rfl
            have PL := piece_wick (by rw [hsl]; exact hlt) hl58 HS.out hk0 (by rw [hgm, h87])
            obtain ⟨pa, hx1⟩ : ∃ q, p.extract 0 m = q := ⟨_, rfl⟩
            have hpa : pa.data.toList = s.data.toList.take (k - 1) := by rw [← hx1, ext_take, hpl, List.take_take]; congr 1; omega
            have has : pa.size ≤ 1000000 := by have e : pa.size = pa.data.toList.length := by simp
                                               rw [e, hpa, List.length_take, hsl]; omega
            clear hgm h87 hl58 hgk hpl h58 hk0
            have kn1 := fun W => ref_Number pa 0 7 W (by unfold maxLen; omega)
            have kn2 := fun W => ref_Number pb 1 16 W (by unfold maxLen; omega)
            rw [hpa] at kn1
            rw [hpb] at kn2
            have hokd : pieceOk s.data.toList = (decide ((numberS (partA s.data.toList) 0 7).2 = 0) && decide ((numberS (partB s.data.toList) 1 16).2 = 0)) := rfl
            have hod : pieceO s.data.toList = ⟨(numberS (partA s.data.toList) 0 7).1, partW s.data.toList, (numberS (partB s.data.toList) 1 16).1⟩ := rfl
            rw [PL.1, PL.2.2] at hokd
            rw [PL.1, PL.2.1, PL.2.2] at hod
            generalize numberS (s.data.toList.take (k - 1)) 0 7 = n1 at *
            generalize numberS (s.data.toList.drop (k + 1)) 1 16 = n2 at *
            obtain ⟨x1, e1⟩ := n1
            obtain ⟨x2, e2⟩ := n2
            dsimp only at hokd hod kn1 kn2
            have HOK := Lib.hid hokd
            have HO := Lib.hid hod
            have KN1 := Lib.hid kn1
            have KN2 := Lib.hid kn2
            have hbU : Below w.heap.size w ((w.alloc (.cells #[.int .i64 0, .bool false, .int .i64 0] 119)).alloc (.cells #[.int .i64 0, .bool true, .int .i64 0] 119)) := Below.alloc (Below.alloc (Below.refl _ _) (Nat.le_refl _) _) (by simp) _
            have b0 : Blk ((w.alloc (.cells #[.int .i64 0, .bool false, .int .i64 0] 119)).alloc (.cells #[.int .i64 0, .bool true, .int .i64 0] 119)) w.heap.size 119 #[.int .i64 0, .bool false, .int .i64 0] := (Blk.new w _ _).alloc _
            have b1 : Blk ((w.alloc (.cells #[.int .i64 0, .bool false, .int .i64 0] 119)).alloc (.cells #[.int .i64 0, .bool true, .int .i64 0] 119)) (w.heap.size + 1) 119 #[.int .i64 0, .bool true, .int .i64 0] := by
              have hz1 : (w.alloc (.cells #[.int .i64 0, .bool false, .int .i64 0] 119)).heap.size = w.heap.size + 1 := by simp
              rw [← hz1]; exact Blk.new _ _ _
            have HBU := Lib.hid hbU
            have B0 := Lib.hid b0
            have B1 := Lib.hid b1
            have tok0 : True := trivial
            clear hbU b0 b1 kn1 kn2 hokd hod PL hpa hpb HS
            go_wp2_with (first
              | (clear tok0; go_at_call 115; refine (KN1.out _).mono ?_; rintro e w4 ⟨rfl, hb4⟩; have C0 := Lib.hid (B0.out.below hb4 B0.out.lt); have C1 := Lib.hid (B1.out.below hb4 B1.out.lt); have HB4 := Lib.hid (HBU.out.trans (hb4.mono HBU.out.size)); clear hb4; have tok1 : True := trivial)
              | (clear tok1; go_at_call 115; refine (KN2.out _).mono ?_; rintro e w5 ⟨rfl, hb5⟩; have D0 := Lib.hid (C0.out.below hb5 C0.out.lt); have D1 := Lib.hid (C1.out.below hb5 C1.out.lt); have HB5 := Lib.hid (HB4.out.trans (hb5.mono HB4.out.size)); clear hb5; obtain ⟨c0, c1, c2, cf0, cf1, cf2⟩ := D0.out.all3; obtain ⟨d0, d1, d2, df0, df1, df2⟩ := D1.out.all3; have tok2 : True := trivial))
            all_goals
              have HF := outc_fin HB5.out D0.out x1 x2 true
              refine outc_ret (v := .bool (pieceOk s.data.toList)) rfl (by rw [HOK.out]; first | rfl | (rename_i hne; rw [decide_eq_false hne]; rfl) | (rename_i hne; rw [decide_eq_true hne]; rfl)) HF.1 rfl ?_
              exact ⟨⟨x1, true, x2⟩, rfl, (fun _ => HO.out.symm), HF.2⟩
          · have t2 : ((p[m].toNat : Int) == 87) = false := by
              rw [beq_eq_false_iff_ne]; intro h; apply h87; apply UInt8.toNat.inj; have : p[m].toNat = 87 := by omega
              rw [this]; rfl
            have PL := piece_plain (by rw [hsl]; exact hlt) hl58 HS.out (fun h => h87 (by rw [hgm] at h; exact Option.some.inj h.2))
            obtain ⟨pa, hpp⟩ : ∃ q, p = q := ⟨_, rfl⟩
            subst hpp
            have hpa := hpl
            have has : p.size ≤ 1000000 := by omega
            clear hgm h87 hl58 hgk hpl h58 hk0
            have kn1 := fun W => ref_Number p 0 7 W (by unfold maxLen; omega)
            have kn2 := fun W => ref_Number pb 1 16 W (by unfold maxLen; omega)
            rw [hpa] at kn1
            rw [hpb] at kn2
            have hokd : pieceOk s.data.toList = (decide ((numberS (partA s.data.toList) 0 7).2 = 0) && decide ((numberS (partB s.data.toList) 1 16).2 = 0)) := rfl
            have hod : pieceO s.data.toList = ⟨(numberS (partA s.data.toList) 0 7).1, partW s.data.toList, (numberS (partB s.data.toList) 1 16).1⟩ := rfl
            rw [PL.1, PL.2.2] at hokd
            rw [PL.1, PL.2.1, PL.2.2] at hod
            generalize numberS (s.data.toList.take k) 0 7 = n1 at *
            generalize numberS (s.data.toList.drop (k + 1)) 1 16 = n2 at *
            obtain ⟨x1, e1⟩ := n1
            obtain ⟨x2, e2⟩ := n2
            dsimp only at hokd hod kn1 kn2
            have HOK := Lib.hid hokd
            have HO := Lib.hid hod
            have KN1 := Lib.hid kn1
            have KN2 := Lib.hid kn2
            have hbU : Below w.heap.size w ((w.alloc (.cells #[.int .i64 0, .bool false, .int .i64 0] 119)).alloc (.cells #[.int .i64 0, .bool false, .int .i64 0] 119)) := Below.alloc (Below.alloc (Below.refl _ _) (Nat.le_refl _) _) (by simp) _
            have b0 : Blk ((w.alloc (.cells #[.int .i64 0, .bool false, .int .i64 0] 119)).alloc (.cells #[.int .i64 0, .bool false, .int .i64 0] 119)) w.heap.size 119 #[.int .i64 0, .bool false, .int .i64 0] := (Blk.new w _ _).alloc _
            have b1 : Blk ((w.alloc (.cells #[.int .i64 0, .bool false, .int .i64 0] 119)).alloc (.cells #[.int .i64 0, .bool false, .int .i64 0] 119)) (w.heap.size + 1) 119 #[.int .i64 0, .bool false, .int .i64 0] := by
              have hz1 : (w.alloc (.cells #[.int .i64 0, .bool false, .int .i64 0] 119)).heap.size = w.heap.size + 1 := by simp
              rw [← hz1]; exact Blk.new _ _ _
            have HBU := Lib.hid hbU
            have B0 := Lib.hid b0
            have B1 := Lib.hid b1
            have tok0 : True := trivial
            clear hbU b0 b1 kn1 kn2 hokd hod PL hpa hpb HS
            go_wp2_with (first
              | (clear tok0; go_at_call 115; refine (KN1.out _).mono ?_; rintro e w4 ⟨rfl, hb4⟩; have C0 := Lib.hid (B0.out.below hb4 B0.out.lt); have C1 := Lib.hid (B1.out.below hb4 B1.out.lt); have HB4 := Lib.hid (HBU.out.trans (hb4.mono HBU.out.size)); clear hb4; have tok1 : True := trivial)
              | (clear tok1; go_at_call 115; refine (KN2.out _).mono ?_; rintro e w5 ⟨rfl, hb5⟩; have D0 := Lib.hid (C0.out.below hb5 C0.out.lt); have D1 := Lib.hid (C1.out.below hb5 C1.out.lt); have HB5 := Lib.hid (HB4.out.trans (hb5.mono HB4.out.size)); clear hb5; obtain ⟨c0, c1, c2, cf0, cf1, cf2⟩ := D0.out.all3; obtain ⟨d0, d1, d2, df0, df1, df2⟩ := D1.out.all3; have tok2 : True := trivial))
            all_goals
              have HF := outc_fin HB5.out D0.out x1 x2 false
              refine outc_ret (v := .bool (pieceOk s.data.toList)) rfl (by rw [HOK.out]; first | rfl | (rename_i hne; rw [decide_eq_false hne]; rfl) | (rename_i hne; rw [decide_eq_true hne]; rfl)) HF.1 rfl ?_
              exact ⟨⟨x1, false, x2⟩, rfl, (fun _ => HO.out.symm), HF.2⟩
        · have hki : ¬ (0 : Int) < (k : Int) := by omega
          have PL := piece_plain (by rw [hsl]; exact hlt) hl58 HS.out (fun h => hk0 h.1)
          have hpa := hpl
          have has : p.size ≤ 1000000 := by omega
          clear hl58 hgk hpl h58 hk0
          have kn1 := fun W => ref_Number p 0 7 W (by unfold maxLen; omega)
          have kn2 := fun W => ref_Number pb 1 16 W (by unfold maxLen; omega)
          rw [hpa] at kn1
          rw [hpb] at kn2
          have hokd : pieceOk s.data.toList = (decide ((numberS (partA s.data.toList) 0 7).2 = 0) && decide ((numberS (partB s.data.toList) 1 16).2 = 0)) := rfl
          have hod : pieceO s.data.toList = ⟨(numberS (partA s.data.toList) 0 7).1, partW s.data.toList, (numberS (partB s.data.toList) 1 16).1⟩ := rfl
          rw [PL.1, PL.2.2] at hokd
          rw [PL.1, PL.2.1, PL.2.2] at hod
          generalize numberS (s.data.toList.take k) 0 7 = n1 at *
          generalize numberS (s.data.toList.drop (k + 1)) 1 16 = n2 at *
          obtain ⟨x1, e1⟩ := n1
          obtain ⟨x2, e2⟩ := n2
          dsimp only at hokd hod kn1 kn2
          have HOK := Lib.hid hokd
          have HO := Lib.hid hod
          have KN1 := Lib.hid kn1
          have KN2 := Lib.hid kn2
          have hbU : Below w.heap.size w ((w.alloc (.cells #[.int .i64 0, .bool false, .int .i64 0] 119)).alloc (.cells #[.int .i64 0, .bool false, .int .i64 0] 119)) := Below.alloc (Below.alloc (Below.refl _ _) (Nat.le_refl _) _) (by simp) _
          have b0 : Blk ((w.alloc (.cells #[.int .i64 0, .bool false, .int .i64 0] 119)).alloc (.cells #[.int .i64 0, .bool false, .int .i64 0] 119)) w.heap.size 119 #[.int .i64 0, .bool false, .int .i64 0] := (Blk.new w _ _).alloc _
          have b1 : Blk ((w.alloc (.cells #[.int .i64 0, .bool false, .int .i64 0] 119)).alloc (.cells #[.int .i64 0, .bool false, .int .i64 0] 119)) (w.heap.size + 1) 119 #[.int .i64 0, .bool false, .int .i64 0] := by
            have hz1 : (w.alloc (.cells #[.int .i64 0, .bool false, .int .i64 0] 119)).heap.size = w.heap.size + 1 := by simp
            rw [← hz1]; exact Blk.new _ _ _
          have HBU := Lib.hid hbU
          have B0 := Lib.hid b0
          have B1 := Lib.hid b1
          have tok0 : True := trivial
          clear hbU b0 b1 kn1 kn2 hokd hod PL hpa hpb HS
          go_wp2_with (first
            | (clear tok0; go_at_call 115; refine (KN1.out _).mono ?_; rintro e w4 ⟨rfl, hb4⟩; have C0 := Lib.hid (B0.out.below hb4 B0.out.lt); have C1 := Lib.hid (B1.out.below hb4 B1.out.lt); have HB4 := Lib.hid (HBU.out.trans (hb4.mono HBU.out.size)); clear hb4; have tok1 : True := trivial)
            | (clear tok1; go_at_call 115; refine (KN2.out _).mono ?_; rintro e w5 ⟨rfl, hb5⟩; have D0 := Lib.hid (C0.out.below hb5 C0.out.lt); have D1 := Lib.hid (C1.out.below hb5 C1.out.lt); have HB5 := Lib.hid (HB4.out.trans (hb5.mono HB4.out.size)); clear hb5; obtain ⟨c0, c1, c2, cf0, cf1, cf2⟩ := D0.out.all3; obtain ⟨d0, d1, d2, df0, df1, df2⟩ := D1.out.all3; have tok2 : True := trivial))
          all_goals
            have HF := outc_fin HB5.out D0.out x1 x2 false
            refine outc_ret (v := .bool (pieceOk s.data.toList)) rfl (by rw [HOK.out]; first | rfl | (rename_i hne; rw [decide_eq_false hne]; rfl) | (rename_i hne; rw [decide_eq_true hne]; rfl)) HF.1 rfl ?_
            exact ⟨⟨x1, false, x2⟩, rfl, (fun _ => HO.out.symm), HF.2⟩
      · have t1 : ((s[k].toNat : Int) != 58) = true := by
          rw [bne_iff_ne]; intro h; apply h58; apply UInt8.toNat.inj; have : s[k].toNat = 58 := by omega
          rw [this]; rfl
        have HS2 := Lib.hid (show ∀ j, j < k + 1 → s.data.toList[j]? ≠ some 58 from fun j hj => by
          by_cases e : j = k
          · subst e; rw [hgk]; intro h; exact h58 (Option.some.inj h)
          · exact HS.out j (by omega))
        clear HS hgk h58
        go_wp2
        go_round
        case rel => exact ⟨k + 1, by omega, by go_num, HS2⟩
        case measure => simp [intOf]; omega
    · obtain rfl : k = s.size := by omega
      have hmiss := piece_miss (l := s.data.toList) fun j hj => HS.out j (by omega)
      have HM := Lib.hid hmiss
      clear HS hmiss
      go_wp2
      refine outc_ret (v := .bool false) rfl rfl (Blk.new w _ _) rfl ?_
      exact ⟨⟨0, false, 0⟩, by rw [HM.out], (fun h => by rw [HM.out] at h; cases h), Below.alloc (Below.refl _ _) (Nat.le_refl _) _⟩
end Go.Proofs.YtglkejlimeakbaaGreatDoor

namespace Go.Proofs.YtglkejlimeakbaaGreatDoor
section

theorem pieces_no2 (c : UInt8) : ∀ l : List UInt8, c ∉ l → pieces c l = [l] := by
  intro l
  induction l with
  | nil => intro _; rfl
  | cons b l ih =>
    intro h
    rw [pieces, if_neg (by rintro rfl; simp at h), ih (by simp at h; exact h.2)]
theorem pieces_app2 (c : UInt8) : ∀ (l r : List UInt8), c ∉ l → pieces c (l ++ c :: r) = l :: pieces c r := by
  intro l
  induction l with
  | nil => intro r _; rw [List.nil_append, pieces, if_pos rfl]
  | cons b l ih =>
    intro r h
    rw [List.cons_append, pieces, if_neg (by rintro rfl; simp at h), ih r (by simp at h; exact h.2)]
/-- Up to place i, the piece under way beginning at st; what is done is in order. -/
structure PcInv (l : List UInt8) (st i : Nat) (done : List (List UInt8)) : Prop where
  sti : st ≤ i
  il : i ≤ l.length
  eq : pieces 32 l = done ++ pieces 32 (l.drop st)
  no : ∀ j, st ≤ j → j < i → l[j]? ≠ some 32
  ok : done.all pieceOk = true
theorem PcInv.start (l : List UInt8) : PcInv l 0 0 [] := ⟨Nat.le_refl _, Nat.zero_le _, rfl, fun j _ h => by omega, rfl⟩
theorem PcInv.skip {l : List UInt8} {st i : Nat} {done : List (List UInt8)} (h : PcInv l st i done) (hi : i < l.length) (hb : l[i]? ≠ some 32) : PcInv l st (i + 1) done :=
  ⟨by have := h.sti; omega, hi, h.eq, fun j h1 h2 => by
    by_cases e : j = i
    · subst e; exact hb
    · exact h.no j h1 (by omega), h.ok⟩
theorem PcInv.none {l : List UInt8} {st i : Nat} {done : List (List UInt8)} (h : PcInv l st i done) : (32 : UInt8) ∉ (l.drop st).take (i - st) := by
  intro hm
  obtain ⟨j, hj⟩ := List.mem_iff_getElem?.1 hm
  rw [List.getElem?_take] at hj
  split at hj
  · rw [List.getElem?_drop] at hj
    exact h.no (st + j) (by omega) (by omega) hj
  · cases hj
theorem PcInv.cutEq {l : List UInt8} {st i : Nat} {done : List (List UInt8)} (h : PcInv l st i done) (hi : i < l.length) (hb : l[i] = 32) : pieces 32 l = done ++ (l.drop st).take (i - st) :: pieces 32 (l.drop (i + 1)) := by
  have e : l.drop st = (l.drop st).take (i - st) ++ 32 :: l.drop (i + 1) := by
    have e1 := (List.take_append_drop (i - st) (l.drop st)).symm
    rw [List.drop_drop, show st + (i - st) = i by have := h.sti; omega, List.drop_eq_getElem_cons hi, hb] at e1
    exact e1
  have e2 : pieces 32 (l.drop st) = (l.drop st).take (i - st) :: pieces 32 (l.drop (i + 1)) := by
    conv => lhs; rw [e]
    exact pieces_app2 32 _ _ h.none
  rw [h.eq, e2]
theorem PcInv.cut {l : List UInt8} {st i : Nat} {done : List (List UInt8)} (h : PcInv l st i done) (hi : i < l.length) (hb : l[i] = 32) (hk : pieceOk ((l.drop st).take (i - st)) = true) : PcInv l (i + 1) (i + 1) (done ++ [(l.drop st).take (i - st)]) :=
  ⟨Nat.le_refl _, hi, by rw [h.cutEq hi hb]; simp, fun j h1 h2 => by omega, by rw [List.all_append, h.ok]; simp [hk]⟩
theorem PcInv.endEq {l : List UInt8} {st : Nat} {done : List (List UInt8)} (h : PcInv l st l.length done) : pieces 32 l = done ++ [(l.drop st).take (l.length - st)] := by
  have h2 := h.none
  have e : (l.drop st).take (l.length - st) = l.drop st := List.take_of_length_le (by rw [List.length_drop]; omega)
  rw [e] at h2 ⊢
  rw [h.eq, pieces_no2 32 _ h2]
theorem all_bad {l : List (List UInt8)} {p : List UInt8} (hm : p ∈ l) (h : pieceOk p = false) : l.all pieceOk = false := by
  rw [Bool.eq_false_iff]; intro h2
  have := List.all_eq_true.1 h2 p hm
  rw [h] at this; cases this
end
open Go.RowKit

theorem ext_mid (s : ByteArray) (a b : Nat) : (s.extract a b).data.toList = (s.data.toList.drop a).take (b - a) := by
  simp [ByteArray.data_extract, Array.toList_extract, List.extract_eq_take_drop]
/-- What the reference's loop knows at place k. -/
def ParS (l : List UInt8) (st k : Nat) (done : List (List UInt8)) : Prop :=
  (k ≤ l.length ∧ PcInv l st k done) ∨ (k = l.length + 1 ∧ pieces 32 l = done ∧ done.all pieceOk = true)
set_option maxRecDepth 100000 in
set_option maxHeartbeats 2000000 in
theorem ref_Parse (s : ByteArray) (w : World) (hs : s.size ≤ 1000000) : Calls Tryz.prog 89 #[.string s] w (OtcPost w (parseC s.data.toList)) := by
  have hsl : s.data.toList.length = s.size := by simp
  obtain ⟨z, hz⟩ : ∃ z, z = parseC s.data.toList := ⟨_, rfl⟩
  rw [← hz]
  unfold parseC at hz
  have HZ := Lib.hid hz
  clear hz
  go_enter Tryz.func89, Tryz.ntmps89
  go_wp2
  go_loopw [4, 5, 6] (fun v sv i wr => ∃ (k st : Nat) (done : List (List UInt8)), k ≤ s.size + 1 ∧ st ≤ k ∧ i = .int .i64 k ∧ sv = .int .i64 st ∧ Below w.heap.size w wr ∧ OwnSl 3 elOtc 119 w.heap.size wr v (done.map pieceO) ∧ done.length ≤ k ∧ Hid (ParS s.data.toList st k done)) (fun _ _ i _ => s.size + 1 - (intOf i).toNat)
  case atStart => exact ⟨0, 0, [], by omega, Nat.le_refl _, rfl, rfl, Below.refl _ _, OwnSl.nil _, Nat.le_refl _, Lib.hid (.inl ⟨Nat.zero_le _, PcInv.start _⟩)⟩
  case round =>
    obtain ⟨k, st, done, hk, hst, rfl, rfl, hb, hown, hdl, HS⟩ := hrel
    have HB := Lib.hid hb
    clear hb
    by_cases hle : k ≤ s.size
    · have hkk : (k : Int) ≤ (s.size : Int) := by omega
      have hinv : PcInv s.data.toList st k done := by
        rcases HS.out with hx | hx
        · exact hx.2
        · exact absurd hx.1 (by omega)
      have HO := Lib.hid hown
      clear hown HS
      by_cases hlt : k < s.size
      · have hgk : s.data.toList[k]? = some s[k] := by rw [List.getElem?_eq_getElem (by rw [hsl]; exact hlt)]; rfl
        by_cases h32 : s[k] = 32
        · have t1 : ((s[k].toNat : Int) != 32) = false := by rw [h32]; rfl
          have hl32 : s.data.toList[k]'(by rw [hsl]; exact hlt) = 32 := by rw [List.getElem?_eq_getElem (by rw [hsl]; exact hlt)] at hgk; rw [Option.some.inj hgk]; exact h32
          clear h32 hgk
          obtain ⟨p, hp⟩ : ∃ p, s.extract st k = p := ⟨_, rfl⟩
          have hpl : p.data.toList = (s.data.toList.drop st).take (k - st) := by rw [← hp, ext_mid]
          have hps : p.size ≤ 1000000 := by have e : p.size = p.data.toList.length := by simp
                                            rw [e, hpl, List.length_take, List.length_drop, hsl]; omega
          have ko := fun W => ref_outcome p W hps
          unfold PiecePost at ko
          rw [hpl] at ko
          have heq := hinv.cutEq (by rw [hsl]; exact hlt) hl32
          have hbad : pieceOk ((s.data.toList.drop st).take (k - st)) = false → z = ([], 4) := fun h => by
            rw [HZ.out, if_pos (all_bad (by rw [heq]; simp) h)]
          obtain ⟨pc, hpc⟩ : ∃ pc, pc = (s.data.toList.drop st).take (k - st) := ⟨_, rfl⟩
          rw [← hpc] at ko hbad heq
          have hnx : pieceOk pc = true → ParS s.data.toList (k + 1) (k + 1) (done ++ [pc]) := fun h => by
            subst hpc
            exact .inl ⟨by omega, hinv.cut (by rw [hsl]; exact hlt) hl32 h⟩
          obtain ⟨okb, hokb⟩ : ∃ b, b = pieceOk pc := ⟨_, rfl⟩
          rw [← hokb] at ko hbad hnx
          have KO := Lib.hid ko
          have HBAD := Lib.hid hbad
          have HNX := Lib.hid hnx
          have HDL := Lib.hid hdl
          clear ko hbad hnx heq hpc hokb hpl hinv hdl
          cases okb
          case false =>
            have HZ2 := Lib.hid (show z = ([], 4) by first | exact HBAD.out rfl | exact HBAD.out trivial)
            go_wp2_with (go_at_call 128; refine (KO.out _).mono ?_; rintro e w4 ⟨o, rfl, ho, hb4⟩; have HB4 := Lib.hid (HB.out.trans (hb4.mono HB.out.size)); clear hb4)
            go_ret2
            exact ⟨_, by rw [HZ2.out] <;> rfl, by rw [HZ2.out]; exact Sl.nil _ _, HB4.out.alloc HB4.out.size _⟩
          case true =>
            go_wp2_with (first
              | (go_at_call 128; refine (KO.out _).mono ?_; rintro e w4 ⟨o, rfl, ho, hb4⟩; obtain ⟨ru, wk, wt⟩ := o; have HOE := Lib.hid (ho rfl); have HO4 := Lib.hid (HO.out.below elOtc_good hb4); have HB4 := Lib.hid (HB.out.trans (hb4.mono HB.out.size)); have hz4 : (w4.alloc (.cells #[.int .i64 ru, .bool wk, .int .i64 wt] 119)).heap.size = w4.heap.size + 1 := (by simp); have HCN := Lib.hid (cells_new (w4.alloc (.cells #[.int .i64 ru, .bool wk, .int .i64 wt] 119)) [.int .i64 ru, .bool wk, .int .i64 wt] 119 (0, 0)); have HZ4 := Lib.hid hz4; clear ho hb4 hz4)
              | (at_builtin; refine wpList_append_sl _ rfl (.tmp 37) (.tmp 39) _ rfl E_otc elOtc_good w.heap.size _ (done.map pieceO) rfl ((HO4.out.alloc elOtc_good _).alloc elOtc_good _) ⟨w4.heap.size + 1, 0, none⟩ 1 [.int .i64 ru, .bool wk, .int .i64 wt] rfl ⟨ru, wk, wt⟩ rfl (by rw [← HZ4.out]; exact HCN.out) (oneCells rfl) rfl (by rw [List.length_map]; have := HDL.out; simp only [maxLen]; omega) (by rw [List.length_map]; have := HDL.out; omega) (by have := HB4.out.size; simp; omega) ?_; intro v6 w6 hown6 hg6 hat6; have hb6 : Below w.heap.size w w6 := below_own (Below.alloc (Below.alloc HB4.out HB4.out.size (.cells #[.int .i64 ru, .bool wk, .int .i64 wt] 119)) (by have := HB4.out.size; simp; omega) (.cells #[.int .i64 ru, .bool wk, .int .i64 wt] 119)) ((HO4.out.alloc elOtc_good (.cells #[.int .i64 ru, .bool wk, .int .i64 wt] 119)).alloc elOtc_good (.cells #[.int .i64 ru, .bool wk, .int .i64 wt] 119)) hg6 (Nat.le_refl _) (by have := HB4.out.size; simp; omega); have HO6 := Lib.hid hown6; have HB6 := Lib.hid hb6; clear hown6 hg6 hat6 hb6))
            go_roundw
            case rel => exact ⟨k + 1, k + 1, done ++ [pc], by omega, by omega, by go_num, by go_num, HB6.out, by rw [List.map_append]; show OwnSl 3 elOtc _ _ _ _ (done.map pieceO ++ [pieceO pc]); rw [← HOE.out]; exact HO6.out, by rw [List.length_append]; have := HDL.out; simp; omega, Lib.hid (by first | exact HNX.out rfl | exact HNX.out trivial)⟩
            case measure => simp [intOf] <;> omega
        · have t1 : ((s[k].toNat : Int) != 32) = true := by
            rw [bne_iff_ne]; intro h; apply h32; apply UInt8.toNat.inj; have : s[k].toNat = 32 := by omega
            rw [this]; rfl
          have HS2 := Lib.hid (show ParS s.data.toList st (k + 1) done from .inl ⟨by omega, hinv.skip (by rw [hsl]; exact hlt) (by rw [hgk]; intro h; exact h32 (Option.some.inj h))⟩)
          clear hinv hgk h32
          go_wp2
          go_roundw
          case rel => exact ⟨k + 1, st, done, by omega, by omega, by go_num, rfl, HB.out, HO.out, by omega, HS2⟩
          case measure => simp [intOf]; omega
      · obtain rfl : k = s.size := by omega
        rw [← hsl] at hinv
        obtain ⟨p, hp⟩ : ∃ p, s.extract st s.size = p := ⟨_, rfl⟩
        have hpl : p.data.toList = (s.data.toList.drop st).take (s.size - st) := by rw [← hp, ext_mid]
        have hps : p.size ≤ 1000000 := by have e : p.size = p.data.toList.length := by simp
                                          rw [e, hpl, List.length_take, List.length_drop, hsl]; omega
        have ko := fun W => ref_outcome p W hps
        unfold PiecePost at ko
        rw [hpl] at ko
        have heq := hinv.endEq; rw [hsl] at heq
        have hbad : pieceOk ((s.data.toList.drop st).take (s.size - st)) = false → z = ([], 4) := fun h => by
          rw [HZ.out, if_pos (all_bad (by rw [heq]; simp) h)]
        obtain ⟨pc, hpc⟩ : ∃ pc, pc = (s.data.toList.drop st).take (s.size - st) := ⟨_, rfl⟩
        rw [← hpc] at ko hbad heq
        have hnx : pieceOk pc = true → ParS s.data.toList (s.size + 1) (s.size + 1) (done ++ [pc]) := fun h => by
          subst hpc
          exact .inr ⟨by rw [hsl], heq, by rw [List.all_append, hinv.ok]; simp [h]⟩
        obtain ⟨okb, hokb⟩ : ∃ b, b = pieceOk pc := ⟨_, rfl⟩
        rw [← hokb] at ko hbad hnx
        have KO := Lib.hid ko
        have HBAD := Lib.hid hbad
        have HNX := Lib.hid hnx
        have HDL := Lib.hid hdl
        clear ko hbad hnx heq hpc hokb hpl hinv hdl
        cases okb
        case false =>
          have HZ2 := Lib.hid (show z = ([], 4) by first | exact HBAD.out rfl | exact HBAD.out trivial)
          go_wp2_with (go_at_call 128; refine (KO.out _).mono ?_; rintro e w4 ⟨o, rfl, ho, hb4⟩; have HB4 := Lib.hid (HB.out.trans (hb4.mono HB.out.size)); clear hb4)
          go_ret2
          exact ⟨_, by rw [HZ2.out] <;> rfl, by rw [HZ2.out]; exact Sl.nil _ _, HB4.out.alloc HB4.out.size _⟩
        case true =>
          go_wp2_with (first
            | (go_at_call 128; refine (KO.out _).mono ?_; rintro e w4 ⟨o, rfl, ho, hb4⟩; obtain ⟨ru, wk, wt⟩ := o; have HOE := Lib.hid (ho rfl); have HO4 := Lib.hid (HO.out.below elOtc_good hb4); have HB4 := Lib.hid (HB.out.trans (hb4.mono HB.out.size)); have hz4 : (w4.alloc (.cells #[.int .i64 ru, .bool wk, .int .i64 wt] 119)).heap.size = w4.heap.size + 1 := (by simp); have HCN := Lib.hid (cells_new (w4.alloc (.cells #[.int .i64 ru, .bool wk, .int .i64 wt] 119)) [.int .i64 ru, .bool wk, .int .i64 wt] 119 (0, 0)); have HZ4 := Lib.hid hz4; clear ho hb4 hz4)
            | (at_builtin; refine wpList_append_sl _ rfl (.tmp 37) (.tmp 39) _ rfl E_otc elOtc_good w.heap.size _ (done.map pieceO) rfl ((HO4.out.alloc elOtc_good _).alloc elOtc_good _) ⟨w4.heap.size + 1, 0, none⟩ 1 [.int .i64 ru, .bool wk, .int .i64 wt] rfl ⟨ru, wk, wt⟩ rfl (by rw [← HZ4.out]; exact HCN.out) (oneCells rfl) rfl (by rw [List.length_map]; have := HDL.out; simp only [maxLen]; omega) (by rw [List.length_map]; have := HDL.out; omega) (by have := HB4.out.size; simp; omega) ?_; intro v6 w6 hown6 hg6 hat6; have hb6 : Below w.heap.size w w6 := below_own (Below.alloc (Below.alloc HB4.out HB4.out.size (.cells #[.int .i64 ru, .bool wk, .int .i64 wt] 119)) (by have := HB4.out.size; simp; omega) (.cells #[.int .i64 ru, .bool wk, .int .i64 wt] 119)) ((HO4.out.alloc elOtc_good (.cells #[.int .i64 ru, .bool wk, .int .i64 wt] 119)).alloc elOtc_good (.cells #[.int .i64 ru, .bool wk, .int .i64 wt] 119)) hg6 (Nat.le_refl _) (by have := HB4.out.size; simp; omega); have HO6 := Lib.hid hown6; have HB6 := Lib.hid hb6; clear hown6 hg6 hat6 hb6))
          go_roundw
          case rel => exact ⟨s.size + 1, s.size + 1, done ++ [pc], by omega, by omega, by go_num, by go_num, HB6.out, by rw [List.map_append]; show OwnSl 3 elOtc _ _ _ _ (done.map pieceO ++ [pieceO pc]); rw [← HOE.out]; exact HO6.out, by rw [List.length_append]; have := HDL.out; simp; omega, Lib.hid (by first | exact HNX.out rfl | exact HNX.out trivial)⟩
          case measure => simp [intOf] <;> omega
    · obtain rfl : k = s.size + 1 := by omega
      rcases HS.out with hx | ⟨hk1, hpe, hall⟩
      · exact absurd hx.1 (by omega)
      have hsl2 := hown.sl elOtc_good
      have hz1 := HZ.out
      rw [hpe, hall, if_neg (by simp)] at hz1
      obtain ⟨d, hd⟩ : ∃ d, d = done.map pieceO := ⟨_, rfl⟩
      rw [← hd] at hsl2 hz1
      obtain ⟨B, c5, rfl, hc5, hc6⟩ := hsl2.shape
      have kt := ref_Text d _ wr (hsl2.keep elOtc_good (Same.refl _ _) fun b h => h.2)
      obtain ⟨⟨t, et⟩, hte⟩ : ∃ q, q = textC d := ⟨_, rfl⟩
      rw [← hte] at kt hz1
      dsimp only at kt hz1
      have KT := Lib.hid kt
      have HSL := Lib.hid hsl2
      have hkk : ¬ ((s.size + 1 : Nat) : Int) ≤ (s.size : Int) := by omega
      clear hown hsl2 kt hte hd hall hpe HS hdl
      by_cases het : et = 0
      · by_cases hts : t = s.data.toList
        · have HZ2 := Lib.hid (show z = (d, 0) by rw [hz1, if_neg (fun h => h.elim (fun h => h het) (fun h => h hts))])
          have g1 : (t == s.toList) = true := by rw [ByteArray.toList_eq]; exact beq_iff_eq.2 hts
          subst het
          clear hz1 hts
          go_wp2_with (go_at_call 47; refine KT.out.mono ?_; rintro e w2 ⟨rfl, hb2⟩; have HB2 := Lib.hid hb2; clear hb2)
          go_ret2
          refine ⟨_, by rw [HZ2.out] <;> rfl, ?_, HB.out.trans (HB2.out.mono HB.out.size)⟩
          rw [HZ2.out]
          exact HSL.out.keep elOtc_good (Same.below HB2.out fun b h => h.2) fun b h => ⟨h.1, Nat.lt_of_lt_of_le h.2 HB2.out.size⟩
        · have HZ2 := Lib.hid (show z = ([], 4) by rw [hz1, if_pos (.inr hts)])
          have g1 : (t == s.toList) = false := by rw [ByteArray.toList_eq]; exact beq_eq_false_iff_ne.2 hts
          subst het
          clear hz1 hts
          go_wp2_with (go_at_call 47; refine KT.out.mono ?_; rintro e w2 ⟨rfl, hb2⟩; have HB2 := Lib.hid hb2; clear hb2)
          go_ret2
          exact ⟨_, by rw [HZ2.out] <;> rfl, by rw [HZ2.out]; exact Sl.nil _ _, HB.out.trans (HB2.out.mono HB.out.size)⟩
      · have HZ2 := Lib.hid (show z = ([], 4) by rw [hz1, if_pos (.inl het)])
        have g1 : (et != 0) = true := by rw [bne_iff_ne]; exact het
        clear hz1 het
        go_wp2_with (go_at_call 47; refine KT.out.mono ?_; rintro e w2 ⟨rfl, hb2⟩; have HB2 := Lib.hid hb2; clear hb2)
        go_ret2
        exact ⟨_, by rw [HZ2.out] <;> rfl, by rw [HZ2.out]; exact Sl.nil _ _, HB.out.trans (HB2.out.mono HB.out.size)⟩
end Go.Proofs.YtglkejlimeakbaaGreatDoor

namespace Go.Proofs.YtglkejlimeakbaaGreatDoor
open Go.RowKit

theorem E_bat : ElemOf Tryz.prog 32 82 2 40 := ElemOf.mk (z := .agg #[.string ByteArray.empty, .slice none 0 0]) Tryz.underlying32 (by kernel_rfl) rfl (by decide)
theorem E_bow : ElemOf Tryz.prog 33 85 2 24 := ElemOf.mk (z := .agg #[.string ByteArray.empty, .int .i64 0]) Tryz.underlying33 (by kernel_rfl) rfl (by decide)
theorem splitF_ne : ∀ (ps : List (List UInt8)) (n : Int) (out : List Lin) (ds : List Dia), (∀ x ∈ out, x.fields ≠ []) → ∀ x ∈ (splitF ps n out ds).1, x.fields ≠ [] := by
  intro ps
  induction ps with
  | nil => intro n out ds h; rw [splitF]; exact h
  | cons p ps ih =>
    intro n out ds h
    rw [splitF]
    split
    · exact ih _ _ _ h
    · split
      · exact ih _ _ _ h
      · split
        · rename_i hp
          refine ih _ _ _ fun x hx => ?_
          rcases List.mem_append.1 hx with hx | hx
          · exact h x hx
          · simp only [List.mem_singleton] at hx; subst hx; exact hp
        · exact ih _ _ _ h
theorem splitS_ne (s : List UInt8) : ∀ x ∈ (splitS s).1, x.fields ≠ [] := by
  unfold splitS
  split
  · simp
  · exact splitF_ne _ _ _ _ (by simp)
theorem read_le {c : Cur} (h : ∀ f ∈ c.fields, f.text.length ≤ 1000) (q : Bool) : (c.read q).2.1.length ≤ 1000 := by
  unfold Cur.read
  split
  · split
    · simp
    · rename_i f hf
      split
      · exact h f (List.mem_of_getElem? hf)
      · simp
  · simp
theorem ident_le {c : Cur} (h : ∀ f ∈ c.fields, f.text.length ≤ 1000) : c.ident.2.length ≤ 1000 := by
  unfold Cur.ident
  split
  · simp
  · exact read_le h false
theorem word_le {c : Cur} (h : ∀ f ∈ c.fields, f.text.length ≤ 1000) (q : Bool) : (c.word q).2.length ≤ 1000 := read_le h q
theorem word_fields5 (c : Cur) (q : Bool) : (c.word q).1.fields = c.fields := Cur.read_fields c q
theorem reject_fields5 (c : Cur) (e : Int) : (c.reject e).fields = c.fields := by
  unfold Cur.reject
  split
  · rfl
  · exact (Cur.fail_left _ _ _).2
/-- The model so far. -/
structure MR (w2 W : World) (K : Nat → Prop) (m : Mdl) (bv wv dv : Value) (ds : List Dia) : Prop where
  blk : Blk W w2.heap.size 35 #[bv, wv]
  bat : OwnG 2 elBat 82 (w2.heap.size + 1) W bv K m.bats
  bow : OwnSl 2 elBow 85 (w2.heap.size + 1) W wv m.bows
  dia : OwnSl 3 elDia 41 (w2.heap.size + 1) W dv ds
  foot : ∀ b, K b → w2.heap.size < b ∧ b < W.heap.size ∧ bv.ownBlock ≠ some b ∧ wv.ownBlock ≠ some b ∧ dv.ownBlock ≠ some b
  bel : Below w2.heap.size w2 W
section
variable {w2 W W' : World} {K : Nat → Prop} {m : Mdl} {bv wv dv : Value} {ds : List Dia}
theorem MR.start (w2 : World) : MR w2 (w2.alloc (.cells #[.slice none 0 0, .slice none 0 0] 35)) NoG noMdl (.slice none 0 0) (.slice none 0 0) (.slice none 0 0) [] :=
  ⟨Blk.new _ _ _, OwnG.nil _, OwnSl.nil _, OwnSl.nil _, fun _ h => h.elim, Below.alloc (Below.refl _ _) (Nat.le_refl _) _⟩
theorem MR.lt (h : MR w2 W K m bv wv dv ds) : w2.heap.size < W.heap.size := h.blk.lt
theorem MR.below (h : MR w2 W K m bv wv dv ds) (hb : Below W.heap.size W W') : MR w2 W' K m bv wv dv ds :=
  ⟨h.blk.below hb h.lt, h.bat.below elBat_good hb fun b hb => (h.foot b hb).2.1, h.bow.below elBow_good hb, h.dia.below elDia_good hb,
   fun b hK => let ⟨a1, a2, a3⟩ := h.foot b hK; ⟨a1, Nat.lt_of_lt_of_le a2 hb.size, a3⟩, h.bel.trans (hb.mono (Nat.le_of_lt h.lt))⟩
theorem MR.drew (h : MR w2 W K m bv wv dv ds) : MR w2 W.drew K m bv wv dv ds := h.below (Below.drew (Below.refl _ _))
theorem MR.alloc (h : MR w2 W K m bv wv dv ds) (o : Obj) : MR w2 (W.alloc o) K m bv wv dv ds := h.below (Below.alloc (Below.refl _ _) (Nat.le_refl _) o)
theorem MR.only {g : Nat} (h : MR w2 W K m bv wv dv ds) (ho : Only g W W') (hg : w2.heap.size < g) (hK : ¬ K g) (h1 : bv.ownBlock ≠ some g) (h2 : wv.ownBlock ≠ some g) (h3 : dv.ownBlock ≠ some g) : MR w2 W' K m bv wv dv ds :=
  ⟨h.blk.grown ho (fun e => by injection e with e; omega),
   h.bat.keep elBat_good (ho.same fun b hb => ⟨(h.foot b hb).2.1, fun e => hK (e ▸ hb)⟩) (fun _ h => h) fun b hb => ho.block b (h.bat.block b hb).2 fun e => h1 (by rw [hb]; exact e),
   h.bow.grown elBow_good ho fun b hb e => h2 (hb.trans e.symm), h.dia.grown elDia_good ho fun b hb e => h3 (hb.trans e.symm),
   fun b hK => let ⟨a1, a2, a3⟩ := h.foot b hK; ⟨a1, Nat.lt_of_lt_of_le a2 ho.size, a3⟩, h.bel.trans (ho.below (Nat.le_of_lt hg) (Nat.le_of_lt h.lt))⟩
theorem MR.own_lt (h : MR w2 W K m bv wv dv ds) : ∀ b, bv.ownBlock = some b ∨ wv.ownBlock = some b ∨ dv.ownBlock = some b → b < W.heap.size := by
  rintro b (e | e | e)
  · exact (h.bat.block b e).2
  · exact (OwnSl.block h.bow b e).2
  · exact (OwnSl.block h.dia b e).2
theorem MR.duo (h : MR w2 W K m bv wv dv ds) : W.cell? ⟨w2.heap.size, 0, none⟩ = some bv ∧ W.cell? ⟨w2.heap.size, 1, none⟩ = some wv ∧ W.frozen? ⟨w2.heap.size, 0, none⟩ = false ∧ W.frozen? ⟨w2.heap.size, 1, none⟩ = false := ⟨h.blk.cell 0, h.blk.cell 1, h.blk.frozen 0, h.blk.frozen 1⟩
/-- One diagnostic more. -/
theorem MR.diag {d : Dia} {d5 : Value} {o : Obj} (h : MR w2 W K m bv wv dv ds) (ho : OwnSl 3 elDia 41 (w2.heap.size + 1) W' d5 (ds ++ [d])) (hg : (W.alloc o).grownBy W' dv.ownBlock) (hat : d5.ownBlock = dv.ownBlock ∨ d5.ownBlock = some (W.alloc o).heap.size) :
    MR w2 W' K m bv wv d5 (ds ++ [d]) := by
  have h' := h.alloc o
  have a1 := h'.bat.apart h'.dia (by decide)
  have a2 := h'.bow.apart h'.dia (by decide)
  refine ⟨h'.blk.grown hg (own_ne h'.dia h'.blk (by decide)), h'.bat.keep elBat_good (Same.grown hg fun b hb => ⟨(h'.foot b hb).2.1, fun e => (h'.foot b hb).2.2.2.2 e.symm⟩) (fun _ h => h) fun b hb => hg.block b (h'.bat.block b hb).2 fun e => a1 b hb e.symm,
    h'.bow.grown elBow_good hg fun b hb e => a2 b hb e, ho, fun b hK => ?_, below_own h'.bel h'.dia hg (Nat.le_succ _) h'.lt⟩
  obtain ⟨f1, f2, f3, f4, f5⟩ := h'.foot b hK
  refine ⟨f1, Nat.lt_of_lt_of_le f2 hg.size, f3, f4, ?_⟩
  rcases hat with e | e <;> rw [e]
  · exact f5
  · intro e'; injection e' with e'; omega
/-- A bowler more, written into the model's block. -/
theorem MR.addBow {x : Bow} {v5 : Value} {o : Obj} (h : MR w2 W K m bv wv dv ds) (ho : OwnSl 2 elBow 85 (w2.heap.size + 1) W' v5 (m.bows ++ [x])) (hg : (W.alloc o).grownBy W' wv.ownBlock) (hat : v5.ownBlock = wv.ownBlock ∨ v5.ownBlock = some (W.alloc o).heap.size) :
    Blk W' w2.heap.size 35 #[bv, wv] ∧ MR w2 (W'.setCell ⟨w2.heap.size, 1, none⟩ v5) K ⟨m.bats, m.bows ++ [x]⟩ bv v5 dv ds := by
  have h' := h.alloc o
  have a1 := h'.bat.apart h'.bow (by decide)
  have a2 := h'.dia.apart h'.bow (by decide)
  have b1 := h'.blk.grown hg (own_ne h'.bow h'.blk (by decide))
  have hbat := h'.bat.keep elBat_good (Same.grown hg fun b hb => ⟨(h'.foot b hb).2.1, fun e => (h'.foot b hb).2.2.2.1 e.symm⟩) (fun _ h => h) fun b hb => hg.block b (h'.bat.block b hb).2 fun e => a1 b hb e.symm
  have hdia := h'.dia.grown elDia_good hg fun b hb e => a2 b hb e
  have hset : Only w2.heap.size W' (W'.setCell ⟨w2.heap.size, 1, none⟩ v5) := (Only.refl w2.heap.size W').setCell (p := ⟨w2.heap.size, 1, none⟩) (.inl rfl) _
  have hfoot : ∀ b, K b → w2.heap.size < b ∧ b < W'.heap.size ∧ bv.ownBlock ≠ some b ∧ v5.ownBlock ≠ some b ∧ dv.ownBlock ≠ some b := fun b hK => by
    obtain ⟨f1, f2, f3, f4, f5⟩ := h'.foot b hK
    refine ⟨f1, Nat.lt_of_lt_of_le f2 hg.size, f3, ?_, f5⟩
    rcases hat with e | e <;> rw [e]
    · exact f4
    · intro e'; injection e' with e'; omega
  have hlt := b1.lt
  exact ⟨b1, b1.set_ 1 v5, hbat.keep elBat_good (hset.same fun b hb => ⟨(hfoot b hb).2.1, by have := (hfoot b hb).1; omega⟩) (fun _ h => h) (fun b hb => hset.block b (hbat.block b hb).2 fun e => own_ne hbat b1 (by decide) (by rw [hb]; exact e)),
    OwnSl.grown elBow_good ho hset fun b hb e => own_ne ho b1 (by decide) (by rw [hb]; exact e.symm), hdia.grown elDia_good hset fun b hb e => own_ne hdia b1 (by decide) (by rw [hb]; exact e.symm),
    fun b hK => by have := hfoot b hK; simpa [World.setCell] using this, (below_own h'.bel h'.bow hg (Nat.le_succ _) h'.lt).setCell (Nat.le_refl _) _⟩
/-- A batter more, whose distribution lies in the blocks of E. -/
theorem MR.addBat {x : Bat} {v5 : Value} {o : Obj} {E : Nat → Prop} (h : MR w2 W K m bv wv dv ds) (hE : ∀ b, E b → w2.heap.size < b ∧ b < W.heap.size ∧ bv.ownBlock ≠ some b ∧ wv.ownBlock ≠ some b ∧ dv.ownBlock ≠ some b)
    (ho : OwnG 2 elBat 82 (w2.heap.size + 1) W' v5 (fun b => K b ∨ E b) (m.bats ++ [x])) (hg : (W.alloc o).grownBy W' bv.ownBlock) (hat : v5.ownBlock = bv.ownBlock ∨ v5.ownBlock = some (W.alloc o).heap.size) :
    Blk W' w2.heap.size 35 #[bv, wv] ∧ MR w2 (W'.setCell ⟨w2.heap.size, 0, none⟩ v5) (fun b => K b ∨ E b) ⟨m.bats ++ [x], m.bows⟩ v5 wv dv ds := by
  have h' := h.alloc o
  have a1 := h'.bow.apart h'.bat (by decide)
  have a2 := h'.dia.apart h'.bat (by decide)
  have b1 := h'.blk.grown hg (own_ne h'.bat h'.blk (by decide))
  have hbow := h'.bow.grown elBow_good hg fun b hb e => a1 b hb e
  have hdia := h'.dia.grown elDia_good hg fun b hb e => a2 b hb e
  have hset : Only w2.heap.size W' (W'.setCell ⟨w2.heap.size, 0, none⟩ v5) := (Only.refl w2.heap.size W').setCell (p := ⟨w2.heap.size, 0, none⟩) (.inl rfl) _
  have hfoot : ∀ b, (K b ∨ E b) → w2.heap.size < b ∧ b < W'.heap.size ∧ v5.ownBlock ≠ some b ∧ wv.ownBlock ≠ some b ∧ dv.ownBlock ≠ some b := fun b hK => by
    have hf : w2.heap.size < b ∧ b < (W.alloc o).heap.size ∧ bv.ownBlock ≠ some b ∧ wv.ownBlock ≠ some b ∧ dv.ownBlock ≠ some b := by
      rcases hK with hK | hK
      · exact h'.foot b hK
      · obtain ⟨f1, f2, f3⟩ := hE b hK
        exact ⟨f1, by simp; omega, f3⟩
    obtain ⟨f1, f2, f3, f4, f5⟩ := hf
    refine ⟨f1, Nat.lt_of_lt_of_le f2 hg.size, ?_, f4, f5⟩
    rcases hat with e | e <;> rw [e]
    · exact f3
    · intro e'; injection e' with e'; omega
  have hlt := b1.lt
  exact ⟨b1, b1.set_ 0 v5, ho.keep elBat_good (hset.same fun b hb => ⟨(hfoot b hb).2.1, by have := (hfoot b hb).1; omega⟩) (fun _ h => h) (fun b hb => hset.block b (ho.block b hb).2 fun e => own_ne ho b1 (by decide) (by rw [hb]; exact e)),
    hbow.grown elBow_good hset fun b hb e => own_ne hbow b1 (by decide) (by rw [hb]; exact e.symm), hdia.grown elDia_good hset fun b hb e => own_ne hdia b1 (by decide) (by rw [hb]; exact e.symm),
    fun b hK => by have := hfoot b hK; simpa [World.setCell] using this, (below_own h'.bel h'.bat hg (Nat.le_succ _) h'.lt).setCell (Nat.le_refl _) _⟩
end
/-- take's own two boxes: the result, and the line's first field. -/
structure TK (W : World) (dg fg : Nat) (fc : Array Value) : Prop where
  d : Blk W dg 41 #[.int .i64 0, .int .i64 0, .int .i64 0]
  f : Blk W fg 87 fc
section
variable {W W' : World} {dg fg : Nat} {fc : Array Value}
theorem TK.below (h : TK W dg fg fc) (hb : Below W.heap.size W W') : TK W' dg fg fc := ⟨h.d.below hb h.d.lt, h.f.below hb h.f.lt⟩
theorem TK.only {g : Nat} (h : TK W dg fg fc) (ho : Only g W W') (h1 : dg ≠ g) (h2 : fg ≠ g) : TK W' dg fg fc := ⟨h.d.grown ho (fun e => h1 (Option.some.inj e).symm), h.f.grown ho (fun e => h2 (Option.some.inj e).symm)⟩
theorem TK.grown {row : Option Nat} (h : TK W dg fg fc) (hg : W.grownBy W' row) (h1 : row ≠ some dg) (h2 : row ≠ some fg) : TK W' dg fg fc := ⟨h.d.grown hg h1, h.f.grown hg h2⟩
theorem TK.cells (h : TK W dg fg fc) : W.cell? ⟨dg, 0, none⟩ = some (.int .i64 0) ∧ W.cell? ⟨dg, 1, none⟩ = some (.int .i64 0) ∧ W.cell? ⟨dg, 2, none⟩ = some (.int .i64 0) ∧ W.frozen? ⟨dg, 0, none⟩ = false ∧ W.frozen? ⟨dg, 1, none⟩ = false ∧ W.frozen? ⟨dg, 2, none⟩ = false := ⟨h.d.cell 0, h.d.cell 1, h.d.cell 2, h.d.frozen 0, h.d.frozen 1, h.d.frozen 2⟩
theorem Blk.six {x0 x1 x2 : Value} {t : TypeId} (h : Blk W dg t #[x0, x1, x2]) : W.cell? ⟨dg, 0, none⟩ = some x0 ∧ W.cell? ⟨dg, 1, none⟩ = some x1 ∧ W.cell? ⟨dg, 2, none⟩ = some x2 ∧ W.frozen? ⟨dg, 0, none⟩ = false ∧ W.frozen? ⟨dg, 1, none⟩ = false ∧ W.frozen? ⟨dg, 2, none⟩ = false := ⟨h.cell 0, h.cell 1, h.cell 2, h.frozen 0, h.frozen 1, h.frozen 2⟩
theorem TK.fcell (h : TK W dg fg fc) (i : Nat) : W.cell? ⟨fg, i, none⟩ = fc[i]? := h.f.cell i
end
/-- Behind the write into the model: what is left to do is the result's box. -/
structure MD (w2 W : World) (dg : Nat) (K : Nat → Prop) (m : Mdl) (bv wv dv : Value) (ds : List Dia) : Prop where
  mr : MR w2 W K m bv wv dv ds
  d : Blk W dg 41 #[.int .i64 0, .int .i64 0, .int .i64 0]
  nK : ¬ K dg
  nd : dv.ownBlock ≠ some dg
  hd : w2.heap.size < dg
theorem MD.ends {w2 W : World} {dg : Nat} {K : Nat → Prop} {m : Mdl} {bv wv dv : Value} {ds : List Dia} (h : MD w2 W dg K m bv wv dv ds) (a b c : Value) :
    MR w2 (((W.setCell ⟨dg, 0, none⟩ a).setCell ⟨dg, 1, none⟩ b).setCell ⟨dg, 2, none⟩ c) K m bv wv dv ds ∧ Blk (((W.setCell ⟨dg, 0, none⟩ a).setCell ⟨dg, 1, none⟩ b).setCell ⟨dg, 2, none⟩ c) dg 41 #[a, b, c] :=
  ⟨h.mr.only ((((Only.refl dg W).setCell (p := ⟨dg, 0, none⟩) (.inl rfl) _).setCell (p := ⟨dg, 1, none⟩) (.inl rfl) _).setCell (p := ⟨dg, 2, none⟩) (.inl rfl) _) h.hd h.nK (own_ne h.mr.bat h.d (by decide)) (own_ne h.mr.bow h.d (by decide)) h.nd,
   ((h.d.set_ 0 a).set_ 1 b).set_ 2 c⟩
/-- The model beside the program's cursor, which lies in block g; nothing of the model reaches the blocks from B on. -/
structure MC (w2 W : World) (B dg fg : Nat) (fc : Array Value) (g : Nat) (K F : Nat → Prop) (m : Mdl) (bv wv dv : Value) (ds : List Dia) (c : Cur) : Prop where
  mr : MR w2 W K m bv wv dv ds
  cur : ∃ a, CurAt W F g a ∧ Cur.sim a c
  hg : B ≤ g
  hF : ∀ b, F b → B ≤ b
  hK : ∀ b, K b → b < dg
  own : ∀ b, bv.ownBlock = some b ∨ wv.ownBlock = some b ∨ dv.ownBlock = some b → b < dg
  hd : w2.heap.size < dg
  hf : dg < fg
  hB : fg < B
  tk : TK W dg fg fc
  len : ∀ f ∈ c.fields, f.text.length ≤ 1000
section
variable {w2 W W' : World} {B dg fg g : Nat} {fc : Array Value} {K F : Nat → Prop} {m : Mdl} {bv wv dv : Value} {ds : List Dia} {c c' : Cur}
theorem MC.below (h : MC w2 W B dg fg fc g K F m bv wv dv ds c) (hb : Below W.heap.size W W') : MC w2 W' B dg fg fc g K F m bv wv dv ds c :=
  ⟨h.mr.below hb, let ⟨a, hc, hs⟩ := h.cur; ⟨a, hc.below hb, hs⟩, h.hg, h.hF, h.hK, h.own, h.hd, h.hf, h.hB, h.tk.below hb, h.len⟩
theorem MC.far (h : MC w2 W B dg fg fc g K F m bv wv dv ds c) (ho : Only g W W') : MR w2 W' K m bv wv dv ds :=
  h.mr.only ho (by have := h.hd; have := h.hf; have := h.hB; have := h.hg; omega) (fun hk => by have := h.hK g hk; have := h.hf; have := h.hB; have := h.hg; omega) (fun e => by have := h.own g (.inl e); have := h.hf; have := h.hB; have := h.hg; omega) (fun e => by have := h.own g (.inr (.inl e)); have := h.hf; have := h.hB; have := h.hg; omega) (fun e => by have := h.own g (.inr (.inr e)); have := h.hf; have := h.hB; have := h.hg; omega)
theorem MC.tkfar (h : MC w2 W B dg fg fc g K F m bv wv dv ds c) (ho : Only g W W') : TK W' dg fg fc := h.tk.only ho (by have := h.hf; have := h.hB; have := h.hg; omega) (by have := h.hB; have := h.hg; omega)
theorem mc_At (h : MR w2 W K m bv wv dv ds) (hK : ∀ b, K b → b < dg) (hown : ∀ b, bv.ownBlock = some b ∨ wv.ownBlock = some b ∨ dv.ownBlock = some b → b < dg) (hd : w2.heap.size < dg) (hf : dg < fg) (tk : TK W dg fg fc) (x : Lin) (v : Value) (F0 : Nat → Prop) (hx : Sl 3 elFld W F0 v x.fields) (hF0 : ∀ b, F0 b → b < W.heap.size) (hl : OkLin x) :
    Calls Tryz.prog 25 #[.agg #[.int .i64 x.num, v]] W fun e W' => ∃ g F, e = .returned (.pointer (some ⟨g, 0, none⟩)) ∧ MC w2 W' W.heap.size dg fg fc g K F m bv wv dv ds (Cur.start x) := by
  refine (text_At x v F0 W hx hF0 (by have := hl.1; omega)).mono ?_
  rintro e W' ⟨g, rfl, hg, hc, hb⟩
  exact ⟨g, _, rfl, h.below hb, ⟨_, hc, Cur.sim.refl _⟩, hg, fun b hb => hb.1, hK, hown, hd, hf, tk.f.lt, tk.below hb, hl.2⟩
theorem mc_Word (h : MC w2 W B dg fg fc g K F m bv wv dv ds c) : Calls Tryz.prog 83 #[.pointer (some ⟨g, 0, none⟩)] W fun e W' => e = .returned (.string (S (c.word false).2)) ∧ MC w2 W' B dg fg fc g K F m bv wv dv ds (c.word false).1 := by
  obtain ⟨a, hc, hs⟩ := h.cur
  refine (cur_Word a F g W hc).mono ?_
  rintro e W' ⟨rfl, h1, h2⟩
  exact ⟨by rw [(hs.word _).2], h.far h2, ⟨_, h1, (hs.word _).1⟩, h.hg, h.hF, h.hK, h.own, h.hd, h.hf, h.hB, h.tkfar h2, by rw [word_fields5]; exact h.len⟩
theorem mc_String (h : MC w2 W B dg fg fc g K F m bv wv dv ds c) : Calls Tryz.prog 84 #[.pointer (some ⟨g, 0, none⟩)] W fun e W' => e = .returned (.string (S (c.word true).2)) ∧ MC w2 W' B dg fg fc g K F m bv wv dv ds (c.word true).1 := by
  obtain ⟨a, hc, hs⟩ := h.cur
  refine (cur_String a F g W hc).mono ?_
  rintro e W' ⟨rfl, h1, h2⟩
  exact ⟨by rw [(hs.word _).2], h.far h2, ⟨_, h1, (hs.word _).1⟩, h.hg, h.hF, h.hK, h.own, h.hd, h.hf, h.hB, h.tkfar h2, by rw [word_fields5]; exact h.len⟩
theorem mc_Ident (h : MC w2 W B dg fg fc g K F m bv wv dv ds c) : Calls Tryz.prog 62 #[.pointer (some ⟨g, 0, none⟩)] W fun e W' => e = .returned (.string (S c.ident.2)) ∧ MC w2 W' B dg fg fc g K F m bv wv dv ds c.ident.1 := by
  obtain ⟨a, hc, hs⟩ := h.cur
  refine (cur_Ident a F g W hc fun f hf => by rw [hs.fields] at hf; have := h.len f hf; omega).mono ?_
  rintro e W' ⟨rfl, h1, h2⟩
  exact ⟨by rw [hs.ident.2], h.far h2, ⟨_, h1, hs.ident.1⟩, h.hg, h.hF, h.hK, h.own, h.hd, h.hf, h.hB, h.tkfar h2, by rw [Cur.ident_fields]; exact h.len⟩
theorem mc_Int (hgl : GlobN w2) (h : MC w2 W B dg fg fc g K F m bv wv dv ds c) : Calls Tryz.prog 59 #[.pointer (some ⟨g, 0, none⟩), .int .i64 (-12), .int .i64 12] W fun e W' => e = .returned (.int .i64 (c.int (-12) 12).2) ∧ MC w2 W' B dg fg fc g K F m bv wv dv ds (c.int (-12) 12).1 := by
  obtain ⟨a, hc, hs⟩ := h.cur
  refine (cur_Int a (-12) 12 F g W hc (fun f hf => by rw [hs.fields] at hf; have := h.len f hf; omega) fun W9 h9 => hgl.below ((h.mr.bel.trans (h9.below (by have := h.hd; have := h.hf; have := h.hB; have := h.hg; omega) (Nat.le_of_lt h.mr.lt))))).mono ?_
  rintro e W' ⟨rfl, h1, h2⟩
  exact ⟨by rw [(hs.int (-12) 12).2], h.far h2, ⟨_, h1, (hs.int (-12) 12).1⟩, h.hg, h.hF, h.hK, h.own, h.hd, h.hf, h.hB, h.tkfar h2, by rw [Cur.int_fields]; exact h.len⟩
/-- The distribution that was read, beside all this. -/
structure MCD (w2 W : World) (B dg fg : Nat) (fc : Array Value) (g : Nat) (K F : Nat → Prop) (m : Mdl) (bv wv dv : Value) (ds : List Dia) (c : Cur) (D : Value) (d : List Otc) : Prop extends MC w2 W B dg fg fc g K F m bv wv dv ds c where
  dist : Sl 3 elOtc W (fun b => B ≤ b ∧ b < W.heap.size ∧ b ≠ g) D d
theorem mc_Dist (hgl : GlobN w2) (h : MC w2 W B dg fg fc g K F m bv wv dv ds c) (t : List UInt8) (ht : t.length ≤ 1000) : Calls Tryz.prog 37 #[.string (S t)] W fun e W' => ∃ A n k, e = .returned (.tuple #[.slice A n k, .int .i64 (parseC t).2]) ∧ MCD w2 W' B dg fg fc g K F m bv wv dv ds c (.slice A n k) (parseC t).1 := by
  refine (ch_Parse (S t) W (hgl.below h.mr.bel) (by rw [S_size]; omega)).mono ?_
  rintro e W' ⟨v, rfl, hv, hb⟩
  obtain ⟨A, k, hve, _, _⟩ := hv.shape
  subst hve
  obtain ⟨hgb, hcb⟩ := (let ⟨a, hc, _⟩ := h.cur; ⟨hc.lt, trivial⟩ : g < W.heap.size ∧ True)
  exact ⟨A, _, k, rfl, h.below hb, hv.keep elOtc_good (Same.refl _ _) fun b hb => ⟨by have := hb.1; have := h.hg; omega, hb.2, by have := hb.1; omega⟩⟩
theorem mc_Reject {D : Value} {d : List Otc} (h : MCD w2 W B dg fg fc g K F m bv wv dv ds c D d) (n : Int) : Calls Tryz.prog 85 #[.pointer (some ⟨g, 0, none⟩), .int .i64 n] W fun e W' => e = .returned (.tuple #[]) ∧ MCD w2 W' B dg fg fc g K F m bv wv dv ds (c.reject n) D d := by
  obtain ⟨a, hc, hs⟩ := h.cur
  refine (cur_Reject a n F g W hc).mono ?_
  rintro e W' ⟨rfl, h1, h2⟩
  exact ⟨rfl, ⟨h.far h2, ⟨_, h1, hs.reject n⟩, h.hg, h.hF, h.hK, h.own, h.hd, h.hf, h.hB, h.tkfar h2, by rw [reject_fields5]; exact h.len⟩, h.dist.keep elOtc_good (h2.same fun b hb => ⟨hb.2.1, hb.2.2⟩) fun b hb => ⟨hb.1, Nat.lt_of_lt_of_le hb.2.1 h2.size, hb.2.2⟩⟩
theorem MC.cur_keep {row : Option Nat} {p : Addr} {v5 : Value} (h : MC w2 W B dg fg fc g K F m bv wv dv ds c) (hg : W.grownBy W' row) (hr : ∀ b, row = some b → b < dg) (hp : p.block = w2.heap.size) : ∃ a, CurAt (W'.setCell p v5) F g a ∧ Cur.sim a c := by
  obtain ⟨a, hc, hs⟩ := h.cur
  have hs' : ∀ b, b < W.heap.size → B ≤ b → (W'.setCell p v5).heap[b]? = W.heap[b]? := fun b h1 h2 => (Below.heap_setCell W' p v5 b (by rintro rfl; have := h.hd; have := h.hf; have := h.hB; omega)).trans (hg.block b h1 fun e => by have := hr b e.symm; have := h.hf; have := h.hB; omega)
  exact ⟨a, hc.keep (G := F) (fun b hb => hs' b (hc.foot b hb).1 (h.hF b hb)) (hs' g hc.lt h.hg) (by simpa [World.setCell] using hg.size), hs⟩
structure MCT (w2 W : World) (dg g : Nat) (K F : Nat → Prop) (m : Mdl) (bv wv dv : Value) (ds : List Dia) (c : Cur) : Prop extends MD w2 W dg K m bv wv dv ds where
  cur : ∃ a, CurAt W F g a ∧ Cur.sim a c
theorem mc_Close (h : MCT w2 W dg g K F m bv wv dv ds c) : Calls Tryz.prog 27 #[.pointer (some ⟨g, 0, none⟩)] W fun e W' => e = .returned (closeV c.close) ∧ MD w2 W' dg K m bv wv dv ds := by
  obtain ⟨a, hc, hs⟩ := h.cur
  refine (cur_Close a F g W hc).mono ?_
  rintro e W' ⟨rfl, h1⟩
  exact ⟨by rw [hs.close], h.mr.below h1, h.d.below h1 h.d.lt, h.nK, h.nd, h.hd⟩
/-- A bowler more. -/
theorem MC.bowed {w7 : World} {v5 : Value} {nm : List UInt8} {sh : Int} (h : MC w2 W B dg fg fc g K F m bv wv dv ds c) (ho : OwnSl 2 elBow 85 (w2.heap.size + 1) w7 v5 (m.bows ++ [⟨nm, sh⟩]))
    (hg : (W.alloc (.cells #[.string (S nm), .int .i64 sh] 85)).grownBy w7 wv.ownBlock) (hat : v5.ownBlock = wv.ownBlock ∨ v5.ownBlock = some (W.alloc (.cells #[.string (S nm), .int .i64 sh] 85)).heap.size) :
    w7.cell? ⟨w2.heap.size, 1, none⟩ = some wv ∧ w7.frozen? ⟨w2.heap.size, 1, none⟩ = false ∧ MCT w2 (w7.setCell ⟨w2.heap.size, 1, none⟩ v5) dg g K F ⟨m.bats, m.bows ++ [⟨nm, sh⟩]⟩ bv v5 dv ds c := by
  obtain ⟨hb7, hm7⟩ := h.mr.addBow ho hg hat
  have h1 := h.below (Below.alloc (Below.refl _ _) (Nat.le_refl _) (Obj.cells #[.string (S nm), .int .i64 sh] 85))
  have htk := h1.tk.grown hg (own_ne h1.mr.bow h1.tk.d (by decide)) (own_ne h1.mr.bow h1.tk.f (by decide))
  exact ⟨hb7.cell 1, hb7.frozen 1, ⟨hm7, htk.d.far (p := ⟨w2.heap.size, 1, none⟩) (show dg ≠ w2.heap.size from Nat.ne_of_gt h.hd) _, fun hk => by have := h.hK _ hk; omega, fun e => by have := h.own _ (.inr (.inr e)); omega, h.hd⟩,
    h1.cur_keep (p := ⟨w2.heap.size, 1, none⟩) hg (fun b hb => h.own b (.inr (.inl hb))) rfl⟩
theorem MCD.toM {D : Value} {d : List Otc} (h : MCD w2 W B dg fg fc g K F m bv wv dv ds c D d) : MC w2 W B dg fg fc g K F m bv wv dv ds c := h.toMC
theorem MCD.distE {D : Value} {d : List Otc} (h : MCD w2 W B dg fg fc g K F m bv wv dv ds c D d) : ∀ b, (B ≤ b ∧ b < W.heap.size ∧ b ≠ g) → w2.heap.size < b ∧ b < W.heap.size ∧ bv.ownBlock ≠ some b ∧ wv.ownBlock ≠ some b ∧ dv.ownBlock ≠ some b := fun b hb => by
  have h1 := h.hd; have h2 := h.hf; have h3 := h.hB
  exact ⟨by omega, hb.2.1, fun e => by have := h.own b (.inl e); omega, fun e => by have := h.own b (.inr (.inl e)); omega, fun e => by have := h.own b (.inr (.inr e)); omega⟩
theorem MCD.footD {D : Value} {d : List Otc} (h : MCD w2 W B dg fg fc g K F m bv wv dv ds c D d) : ∀ b, (K b ∨ (B ≤ b ∧ b < W.heap.size ∧ b ≠ g)) → b < W.heap.size := fun b hb => by
  rcases hb with hb | hb
  · exact (h.mr.foot b hb).2.1
  · exact hb.2.1
theorem MCD.footD2 {D : Value} {d : List Otc} {o : Obj} (h : MCD w2 W B dg fg fc g K F m bv wv dv ds c D d) : ∀ b, (K b ∨ (B ≤ b ∧ b < W.heap.size ∧ b ≠ g)) → b < (W.alloc o).heap.size ∧ bv.ownBlock ≠ some b := fun b hb => by
  rcases hb with hb | hb
  · exact ⟨by have := (h.mr.foot b hb).2.1; simp; omega, (h.mr.foot b hb).2.2.1⟩
  · exact ⟨by have := hb.2.1; simp; omega, (h.distE b hb).2.2.1⟩
theorem MCD.elD {D : Value} {d : List Otc} {nm : List UInt8} (h : MCD w2 W B dg fg fc g K F m bv wv dv ds c D d) (hn : nm.length ≤ 1000) (o : Obj) : elBat (W.alloc o) (fun b => K b ∨ (B ≤ b ∧ b < W.heap.size ∧ b ≠ g)) [.string (S nm), D] ⟨nm, d⟩ :=
  ⟨⟨D, rfl, h.dist.keep elOtc_good (Same.below (Below.alloc (Below.refl W.heap.size W) (Nat.le_refl _) o) fun b hb => hb.2.1) fun b hb => .inr hb⟩, by simp only [maxLen]; omega⟩
/-- A batter more. -/
theorem MCD.batted {w7 : World} {v5 D : Value} {d : List Otc} {nm : List UInt8} (h : MCD w2 W B dg fg fc g K F m bv wv dv ds c D d) (ho : OwnG 2 elBat 82 (w2.heap.size + 1) w7 v5 (fun b => K b ∨ (B ≤ b ∧ b < W.heap.size ∧ b ≠ g)) (m.bats ++ [⟨nm, d⟩]))
    (hg : (W.alloc (.cells #[.string (S nm), D] 82)).grownBy w7 bv.ownBlock) (hat : v5.ownBlock = bv.ownBlock ∨ v5.ownBlock = some (W.alloc (.cells #[.string (S nm), D] 82)).heap.size) :
    w7.cell? ⟨w2.heap.size, 0, none⟩ = some bv ∧ w7.frozen? ⟨w2.heap.size, 0, none⟩ = false ∧ MCT w2 (w7.setCell ⟨w2.heap.size, 0, none⟩ v5) dg g (fun b => K b ∨ (B ≤ b ∧ b < W.heap.size ∧ b ≠ g)) F ⟨m.bats ++ [⟨nm, d⟩], m.bows⟩ v5 wv dv ds c := by
  obtain ⟨hb7, hm7⟩ := h.mr.addBat h.distE ho hg hat
  have h1 := h.toM.below (Below.alloc (Below.refl _ _) (Nat.le_refl _) (Obj.cells #[.string (S nm), D] 82))
  have htk := h1.tk.grown hg (own_ne h1.mr.bat h1.tk.d (by decide)) (own_ne h1.mr.bat h1.tk.f (by decide))
  exact ⟨hb7.cell 0, hb7.frozen 0, ⟨hm7, htk.d.far (p := ⟨w2.heap.size, 0, none⟩) (show dg ≠ w2.heap.size from Nat.ne_of_gt h.hd) _, fun hk => by have h2 := h.hf; have h3 := h.hB; rcases hk with hk | hk; (have := h.hK _ hk; omega); omega, fun e => by have := h.own _ (.inr (.inr e)); omega, h.hd⟩,
    h1.cur_keep (p := ⟨w2.heap.size, 0, none⟩) hg (fun b hb => h.own b (.inl hb)) rfl⟩
end
/-- The model beside the reference's cursor, which lies in block g; nothing of the model reaches the blocks from B on. -/
structure RM (w2 W : World) (B dg fg : Nat) (fc : Array Value) (g : Nat) (K F : Nat → Prop) (m : Mdl) (bv wv dv : Value) (ds : List Dia) (c : Cur) : Prop where
  mr : MR w2 W K m bv wv dv ds
  cur : RCurAt W F g c
  hg : B ≤ g
  hF : ∀ b, F b → B ≤ b
  hK : ∀ b, K b → b < dg
  own : ∀ b, bv.ownBlock = some b ∨ wv.ownBlock = some b ∨ dv.ownBlock = some b → b < dg
  hd : w2.heap.size < dg
  hf : dg < fg
  hB : fg < B
  tk : TK W dg fg fc
  len : ∀ f ∈ c.fields, f.text.length ≤ 1000
section
variable {w2 W W' : World} {B dg fg g : Nat} {fc : Array Value} {K F : Nat → Prop} {m : Mdl} {bv wv dv : Value} {ds : List Dia} {c c' : Cur}
theorem RM.below (h : RM w2 W B dg fg fc g K F m bv wv dv ds c) (hb : Below W.heap.size W W') : RM w2 W' B dg fg fc g K F m bv wv dv ds c :=
  ⟨h.mr.below hb, h.cur.below hb, h.hg, h.hF, h.hK, h.own, h.hd, h.hf, h.hB, h.tk.below hb, h.len⟩
theorem RM.far (h : RM w2 W B dg fg fc g K F m bv wv dv ds c) (ho : Only g W W') : MR w2 W' K m bv wv dv ds :=
  h.mr.only ho (by have := h.hd; have := h.hf; have := h.hB; have := h.hg; omega) (fun hk => by have := h.hK g hk; have := h.hf; have := h.hB; have := h.hg; omega) (fun e => by have := h.own g (.inl e); have := h.hf; have := h.hB; have := h.hg; omega) (fun e => by have := h.own g (.inr (.inl e)); have := h.hf; have := h.hB; have := h.hg; omega) (fun e => by have := h.own g (.inr (.inr e)); have := h.hf; have := h.hB; have := h.hg; omega)
theorem RM.tkfar (h : RM w2 W B dg fg fc g K F m bv wv dv ds c) (ho : Only g W W') : TK W' dg fg fc := h.tk.only ho (by have := h.hf; have := h.hB; have := h.hg; omega) (by have := h.hB; have := h.hg; omega)
theorem rm_At (h : MR w2 W K m bv wv dv ds) (hK : ∀ b, K b → b < dg) (hown : ∀ b, bv.ownBlock = some b ∨ wv.ownBlock = some b ∨ dv.ownBlock = some b → b < dg) (hd : w2.heap.size < dg) (hf : dg < fg) (tk : TK W dg fg fc) (x : Lin) (v : Value) (F0 : Nat → Prop) (hx : Sl 3 elFld W F0 v x.fields) (hF0 : ∀ b, F0 b → b < W.heap.size) (hl : OkLin x) :
    Calls Tryz.prog 32 #[.agg #[.int .i64 x.num, v]] W fun e W' => ∃ g F, e = .returned (.pointer (some ⟨g, 0, none⟩)) ∧ RM w2 W' W.heap.size dg fg fc g K F m bv wv dv ds (Cur.start x) := by
  refine (ref_At x v F0 W hx hF0 (by have := hl.1; omega)).mono ?_
  rintro e W' ⟨g, rfl, hg, hc, hb⟩
  exact ⟨g, _, rfl, h.below hb, hc, hg, fun b hb => hb.1, hK, hown, hd, hf, tk.f.lt, tk.below hb, hl.2⟩
theorem rm_Word (h : RM w2 W B dg fg fc g K F m bv wv dv ds c) : Calls Tryz.prog 88 #[.pointer (some ⟨g, 0, none⟩)] W fun e W' => e = .returned (.string (S (c.word false).2)) ∧ RM w2 W' B dg fg fc g K F m bv wv dv ds (c.word false).1 := by
  have hc := h.cur
  refine (rcur_Word c F g W hc).mono ?_
  rintro e W' ⟨rfl, h1, h2⟩
  exact ⟨rfl, h.far h2, h1, h.hg, h.hF, h.hK, h.own, h.hd, h.hf, h.hB, h.tkfar h2, by rw [word_fields5]; exact h.len⟩
theorem rm_String (h : RM w2 W B dg fg fc g K F m bv wv dv ds c) : Calls Tryz.prog 90 #[.pointer (some ⟨g, 0, none⟩)] W fun e W' => e = .returned (.string (S (c.word true).2)) ∧ RM w2 W' B dg fg fc g K F m bv wv dv ds (c.word true).1 := by
  have hc := h.cur
  refine (rcur_String c F g W hc).mono ?_
  rintro e W' ⟨rfl, h1, h2⟩
  exact ⟨rfl, h.far h2, h1, h.hg, h.hF, h.hK, h.own, h.hd, h.hf, h.hB, h.tkfar h2, by rw [word_fields5]; exact h.len⟩
theorem rm_Ident (h : RM w2 W B dg fg fc g K F m bv wv dv ds c) : Calls Tryz.prog 69 #[.pointer (some ⟨g, 0, none⟩)] W fun e W' => e = .returned (.string (S c.ident.2)) ∧ RM w2 W' B dg fg fc g K F m bv wv dv ds c.ident.1 := by
  have hc := h.cur
  refine (rcur_Ident c F g W hc fun f hf => by have := h.len f hf; omega).mono ?_
  rintro e W' ⟨rfl, h1, h2⟩
  exact ⟨rfl, h.far h2, h1, h.hg, h.hF, h.hK, h.own, h.hd, h.hf, h.hB, h.tkfar h2, by rw [Cur.ident_fields]; exact h.len⟩
theorem rm_Int (h : RM w2 W B dg fg fc g K F m bv wv dv ds c) : Calls Tryz.prog 71 #[.pointer (some ⟨g, 0, none⟩), .int .i64 (-12), .int .i64 12] W fun e W' => e = .returned (.int .i64 (c.int (-12) 12).2) ∧ RM w2 W' B dg fg fc g K F m bv wv dv ds (c.int (-12) 12).1 := by
  have hc := h.cur
  refine (rcur_Int c (-12) 12 F g W hc (fun f hf => by have := h.len f hf; omega)).mono ?_
  rintro e W' ⟨rfl, h1, h2⟩
  exact ⟨rfl, h.far h2, h1, h.hg, h.hF, h.hK, h.own, h.hd, h.hf, h.hB, h.tkfar h2, by rw [Cur.int_fields]; exact h.len⟩
/-- The distribution that was read, beside all this. -/
structure RMD (w2 W : World) (B dg fg : Nat) (fc : Array Value) (g : Nat) (K F : Nat → Prop) (m : Mdl) (bv wv dv : Value) (ds : List Dia) (c : Cur) (D : Value) (d : List Otc) : Prop extends RM w2 W B dg fg fc g K F m bv wv dv ds c where
  dist : Sl 3 elOtc W (fun b => B ≤ b ∧ b < W.heap.size ∧ b ≠ g) D d
theorem rm_Dist (h : RM w2 W B dg fg fc g K F m bv wv dv ds c) (t : List UInt8) (ht : t.length ≤ 1000) : Calls Tryz.prog 89 #[.string (S t)] W fun e W' => ∃ A n k, e = .returned (.tuple #[.slice A n k, .int .i64 (parseC t).2]) ∧ RMD w2 W' B dg fg fc g K F m bv wv dv ds c (.slice A n k) (parseC t).1 := by
  refine (ref_Parse (S t) W (by rw [S_size]; omega)).mono ?_
  rintro e W' ⟨v, rfl, hv, hb⟩
  obtain ⟨A, k, hve, _, _⟩ := hv.shape
  subst hve
  obtain ⟨hgb, hcb⟩ := (⟨h.cur.lt, trivial⟩ : g < W.heap.size ∧ True)
  exact ⟨A, _, k, rfl, h.below hb, hv.keep elOtc_good (Same.refl _ _) fun b hb => ⟨by have := hb.1; have := h.hg; omega, hb.2, by have := hb.1; omega⟩⟩
theorem rm_Reject {D : Value} {d : List Otc} (h : RMD w2 W B dg fg fc g K F m bv wv dv ds c D d) (n : Int) : Calls Tryz.prog 91 #[.pointer (some ⟨g, 0, none⟩), .int .i64 n] W fun e W' => e = .returned (.tuple #[]) ∧ RMD w2 W' B dg fg fc g K F m bv wv dv ds (c.reject n) D d := by
  have hc := h.cur
  refine (rcur_Reject c n F g W hc).mono ?_
  rintro e W' ⟨rfl, h1, h2⟩
  exact ⟨rfl, ⟨h.far h2, h1, h.hg, h.hF, h.hK, h.own, h.hd, h.hf, h.hB, h.tkfar h2, by rw [reject_fields5]; exact h.len⟩, h.dist.keep elOtc_good (h2.same fun b hb => ⟨hb.2.1, hb.2.2⟩) fun b hb => ⟨hb.1, Nat.lt_of_lt_of_le hb.2.1 h2.size, hb.2.2⟩⟩
theorem RM.cur_keep {row : Option Nat} {p : Addr} {v5 : Value} (h : RM w2 W B dg fg fc g K F m bv wv dv ds c) (hg : W.grownBy W' row) (hr : ∀ b, row = some b → b < dg) (hp : p.block = w2.heap.size) : RCurAt (W'.setCell p v5) F g c := by
  have hc := h.cur
  have hs' : ∀ b, b < W.heap.size → B ≤ b → (W'.setCell p v5).heap[b]? = W.heap[b]? := fun b h1 h2 => (Below.heap_setCell W' p v5 b (by rintro rfl; have := h.hd; have := h.hf; have := h.hB; omega)).trans (hg.block b h1 fun e => by have := hr b e.symm; have := h.hf; have := h.hB; omega)
  exact hc.keep (G := F) (fun b hb => hs' b (hc.foot b hb).1 (h.hF b hb)) (hs' g hc.lt h.hg) (by simpa [World.setCell] using hg.size)
structure RMT (w2 W : World) (dg g : Nat) (K F : Nat → Prop) (m : Mdl) (bv wv dv : Value) (ds : List Dia) (c : Cur) : Prop extends MD w2 W dg K m bv wv dv ds where
  cur : RCurAt W F g c
theorem rm_Close (h : RMT w2 W dg g K F m bv wv dv ds c) : Calls Tryz.prog 35 #[.pointer (some ⟨g, 0, none⟩)] W fun e W' => e = .returned (closeV c.close) ∧ MD w2 W' dg K m bv wv dv ds := by
  have hc := h.cur
  refine (rcur_Close c F g W hc).mono ?_
  rintro e W' ⟨rfl, h1⟩
  exact ⟨rfl, h.mr.below h1, h.d.below h1 h.d.lt, h.nK, h.nd, h.hd⟩
/-- A bowler more. -/
theorem RM.bowed {w7 : World} {v5 : Value} {nm : List UInt8} {sh : Int} (h : RM w2 W B dg fg fc g K F m bv wv dv ds c) (ho : OwnSl 2 elBow 85 (w2.heap.size + 1) w7 v5 (m.bows ++ [⟨nm, sh⟩]))
    (hg : (W.alloc (.cells #[.string (S nm), .int .i64 sh] 85)).grownBy w7 wv.ownBlock) (hat : v5.ownBlock = wv.ownBlock ∨ v5.ownBlock = some (W.alloc (.cells #[.string (S nm), .int .i64 sh] 85)).heap.size) :
    w7.cell? ⟨w2.heap.size, 1, none⟩ = some wv ∧ w7.frozen? ⟨w2.heap.size, 1, none⟩ = false ∧ RMT w2 (w7.setCell ⟨w2.heap.size, 1, none⟩ v5) dg g K F ⟨m.bats, m.bows ++ [⟨nm, sh⟩]⟩ bv v5 dv ds c := by
  obtain ⟨hb7, hm7⟩ := h.mr.addBow ho hg hat
  have h1 := h.below (Below.alloc (Below.refl _ _) (Nat.le_refl _) (Obj.cells #[.string (S nm), .int .i64 sh] 85))
  have htk := h1.tk.grown hg (own_ne h1.mr.bow h1.tk.d (by decide)) (own_ne h1.mr.bow h1.tk.f (by decide))
  exact ⟨hb7.cell 1, hb7.frozen 1, ⟨hm7, htk.d.far (p := ⟨w2.heap.size, 1, none⟩) (show dg ≠ w2.heap.size from Nat.ne_of_gt h.hd) _, fun hk => by have := h.hK _ hk; omega, fun e => by have := h.own _ (.inr (.inr e)); omega, h.hd⟩,
    h1.cur_keep (p := ⟨w2.heap.size, 1, none⟩) hg (fun b hb => h.own b (.inr (.inl hb))) rfl⟩
theorem RMD.toM {D : Value} {d : List Otc} (h : RMD w2 W B dg fg fc g K F m bv wv dv ds c D d) : RM w2 W B dg fg fc g K F m bv wv dv ds c := h.toRM
theorem RMD.distE {D : Value} {d : List Otc} (h : RMD w2 W B dg fg fc g K F m bv wv dv ds c D d) : ∀ b, (B ≤ b ∧ b < W.heap.size ∧ b ≠ g) → w2.heap.size < b ∧ b < W.heap.size ∧ bv.ownBlock ≠ some b ∧ wv.ownBlock ≠ some b ∧ dv.ownBlock ≠ some b := fun b hb => by
  have h1 := h.hd; have h2 := h.hf; have h3 := h.hB
  exact ⟨by omega, hb.2.1, fun e => by have := h.own b (.inl e); omega, fun e => by have := h.own b (.inr (.inl e)); omega, fun e => by have := h.own b (.inr (.inr e)); omega⟩
theorem RMD.footD {D : Value} {d : List Otc} (h : RMD w2 W B dg fg fc g K F m bv wv dv ds c D d) : ∀ b, (K b ∨ (B ≤ b ∧ b < W.heap.size ∧ b ≠ g)) → b < W.heap.size := fun b hb => by
  rcases hb with hb | hb
  · exact (h.mr.foot b hb).2.1
  · exact hb.2.1
theorem RMD.footD2 {D : Value} {d : List Otc} {o : Obj} (h : RMD w2 W B dg fg fc g K F m bv wv dv ds c D d) : ∀ b, (K b ∨ (B ≤ b ∧ b < W.heap.size ∧ b ≠ g)) → b < (W.alloc o).heap.size ∧ bv.ownBlock ≠ some b := fun b hb => by
  rcases hb with hb | hb
  · exact ⟨by have := (h.mr.foot b hb).2.1; simp; omega, (h.mr.foot b hb).2.2.1⟩
  · exact ⟨by have := hb.2.1; simp; omega, (h.distE b hb).2.2.1⟩
theorem RMD.elD {D : Value} {d : List Otc} {nm : List UInt8} (h : RMD w2 W B dg fg fc g K F m bv wv dv ds c D d) (hn : nm.length ≤ 1000) (o : Obj) : elBat (W.alloc o) (fun b => K b ∨ (B ≤ b ∧ b < W.heap.size ∧ b ≠ g)) [.string (S nm), D] ⟨nm, d⟩ :=
  ⟨⟨D, rfl, h.dist.keep elOtc_good (Same.below (Below.alloc (Below.refl W.heap.size W) (Nat.le_refl _) o) fun b hb => hb.2.1) fun b hb => .inr hb⟩, by simp only [maxLen]; omega⟩
/-- A batter more. -/
theorem RMD.batted {w7 : World} {v5 D : Value} {d : List Otc} {nm : List UInt8} (h : RMD w2 W B dg fg fc g K F m bv wv dv ds c D d) (ho : OwnG 2 elBat 82 (w2.heap.size + 1) w7 v5 (fun b => K b ∨ (B ≤ b ∧ b < W.heap.size ∧ b ≠ g)) (m.bats ++ [⟨nm, d⟩]))
    (hg : (W.alloc (.cells #[.string (S nm), D] 82)).grownBy w7 bv.ownBlock) (hat : v5.ownBlock = bv.ownBlock ∨ v5.ownBlock = some (W.alloc (.cells #[.string (S nm), D] 82)).heap.size) :
    w7.cell? ⟨w2.heap.size, 0, none⟩ = some bv ∧ w7.frozen? ⟨w2.heap.size, 0, none⟩ = false ∧ RMT w2 (w7.setCell ⟨w2.heap.size, 0, none⟩ v5) dg g (fun b => K b ∨ (B ≤ b ∧ b < W.heap.size ∧ b ≠ g)) F ⟨m.bats ++ [⟨nm, d⟩], m.bows⟩ v5 wv dv ds c := by
  obtain ⟨hb7, hm7⟩ := h.mr.addBat h.distE ho hg hat
  have h1 := h.toM.below (Below.alloc (Below.refl _ _) (Nat.le_refl _) (Obj.cells #[.string (S nm), D] 82))
  have htk := h1.tk.grown hg (own_ne h1.mr.bat h1.tk.d (by decide)) (own_ne h1.mr.bat h1.tk.f (by decide))
  exact ⟨hb7.cell 0, hb7.frozen 0, ⟨hm7, htk.d.far (p := ⟨w2.heap.size, 0, none⟩) (show dg ≠ w2.heap.size from Nat.ne_of_gt h.hd) _, fun hk => by have h2 := h.hf; have h3 := h.hB; rcases hk with hk | hk; (have := h.hK _ hk; omega); omega, fun e => by have := h.own _ (.inr (.inr e)); omega, h.hd⟩,
    h1.cur_keep (p := ⟨w2.heap.size, 0, none⟩) hg (fun b hb => h.own b (.inl hb)) rfl⟩
end
/-- What a line's reading leaves. -/
def TakePost (w2 : World) (m : Mdl) (o : Option Dia) (dv : Value) (ds : List Dia) (e : Ending) (W' : World) : Prop := e = .returned (closeV o) ∧ ∃ K bv wv, MR w2 W' K m bv wv dv ds
end Go.Proofs.YtglkejlimeakbaaGreatDoor

namespace Go.Proofs.YtglkejlimeakbaaGreatDoor
open Go.RowKit

theorem S_beq5 (a b : List UInt8) : (a == b) = decide (a = b) := by by_cases h : a = b <;> simp [h]
theorem first_fld {w : World} {F : Nat → Prop} {v : Value} {x : Lin} (h : Sl 3 elFld w F v x.fields) (hne : x.fields ≠ []) :
    ∃ n k b o, 0 < n ∧ n ≤ k ∧ k ≤ 9223372036854775807 ∧ v = .slice (some ⟨b, o, none⟩) n k ∧ F b ∧ w.cell? ⟨b, o, none⟩ = some (.string (S (headM x).text)) ∧ w.cell? ⟨b, o + 1, none⟩ = some (.int .i64 (headM x).col) ∧ w.cell? ⟨b, o + 2, none⟩ = some (.bool (headM x).quoted) := by
  obtain ⟨A, k, rfl, h1, h2⟩ := h.shape
  have hp : 0 < x.fields.length := List.length_pos_iff.2 hne
  obtain ⟨b, o, cs, rfl, hF, hl, hc, hel⟩ := h.at hp
  have hel : cs = _ := hel
  subst hel
  have e : headM x = x.fields[0] := by unfold headM; rw [List.getElem?_eq_getElem hp]; rfl
  rw [e]
  have c0 := hc 0 _ rfl
  have c1 := hc 1 _ rfl
  have c2 := hc 2 _ rfl
  rw [Nat.zero_mul, Nat.add_zero] at c0 c1 c2
  exact ⟨_, k, b, o, hp, h1, h2, rfl, hF, c0, c1, c2⟩
/-- take's boxes, laid one behind the other. -/
theorem take_boxes {w2 W : World} {K : Nat → Prop} {m : Mdl} {bv wv dv : Value} {ds : List Dia} (h : MR w2 W K m bv wv dv ds) (num : Int) (u : Value) (t : List UInt8) (col : Int) (q : Bool) {b o : Nat} (hb : b < W.heap.size)
    (c0 : W.cell? ⟨b, o, none⟩ = some (.string (S t))) (c1 : W.cell? ⟨b, o + 1, none⟩ = some (.int .i64 col)) (c2 : W.cell? ⟨b, o + 2, none⟩ = some (.bool q)) :
    (((W.alloc (.cells #[.int .i64 num, u] 56)).alloc (.cells #[.int .i64 0, .int .i64 0, .int .i64 0] 41)).cell? ⟨b, o, none⟩ = some (.string (S t)) ∧
    ((W.alloc (.cells #[.int .i64 num, u] 56)).alloc (.cells #[.int .i64 0, .int .i64 0, .int .i64 0] 41)).cell? ⟨b, o + 1, none⟩ = some (.int .i64 col) ∧
    ((W.alloc (.cells #[.int .i64 num, u] 56)).alloc (.cells #[.int .i64 0, .int .i64 0, .int .i64 0] 41)).cell? ⟨b, o + 2, none⟩ = some (.bool q)) ∧
    MR w2 (((W.alloc (.cells #[.int .i64 num, u] 56)).alloc (.cells #[.int .i64 0, .int .i64 0, .int .i64 0] 41)).alloc (.cells #[.string (S t), .int .i64 col, .bool q] 87)) K m bv wv dv ds ∧
    TK (((W.alloc (.cells #[.int .i64 num, u] 56)).alloc (.cells #[.int .i64 0, .int .i64 0, .int .i64 0] 41)).alloc (.cells #[.string (S t), .int .i64 col, .bool q] 87)) (W.heap.size + 1) (W.heap.size + 1 + 1) #[.string (S t), .int .i64 col, .bool q] := by
  have e1 : (W.alloc (.cells #[.int .i64 num, u] 56)).heap.size = W.heap.size + 1 := by simp
  have cc : ∀ i v, W.cell? ⟨b, i, none⟩ = some v → ((W.alloc (.cells #[.int .i64 num, u] 56)).alloc (.cells #[.int .i64 0, .int .i64 0, .int .i64 0] 41)).cell? ⟨b, i, none⟩ = some v := fun i v hv =>
    (World.cell?_alloc_lt _ _ ⟨b, i, none⟩ (by rw [e1]; show b < _; omega)).trans ((World.cell?_alloc_lt _ _ ⟨b, i, none⟩ hb).trans hv)
  refine ⟨⟨cc _ _ c0, cc _ _ c1, cc _ _ c2⟩, ((h.alloc _).alloc _).alloc _, ?_, ?_⟩
  · have := (Blk.new (W.alloc (.cells #[.int .i64 num, u] 56)) 41 #[.int .i64 0, .int .i64 0, .int .i64 0]).alloc (.cells #[.string (S t), .int .i64 col, .bool q] 87)
    rw [e1] at this
    exact this
  · have := Blk.new ((W.alloc (.cells #[.int .i64 num, u] 56)).alloc (.cells #[.int .i64 0, .int .i64 0, .int .i64 0] 41)) 87 #[.string (S t), .int .i64 col, .bool q]
    rw [World.size_alloc, e1] at this
    exact this
theorem diag_box (W : World) (o o2 : Obj) (cs : Array Value) (t : TypeId) : Blk (((W.alloc o).alloc (.cells cs t)).alloc o2) (W.heap.size + 1) t cs := by
  have := (Blk.new (W.alloc o) t cs).alloc o2
  rw [World.size_alloc] at this
  exact this
theorem closeV_form (o : Option Dia) : ∃ a b c q, closeV o = .tuple #[.agg #[.int .i64 a, .int .i64 b, .int .i64 c], .bool q] := by
  cases o <;> exact ⟨_, _, _, _, rfl⟩
@[go_sem] theorem build_bat2 (s : ByteArray) (A : Option Addr) (n c : Nat) (w : World) : (Instr.build 82 #[(0, .string s), (1, .slice A n c)]).run Tryz.prog w = .ok (.agg #[.string s, .slice A n c]) w := run_build w 82 _ _ (by kernel_rfl)
@[go_sem] theorem build_bow2 (s : ByteArray) (x : Int) (w : World) : (Instr.build 85 #[(0, .string s), (1, .int .i64 x)]).run Tryz.prog w = .ok (.agg #[.string s, .int .i64 x]) w := run_build w 85 _ _ (by kernel_rfl)
@[go_sem] theorem build_mdl0 (w : World) : (Instr.build 35 #[]).run Tryz.prog w = .ok (.agg #[.slice none 0 0, .slice none 0 0]) w := run_build w 35 _ _ (by kernel_rfl)
theorem takeM_bow {m : Mdl} {x : Lin} (hq : (headM x).quoted = false) (ht : (headM x).text = kBOWLER) : takeM m x = (⟨m.bats, m.bows ++ [⟨(nameM x).2, ((nameM x).1.int (-12) 12).2⟩]⟩, ((nameM x).1.int (-12) 12).1.close) := by
  have hb : badHead x = false := by unfold badHead; rw [hq, ht]; decide
  unfold takeM; rw [hb, if_neg (by simp), if_pos ht]; rfl
theorem takeM_bat {m : Mdl} {x : Lin} (hq : (headM x).quoted = false) (ht : (headM x).text = kBATTER) : takeM m x = (⟨m.bats ++ [⟨(nameM x).2, (parseC ((nameM x).1.word true).2).1⟩], m.bows⟩, (((nameM x).1.word true).1.reject (parseC ((nameM x).1.word true).2).2).close) := by
  have hb : badHead x = false := by unfold badHead; rw [hq, ht]; decide
  unfold takeM; rw [hb, if_neg (by simp), if_neg (by rw [ht]; decide)]; rfl
theorem mtake_ret {R' : Ending → World → Prop} {a : Act} {w : World} {x0 x1 x2 : Value} {b : Bool} {g : Nat} (h4 : a.tmps[4]? = some (.pointer (some ⟨g, 0, none⟩))) (h5 : a.tmps[5]? = some (.bool b)) (hb : Blk w g 41 #[x0, x1, x2])
    (hd : a.defers = []) (hR : R' (.returned (.tuple #[.agg #[x0, x1, x2], .bool b])) w) : bodyPost Tryz.prog Tryz.f40 R' .ret a w := by
  have r0 := hb.cell 0
  have r1 := hb.cell 1
  have r2 := hb.cell 2
  simp only [List.getElem?_toArray, List.getElem?_cons_zero, List.getElem?_cons_succ] at r0 r1 r2
  refine bodyPost_ret (v := .tuple #[.agg #[x0, x1, x2], .bool b]) (by simp [results, Tryz.results40, go_sem, h4, h5, r0, r1, r2]) hd hR
set_option maxRecDepth 100000 in
set_option maxHeartbeats 2000000 in
theorem mtake_bad {w2 W : World} {K : Nat → Prop} {m : Mdl} {bv wv dv : Value} {ds : List Dia} (x : Lin) (fv : Value) (F0 : Nat → Prop) (h : MR w2 W K m bv wv dv ds) (hx : Sl 3 elFld W F0 fv x.fields) (hF0 : ∀ b, F0 b → b < W.heap.size) (hne : x.fields ≠ []) (hb : badHead x = true) :
    Calls Tryz.prog 40 #[.pointer (some ⟨w2.heap.size, 0, none⟩), .agg #[.int .i64 x.num, fv]] W (TakePost w2 (takeM m x).1 (takeM m x).2 dv ds) := by
  have e0 : takeM m x = (m, some ⟨x.num, (headM x).col, 4⟩) := by unfold takeM; rw [if_pos hb]
  rw [e0]
  obtain ⟨n0, k, b0, o, hnp, hnk, hkm, rfl, hF, c0, c1, c2⟩ := first_fld hx hne
  obtain ⟨num, hnum⟩ : ∃ n, n = x.num := ⟨_, rfl⟩
  rw [← hnum]
  unfold badHead at hb
  obtain ⟨⟨t, col, q⟩, hh⟩ : ∃ f, f = headM x := ⟨_, rfl⟩
  rw [← hh] at hb c0 c1 c2 ⊢
  dsimp only at hb c0 c1 c2 ⊢
  obtain ⟨⟨y0, y1, y2⟩, hm3, htk⟩ := take_boxes h num (.slice (some ⟨b0, o, none⟩) n0 k) t col q (hF0 b0 hF) c0 c1 c2
  have hlt := h.lt
  have HMR := Lib.hid h
  have hw : q = true ∨ (q = false ∧ (t == [66, 65, 84, 84, 69, 82]) = false ∧ (t == [66, 79, 87, 76, 69, 82]) = false) := by
    cases q
    · refine .inr ⟨rfl, ?_, ?_⟩
      · rw [S_beq5]; simp only [Bool.false_or, Bool.and_eq_true, Bool.not_eq_true', decide_eq_false_iff_not] at hb; exact decide_eq_false hb.1
      · rw [S_beq5]; simp only [Bool.false_or, Bool.and_eq_true, Bool.not_eq_true', decide_eq_false_iff_not] at hb; exact decide_eq_false hb.2
    · exact .inl rfl
  clear h hx hm3 htk hh hne e0 hF0 hF c0 c1 c2 hnum hb hlt
  rcases hw with rfl | ⟨rfl, e1, e2⟩
  · go_enter Tryz.func40, Tryz.ntmps40
    go_wp2
    exact mtake_ret rfl rfl (diag_box _ _ _ _ _) rfl ⟨rfl, _, _, _, ((HMR.out.alloc _).alloc _).alloc _⟩
  · go_enter Tryz.func40, Tryz.ntmps40
    go_wp2
    exact mtake_ret rfl rfl (diag_box _ _ _ _ _) rfl ⟨rfl, _, _, _, ((HMR.out.alloc _).alloc _).alloc _⟩
set_option maxRecDepth 100000 in
set_option maxHeartbeats 2000000 in
theorem mtake_bow {w2 W : World} {K : Nat → Prop} {m : Mdl} {bv wv dv : Value} {ds : List Dia} (hgl : GlobN w2) (x : Lin) (fv : Value) (F0 : Nat → Prop) (h : MR w2 W K m bv wv dv ds) (hx : Sl 3 elFld W F0 fv x.fields) (hF0 : ∀ b, F0 b → b < W.heap.size) (hl : OkLin x) (hne : x.fields ≠ []) (hm : m.bows.length ≤ 1000000) (hq : (headM x).quoted = false) (ht : (headM x).text = kBOWLER) :
    Calls Tryz.prog 40 #[.pointer (some ⟨w2.heap.size, 0, none⟩), .agg #[.int .i64 x.num, fv]] W (TakePost w2 (takeM m x).1 (takeM m x).2 dv ds) := by
  rw [takeM_bow hq ht]
  unfold nameM
  dsimp only
  obtain ⟨n0, k, b0, o, hnp, hnk, hkm, rfl, hF, c0, c1, c2⟩ := first_fld hx hne
  obtain ⟨col, hcol⟩ : ∃ n, n = (headM x).col := ⟨_, rfl⟩
  rw [ht] at c0
  rw [hq] at c2
  rw [← hcol] at c1
  obtain ⟨⟨y0, y1, y2⟩, hm3, htk⟩ := take_boxes h x.num (.slice (some ⟨b0, o, none⟩) n0 k) kBOWLER col false (hF0 b0 hF) c0 c1 c2
  have hlt := h.lt
  have kat := mc_At hm3 (dg := W.heap.size + 1) (fg := W.heap.size + 1 + 1) (fun b hb => by have := (h.foot b hb).2.1; omega) (fun b e => by have := h.own_lt b e; omega) (by omega) (by omega) htk x (.slice (some ⟨b0, o, none⟩) n0 k) F0 (hx.keep elFld_good (Same.below (Below.alloc (Below.alloc (Below.alloc (Below.refl W.heap.size W) (Nat.le_refl _) _) (by simp) _) (by simp; omega) _) hF0) fun _ h => h) (fun b hb => by have := hF0 b hb; simp; omega) hl
  obtain ⟨num, hnum⟩ : ∃ n, n = x.num := ⟨_, rfl⟩
  rw [← hnum] at kat y0 y1 y2 hm3 htk ⊢
  obtain ⟨Ab, cb, hbv, _, _⟩ := (h.bat.sl elBat_good (F := fun _ => True) (fun _ _ => trivial) fun _ _ _ => trivial).shape
  obtain ⟨Aw, cw, hwv, _, _⟩ := (OwnSl.sl elBow_good h.bow).shape
  subst hbv hwv
  obtain ⟨c00, hc00⟩ : ∃ c, c = Cur.start x := ⟨_, rfl⟩
  rw [← hc00] at kat ⊢
  have KAT := Lib.hid kat
  have e1 : (kBOWLER == [66, 65, 84, 84, 69, 82]) = false := rfl
  have e2 : (kBOWLER == [66, 79, 87, 76, 69, 82]) = true := rfl
  have hm6 : m.bows.length ≤ 1000000 := hm
  obtain ⟨nm, hnm⟩ : ∃ t, t = (c00.word false).1.ident.2 := ⟨_, rfl⟩
  obtain ⟨cc, hcc⟩ : ∃ t, t = (c00.word false).1.ident.1 := ⟨_, rfl⟩
  have k1 : ∀ {W' : World} {g : Nat} {F : Nat → Prop}, MC w2 W' (((W.alloc (.cells #[.int .i64 num, .slice (some ⟨b0, o, none⟩) n0 k] 56)).alloc (.cells #[.int .i64 0, .int .i64 0, .int .i64 0] 41)).alloc (.cells #[.string (S kBOWLER), .int .i64 col, .bool false] 87)).heap.size (W.heap.size + 1) (W.heap.size + 1 + 1) #[.string (S kBOWLER), .int .i64 col, .bool false] g K F m (.slice Ab m.bats.length cb) (.slice Aw m.bows.length cw) dv ds (c00.word false).1 →
      Calls Tryz.prog 62 #[.pointer (some ⟨g, 0, none⟩)] W' fun e W'' => e = .returned (.string (S nm)) ∧ nm.length ≤ 1000 ∧ MC w2 W'' (((W.alloc (.cells #[.int .i64 num, .slice (some ⟨b0, o, none⟩) n0 k] 56)).alloc (.cells #[.int .i64 0, .int .i64 0, .int .i64 0] 41)).alloc (.cells #[.string (S kBOWLER), .int .i64 col, .bool false] 87)).heap.size (W.heap.size + 1) (W.heap.size + 1 + 1) #[.string (S kBOWLER), .int .i64 col, .bool false] g K F m (.slice Ab m.bats.length cb) (.slice Aw m.bows.length cw) dv ds cc := by
    intro W' g F hc
    refine (mc_Ident hc).mono ?_
    rintro e W'' ⟨rfl, h2⟩
    exact ⟨by rw [hnm], by rw [hnm]; exact ident_le hc.len, by rw [hcc]; exact h2⟩
  have K1 := Lib.hid (fun (W' : World) (g : Nat) (F : Nat → Prop) => @k1 W' g F)
  rw [← hnm, ← hcc]
  obtain ⟨sh, hsh⟩ : ∃ t, t = (cc.int (-12) 12).2 := ⟨_, rfl⟩
  obtain ⟨c6, hc6⟩ : ∃ t, t = (cc.int (-12) 12).1 := ⟨_, rfl⟩
  rw [← hsh, ← hc6]
  obtain ⟨ra, rb, rc, rq, hform⟩ := closeV_form c6.close
  have HFORM := Lib.hid hform
  have HSH := Lib.hid hsh
  have HC6E := Lib.hid hc6
  clear h hx hm3 htk hne hF0 hF c0 c1 c2 hnum hlt kat hq ht hl hcol hc00 hm k1 hnm hcc hsh hc6 hform
  have tok0 : True := trivial
  go_enter Tryz.func40, Tryz.ntmps40
  go_wp2_with (first
    | (clear tok0; go_at_call 25; refine KAT.out.mono ?_; rintro e w3 ⟨g, F, rfl, hc3⟩; have HC3 := Lib.hid hc3; clear hc3; have tok1 : True := trivial)
    | (clear tok1; go_at_call 83; refine (mc_Word HC3.out).mono ?_; rintro e w4 ⟨rfl, hc4⟩; have HC4 := Lib.hid hc4; clear hc4; have tok2 : True := trivial)
    | (clear tok2; go_at_call 62; refine (K1.out w4 g F HC4.out).mono ?_; rintro e w5 ⟨rfl, hil, hc5⟩; have f0 := hc5.tk.fcell 0; simp only [List.getElem?_toArray, List.getElem?_cons_zero, List.getElem?_cons_succ] at f0; have hcd := hc5.below (Below.drew (Below.refl _ _)); obtain ⟨g0, g1, g2, g3⟩ := hcd.mr.duo; have hz5 := hc5.mr.lt; have HC5 := Lib.hid hcd; have HIL := Lib.hid hil; clear hc5 hil hcd; have tok3 : True := trivial))
  have ki := mc_Int hgl HC5.out
  rw [← HSH.out, ← HC6E.out] at ki
  have KI := Lib.hid ki
  clear HC3 HC4 HC5 KAT ki K1
  go_cut [] (fun wx => ∃ g3 cap3, MCT w2 wx (W.heap.size + 1) g K F ⟨m.bats, m.bows ++ [⟨nm, sh⟩]⟩ (.slice Ab m.bats.length cb) (.slice (some ⟨g3, 0, none⟩) (m.bows.length + 1) cap3) dv ds c6)
  case first =>
    have hz5' : w2.heap.size + 1 ≤ w5.heap.size := hz5
    go_region_law (first
      | (go_simp; go_at_call 59; refine KI.out.mono ?_; rintro e w6 ⟨rfl, hc6⟩; have y2 := hc6.mr.duo.2.1; have y3 := (hc6.mr.alloc (Obj.cells #[.string (S nm), .int .i64 sh] 85)).duo.2.1; have hz6 := hc6.mr.lt; have HC6 := Lib.hid hc6; clear hc6)
      | (refine step_append_el rfl (.tmp 45) (.tmp 50) _ rfl E_bow elBow_good (w2.heap.size + 1) _ m.bows rfl (HC6.out.mr.bow.alloc elBow_good _) ⟨w6.heap.size, 0, none⟩ 1 [.string (S nm), .int .i64 sh] rfl ⟨nm, sh⟩ rfl (cells_new _ _ _ _) (oneCells rfl) ⟨rfl, by have := HIL.out; simp only [maxLen]; omega⟩ (by simp only [maxLen]; omega) (by omega) (by simp; omega) ?_; intro g7 cap7 w7 hown7 hg7 hat7; obtain ⟨u1, u3, hm7⟩ := HC6.out.bowed hown7 hg7 (by rcases hat7 with e | e; exact .inl e; exact .inr (by rw [← e]; rfl)); have HM7 := Lib.hid hm7; clear hown7 hg7 hat7 hm7))
    all_goals
      go_wp2_with fail
      go_meet
    all_goals exact ⟨_, _, HM7.out⟩
  case rest =>
  obtain ⟨g3, cap3, hpx⟩ := hcut
  have HM7 := Lib.hid hpx
  clear hpx
  go_wp2_with ((clear tok3; go_at_call 27; have kcl := mc_Close HM7.out; rw [HFORM.out] at kcl; refine kcl.mono ?_; rintro e w8 ⟨rfl, hm8⟩; obtain ⟨d0, d1, d2, q0, q1, q2⟩ := hm8.d.six; have HM8 := Lib.hid hm8; clear hm8; have tok6 : True := trivial))
  exact mtake_ret rfl rfl (HM8.out.ends _ _ _).2 rfl ⟨by rw [HFORM.out], _, _, _, (HM8.out.ends _ _ _).1⟩
set_option maxRecDepth 100000 in
set_option maxHeartbeats 2000000 in
theorem mtake_bat {w2 W : World} {K : Nat → Prop} {m : Mdl} {bv wv dv : Value} {ds : List Dia} (hgl : GlobN w2) (x : Lin) (fv : Value) (F0 : Nat → Prop) (h : MR w2 W K m bv wv dv ds) (hx : Sl 3 elFld W F0 fv x.fields) (hF0 : ∀ b, F0 b → b < W.heap.size) (hl : OkLin x) (hne : x.fields ≠ []) (hm : m.bats.length ≤ 1000000) (hq : (headM x).quoted = false) (ht : (headM x).text = kBATTER) :
    Calls Tryz.prog 40 #[.pointer (some ⟨w2.heap.size, 0, none⟩), .agg #[.int .i64 x.num, fv]] W (TakePost w2 (takeM m x).1 (takeM m x).2 dv ds) := by
  rw [takeM_bat hq ht]
  unfold nameM
  dsimp only
  obtain ⟨n0, k, b0, o, hnp, hnk, hkm, rfl, hF, c0, c1, c2⟩ := first_fld hx hne
  obtain ⟨col, hcol⟩ : ∃ n, n = (headM x).col := ⟨_, rfl⟩
  rw [ht] at c0
  rw [hq] at c2
  rw [← hcol] at c1
  obtain ⟨⟨y0, y1, y2⟩, hm3, htk⟩ := take_boxes h x.num (.slice (some ⟨b0, o, none⟩) n0 k) kBATTER col false (hF0 b0 hF) c0 c1 c2
  have hlt := h.lt
  have kat := mc_At hm3 (dg := W.heap.size + 1) (fg := W.heap.size + 1 + 1) (fun b hb => by have := (h.foot b hb).2.1; omega) (fun b e => by have := h.own_lt b e; omega) (by omega) (by omega) htk x (.slice (some ⟨b0, o, none⟩) n0 k) F0 (hx.keep elFld_good (Same.below (Below.alloc (Below.alloc (Below.alloc (Below.refl W.heap.size W) (Nat.le_refl _) _) (by simp) _) (by simp; omega) _) hF0) fun _ h => h) (fun b hb => by have := hF0 b hb; simp; omega) hl
  obtain ⟨num, hnum⟩ : ∃ n, n = x.num := ⟨_, rfl⟩
  rw [← hnum] at kat y0 y1 y2 hm3 htk ⊢
  obtain ⟨Ab, cb, hbv, _, _⟩ := (h.bat.sl elBat_good (F := fun _ => True) (fun _ _ => trivial) fun _ _ _ => trivial).shape
  obtain ⟨Aw, cw, hwv, _, _⟩ := (OwnSl.sl elBow_good h.bow).shape
  subst hbv hwv
  obtain ⟨c00, hc00⟩ : ∃ c, c = Cur.start x := ⟨_, rfl⟩
  rw [← hc00] at kat ⊢
  have KAT := Lib.hid kat
  have e1 : (kBATTER == [66, 65, 84, 84, 69, 82]) = true := rfl
  have e2 : (kBATTER == [66, 79, 87, 76, 69, 82]) = false := rfl
  have hm6 : m.bats.length ≤ 1000000 := hm
  obtain ⟨nm, hnm⟩ : ∃ t, t = (c00.word false).1.ident.2 := ⟨_, rfl⟩
  obtain ⟨cc, hcc⟩ : ∃ t, t = (c00.word false).1.ident.1 := ⟨_, rfl⟩
  have k1 : ∀ {W' : World} {g : Nat} {F : Nat → Prop}, MC w2 W' (((W.alloc (.cells #[.int .i64 num, .slice (some ⟨b0, o, none⟩) n0 k] 56)).alloc (.cells #[.int .i64 0, .int .i64 0, .int .i64 0] 41)).alloc (.cells #[.string (S kBATTER), .int .i64 col, .bool false] 87)).heap.size (W.heap.size + 1) (W.heap.size + 1 + 1) #[.string (S kBATTER), .int .i64 col, .bool false] g K F m (.slice Ab m.bats.length cb) (.slice Aw m.bows.length cw) dv ds (c00.word false).1 →
      Calls Tryz.prog 62 #[.pointer (some ⟨g, 0, none⟩)] W' fun e W'' => e = .returned (.string (S nm)) ∧ nm.length ≤ 1000 ∧ MC w2 W'' (((W.alloc (.cells #[.int .i64 num, .slice (some ⟨b0, o, none⟩) n0 k] 56)).alloc (.cells #[.int .i64 0, .int .i64 0, .int .i64 0] 41)).alloc (.cells #[.string (S kBATTER), .int .i64 col, .bool false] 87)).heap.size (W.heap.size + 1) (W.heap.size + 1 + 1) #[.string (S kBATTER), .int .i64 col, .bool false] g K F m (.slice Ab m.bats.length cb) (.slice Aw m.bows.length cw) dv ds cc := by
    intro W' g F hc
    refine (mc_Ident hc).mono ?_
    rintro e W'' ⟨rfl, h2⟩
    exact ⟨by rw [hnm], by rw [hnm]; exact ident_le hc.len, by rw [hcc]; exact h2⟩
  have K1 := Lib.hid (fun (W' : World) (g : Nat) (F : Nat → Prop) => @k1 W' g F)
  rw [← hnm, ← hcc]
  obtain ⟨tx, htx⟩ : ∃ t, t = (cc.word true).2 := ⟨_, rfl⟩
  obtain ⟨c6, hc6⟩ : ∃ t, t = (cc.word true).1 := ⟨_, rfl⟩
  obtain ⟨⟨dl, er⟩, hpc⟩ : ∃ t, t = parseC tx := ⟨_, rfl⟩
  rw [← htx, ← hc6, ← hpc]
  dsimp only
  obtain ⟨ra, rb, rc, rq, hform⟩ := closeV_form (c6.reject er).close
  have HFORM := Lib.hid hform
  have HTX := Lib.hid htx
  have HC6E := Lib.hid hc6
  have HPC := Lib.hid hpc
  clear h hx hm3 htk hne hF0 hF c0 c1 c2 hnum hlt kat hq ht hl hcol hc00 hm k1 hnm hcc htx hc6 hpc hform
  have tok0 : True := trivial
  go_enter Tryz.func40, Tryz.ntmps40
  go_wp2_with (first
    | (clear tok0; go_at_call 25; refine KAT.out.mono ?_; rintro e w3 ⟨g, F, rfl, hc3⟩; have HC3 := Lib.hid hc3; clear hc3; have tok1 : True := trivial)
    | (clear tok1; go_at_call 83; refine (mc_Word HC3.out).mono ?_; rintro e w4 ⟨rfl, hc4⟩; have HC4 := Lib.hid hc4; clear hc4; have tok2 : True := trivial)
    | (clear tok2; go_at_call 62; have k5 := K1.out w4 g F HC4.out; refine k5.mono ?_; rintro e w5 ⟨rfl, hil, hc5⟩; clear k5; have f0 := hc5.tk.fcell 0; simp only [List.getElem?_toArray, List.getElem?_cons_zero, List.getElem?_cons_succ] at f0; have HC5 := Lib.hid hc5; have HIL := Lib.hid hil; clear hc5 hil; have tok3 : True := trivial)
    | (clear tok3; go_at_call 84; have ks := mc_String HC5.out; rw [← HTX.out, ← HC6E.out] at ks; refine ks.mono ?_; rintro e w6 ⟨rfl, hc6⟩; have htl : tx.length ≤ 1000 := (by rw [HTX.out]; exact word_le HC5.out.len true); have HTL := Lib.hid htl; have HC6 := Lib.hid hc6; clear hc6 htl; have tok4 : True := trivial)
    | (clear tok4; go_at_call 37; have ks := mc_Dist hgl HC6.out tx HTL.out; rw [← HPC.out] at ks; refine ks.mono ?_; rintro e w7 ⟨AD, nD, kD, rfl, hc7⟩; have HC7 := Lib.hid hc7; clear hc7; have tok5 : True := trivial)
    | (clear tok5; go_at_call 85; refine (mc_Reject HC7.out er).mono ?_; rintro e w8 ⟨rfl, hc8⟩; obtain ⟨g0, g1, g2, g3⟩ := hc8.mr.duo; have hz8 := hc8.mr.lt; have HC8 := Lib.hid hc8; clear hc8; have tok6 : True := trivial)
    | (clear tok6; at_builtin; refine wpList_append_g _ rfl (.tmp 71) (.tmp 75) _ rfl E_bat elBat_good (w2.heap.size + 1) _ (fun b => K b ∨ (((W.alloc (.cells #[.int .i64 num, .slice (some ⟨b0, o, none⟩) n0 k] 56)).alloc (.cells #[.int .i64 0, .int .i64 0, .int .i64 0] 41)).alloc (.cells #[.string (S kBATTER), .int .i64 col, .bool false] 87)).heap.size ≤ b ∧ b < w8.heap.size ∧ b ≠ g) m.bats rfl ((HC8.out.mr.bat.keep elBat_good (Same.refl _ _) (fun _ h => .inl h) fun _ _ => rfl).alloc elBat_good HC8.out.footD _) ⟨w8.heap.size, 0, none⟩ 1 [.string (S nm), .slice AD nD kD] rfl ⟨nm, dl⟩ rfl (cells_new _ _ _ _) (oneCells rfl) HC8.out.footD2 (HC8.out.elD HIL.out _) (by simp only [maxLen]; omega) (by omega) (by simp; omega) ?_; intro v9 w9 hown9 hg9 hat9; obtain ⟨u0, u2, hm9⟩ := HC8.out.batted hown9 hg9 hat9; obtain ⟨A9, k9, hv9, _, _⟩ := (hown9.sl elBat_good (F := fun _ => True) (fun _ _ => trivial) fun _ _ _ => trivial).shape; rw [List.length_append, List.length_singleton] at hv9; subst hv9; clear g0 g1 g2 g3; have g0 := u0; have g2 := u2; have HM9 := Lib.hid hm9; clear hown9 hg9 hat9 hm9 u0 u2; have tok7 : True := trivial)
    | (clear tok7; go_at_call 27; have kcl := mc_Close HM9.out; rw [HFORM.out] at kcl; refine kcl.mono ?_; rintro e wa ⟨rfl, hma⟩; obtain ⟨d0, d1, d2, q0, q1, q2⟩ := hma.d.six; have HMA := Lib.hid hma; clear hma; have tok8 : True := trivial))
  exact mtake_ret rfl rfl (HMA.out.ends _ _ _).2 rfl ⟨by rw [HFORM.out], _, _, _, (HMA.out.ends _ _ _).1⟩
theorem m_take {w2 W : World} {K : Nat → Prop} {m : Mdl} {bv wv dv : Value} {ds : List Dia} (hgl : GlobN w2) (x : Lin) (fv : Value) (F0 : Nat → Prop) (h : MR w2 W K m bv wv dv ds) (hx : Sl 3 elFld W F0 fv x.fields) (hF0 : ∀ b, F0 b → b < W.heap.size) (hl : OkLin x) (hne : x.fields ≠ []) (hm : m.bats.length ≤ 1000000 ∧ m.bows.length ≤ 1000000) :
    Calls Tryz.prog 40 #[.pointer (some ⟨w2.heap.size, 0, none⟩), .agg #[.int .i64 x.num, fv]] W (TakePost w2 (takeM m x).1 (takeM m x).2 dv ds) := by
  by_cases hb : badHead x = true
  · exact mtake_bad x fv F0 h hx hF0 hne hb
  · have hb' := hb
    unfold badHead at hb'
    simp only [Bool.or_eq_true, Bool.and_eq_true, Bool.not_eq_true', decide_eq_false_iff_not, not_or, Bool.not_eq_true, not_and, Classical.not_not] at hb'
    by_cases ht : (headM x).text = kBATTER
    · exact mtake_bat hgl x fv F0 h hx hF0 hl hne hm.1 hb'.1 ht
    · exact mtake_bow hgl x fv F0 h hx hF0 hl hne hm.2 hb'.1 (hb'.2 ht)
end Go.Proofs.YtglkejlimeakbaaGreatDoor

namespace Go.Proofs.YtglkejlimeakbaaGreatDoor
open Go.RowKit

def ModelPost (w : World) (r : Mdl × List Dia) (e : Ending) (w' : World) : Prop :=
  ∃ bv wv dv, e = .returned (.tuple #[.agg #[bv, wv], dv]) ∧ MdlAt w' (fun b => w.heap.size ≤ b ∧ b < w'.heap.size) bv wv r.1 ∧ Sl 3 elDia w' (fun b => w.heap.size ≤ b ∧ b < w'.heap.size) dv r.2 ∧ Below w.heap.size w w'
theorem MR.mdl {w2 W : World} {K : Nat → Prop} {m : Mdl} {bv wv dv : Value} {ds : List Dia} (h : MR w2 W K m bv wv dv ds) : MdlAt W (fun b => w2.heap.size < b ∧ b < W.heap.size) bv wv m :=
  ⟨h.bat.sl elBat_good (fun b hb => ⟨(h.foot b hb).1, (h.foot b hb).2.1⟩) fun b h1 h2 => ⟨h1, h2⟩, h.bow.sl elBow_good⟩
theorem MdlAt.none (w : World) (F : Nat → Prop) : MdlAt w F (.slice none 0 0) (.slice none 0 0) noMdl := ⟨Sl.nil _ _, Sl.nil _ _⟩
/-- The result's block behind the two stores. -/
def put2m (W : World) (R : Nat) (a b : Value) : World := (W.setCell ⟨R, 0, none⟩ a).setCell ⟨R, 1, none⟩ b
theorem put2m_only (W : World) (R : Nat) (a b : Value) : Only R W (put2m W R a b) := ((Only.refl R W).setCell (p := ⟨R, 0, none⟩) (.inl rfl) _).setCell (p := ⟨R, 1, none⟩) (.inl rfl) _
theorem put2m_size (W : World) (R : Nat) (a b : Value) : (put2m W R a b).heap.size = W.heap.size := by simp [put2m, World.setCell]
theorem blk_put2m {w : World} {g : Nat} {t : TypeId} {a b : Value} (h : Blk w g t #[a, b]) (x0 x1 : Value) : Blk (put2m w g x0 x1) g t #[x0, x1] := (h.set_ 0 x0).set_ 1 x1
/-- Diagnostics are handed back. -/
theorem mparse_ds {w W : World} {R : Nat} {ds : List Dia} {dv : Value} {F : Nat → Prop} (hR : R = w.heap.size) (hb : Below w.heap.size w W) (hlt : R < W.heap.size) (hd : Sl 3 elDia W F dv ds) (hF : ∀ b, F b → R < b ∧ b < W.heap.size) :
    ModelPost w (noMdl, ds) (.returned (.tuple #[.agg #[.slice none 0 0, .slice none 0 0], dv])) (put2m W R (.slice none 0 0) (.slice none 0 0)) := by
  subst hR
  have ho := put2m_only W w.heap.size (.slice none 0 0) (.slice none 0 0)
  exact ⟨_, _, _, rfl, MdlAt.none _ _, hd.keep elDia_good (ho.same fun b h => ⟨(hF b h).2, by have := (hF b h).1; omega⟩) fun b h => ⟨by have := (hF b h).1; omega, by rw [put2m_size]; exact (hF b h).2⟩, hb.trans (ho.below (Nat.le_refl _) (by omega))⟩
/-- One diagnostic, of the model as a whole. -/
theorem mparse_one {w W : World} {R : Nat} {l c k : Int} (hR : R = w.heap.size) (hb : Below w.heap.size w W) (hlt : R < W.heap.size) {n : Nat} (hn : W.heap.size = n) :
    ModelPost w (noMdl, [⟨l, c, k⟩]) (.returned (.tuple #[.agg #[.slice none 0 0, .slice none 0 0], .slice (some ⟨n, 0, none⟩) 1 1])) ((put2m W R (.slice none 0 0) (.slice none 0 0)).alloc (.cells #[.int .i64 l, .int .i64 c, .int .i64 k] 41)) := by
  subst hR; subst hn
  have ho := put2m_only W w.heap.size (.slice none 0 0) (.slice none 0 0)
  have hz := put2m_size W w.heap.size (.slice none 0 0) (.slice none 0 0)
  obtain ⟨W1, hW1⟩ : ∃ x, x = put2m W w.heap.size (.slice none 0 0) (.slice none 0 0) := ⟨_, rfl⟩
  rw [← hW1] at ho hz ⊢
  have hs := Sl.fresh1 W1 (fun x => x = W1.heap.size) [.int .i64 l, .int .i64 c, .int .i64 k] 41 (R := elDia) (size := 3) (⟨l, c, k⟩ : Dia) rfl rfl rfl
  rw [hz] at hs
  have hb1 : Below w.heap.size w W1 := hb.trans (ho.below (Nat.le_refl _) (by omega))
  exact ⟨_, _, _, rfl, MdlAt.none _ _, hs.keep elDia_good (Same.refl _ _) fun x hx => by subst hx; simp; omega, Below.alloc hb1 (by omega) _⟩
theorem ModelPost.drew {w W : World} {r : Mdl × List Dia} {e : Ending} (h : ModelPost w r e W) : ModelPost w r e W.drew :=
  let ⟨bv, wv, dv, h1, h2, h3, h4⟩ := h
  ⟨bv, wv, dv, h1, h2.keep (fun _ _ => rfl) fun _ h => h, h3.keep elDia_good (fun _ _ => rfl) fun _ h => h, Below.drew h4⟩
/-- The model is handed back. -/
theorem mparse_mdl {w W : World} {R : Nat} {m : Mdl} {bv wv : Value} {F : Nat → Prop} (hR : R = w.heap.size) (hb : Below w.heap.size w W) (hlt : R < W.heap.size) (hm : MdlAt W F bv wv m) (hF : ∀ b, F b → R < b ∧ b < W.heap.size) :
    ModelPost w (m, []) (.returned (.tuple #[.agg #[bv, wv], .slice none 0 0])) (put2m W R bv wv) := by
  subst hR
  have ho := put2m_only W w.heap.size bv wv
  exact ⟨_, _, _, rfl, hm.keep (ho.same fun b h => ⟨(hF b h).2, by have := (hF b h).1; omega⟩) fun b h => ⟨by have := (hF b h).1; omega, by rw [put2m_size]; exact (hF b h).2⟩, Sl.nil _ _, hb.trans (ho.below (Nat.le_refl _) (by omega))⟩
theorem linesM_at {ls : List Lin} {k : Nat} (h : k < ls.length) (m : Mdl) (all : List Dia) : linesM (ls.drop k) m all = linesM (ls.drop (k + 1)) (takeM m ls[k]).1 (all ++ (takeM m ls[k]).2.toList) := by
  rw [List.drop_eq_getElem_cons h, linesM]
theorem takeM_len (m : Mdl) (x : Lin) : (takeM m x).1.bats.length ≤ m.bats.length + 1 ∧ (takeM m x).1.bows.length ≤ m.bows.length + 1 := by
  unfold takeM
  split
  · simp
  · split <;> simp
theorem take_nil {all : List Dia} (h : all.take 50 = []) : all = [] := by
  cases all with
  | nil => rfl
  | cons a l => simp at h
theorem mparse_ret {R' : Ending → World → Prop} {a : Act} {w : World} {x0 x1 v : Value} {g : Nat} (h2 : a.tmps[2]? = some (.pointer (some ⟨g, 0, none⟩))) (h3 : a.tmps[3]? = some v) (hb : Blk w g 35 #[x0, x1])
    (hd : a.defers = []) (hR : R' (.returned (.tuple #[.agg #[x0, x1], v])) w) : bodyPost Tryz.prog Tryz.f12 R' .ret a w := by
  obtain ⟨r0, r1, _⟩ := hb.duo
  refine bodyPost_ret (v := .tuple #[.agg #[x0, x1], v]) (by simp [results, Tryz.results12, go_sem, h2, h3, r0, r1]) hd hR
set_option maxRecDepth 100000 in
set_option maxHeartbeats 4000000 in
theorem m_Parse (s : ByteArray) (w : World) (hg : GlobN w) (hs : s.size ≤ 140737488351232) :
    Calls Tryz.prog 12 #[.string s] w (ModelPost w (parseM s.data.toList)) := by
  obtain ⟨res, hres⟩ : ∃ r, r = parseM s.data.toList := ⟨_, rfl⟩
  rw [← hres]
  unfold parseM at hres
  have hok := splitS_ok s.data.toList
  have hnef := splitS_ne s.data.toList
  obtain ⟨w0, hw0⟩ : ∃ x, x = w.alloc (.cells #[.slice none 0 0, .slice none 0 0] 35) := ⟨_, rfl⟩
  have hb0 : Below w.heap.size w w0 := by rw [hw0]; exact Below.alloc (Below.refl _ _) (Nat.le_refl _) _
  have hz0 : w0.heap.size = w.heap.size + 1 := by rw [hw0]; simp
  have hk0 : Blk w0 w.heap.size 35 #[.slice none 0 0, .slice none 0 0] := by rw [hw0]; exact Blk.new w _ _
  obtain ⟨⟨ls, ds⟩, hq⟩ : ∃ x, x = splitS s.data.toList := ⟨_, rfl⟩
  have hsp0 := text_SplitN s w0 (hg.below hb0).glob hs
  have hsp : Calls Tryz.prog 24 #[.string s] w0 fun e w2 => ∃ v d, e = .returned (.tuple #[v, d]) ∧ Sl 2 elLin w2 (fun b => w.heap.size < b ∧ b < w2.heap.size) v ls ∧ Sl 3 elDia w2 (fun b => w.heap.size < b ∧ b < w2.heap.size) d ds ∧ Below w.heap.size w w2 ∧ Blk w2 w.heap.size 35 #[.slice none 0 0, .slice none 0 0] ∧ (ds = [] → d = .slice none 0 0) := by
    refine hsp0.mono ?_
    rintro e w2 ⟨v, d, rfl, hv, hd, hb2, hn⟩
    rw [← hq] at hv hd hn
    exact ⟨v, d, rfl, hv.keep elLin_good (Same.refl _ _) (fun b hb => ⟨by have := hb.1; omega, hb.2⟩), hd.keep elDia_good (Same.refl _ _) (fun b hb => ⟨by have := hb.1; omega, hb.2⟩), hb0.trans (hb2.mono (by omega)), hk0.below hb2 (by omega), hn⟩
  rw [← hq] at hres hok hnef
  rw [hw0] at hsp
  simp only at hres hok hnef
  have HSP := Lib.hid hsp
  have HOK := Lib.hid hok
  have HNE := Lib.hid hnef
  have HG := Lib.hid hg
  clear hsp0 hsp hok hnef hq hk0 hb0 hz0 hw0 hg
  clear w0
  by_cases hds : ds = []
  · rw [if_neg (by simpa using hds)] at hres
    subst hds
    have HR := Lib.hid hres
    have hlen0 : (([] : List Dia).length : Int) = 0 := rfl
    have hll := HOK.out.2.1
    clear hres
    go_enter Tryz.func12, Tryz.ntmps12
    go_wp2_with (go_at_call 24; refine HSP.out.mono ?_; rintro e w2 ⟨v, d, rfl, hv, hd, hb2, hk2, hn⟩; have hn2 := hn rfl; subst hn2; obtain ⟨Av, cv, rfl, hcv, hcv'⟩ := hv.shape; have hlt := hk2.lt; have HB2 := Lib.hid hb2; have HK2 := Lib.hid hk2; have HV := Lib.hid hv; clear hb2 hk2 hv hd hn)
    have HS := Lib.hid (MR.start w2)
    have HG2 := Lib.hid (HG.out.below HB2.out)
    go_loopw [24, 5] (fun i dv wr => ∃ (k : Nat) (K : Nat → Prop) (m : Mdl) (bv wv : Value) (ds all : List Dia), k ≤ ls.length ∧ i = .int .i64 k ∧ Hid (MR w2 wr K m bv wv dv ds) ∧ Hid (m.bats.length ≤ k ∧ m.bows.length ≤ k) ∧ ds.length ≤ k ∧ Hid (ds = all.take 50) ∧ Hid (linesM (ls.drop k) m all = linesM ls noMdl []) ∧ (∃ A c, dv = .slice A ds.length c ∧ ds.length ≤ c ∧ c ≤ 9223372036854775807))
      (fun i _ _ => ls.length - (intOf i).toNat)
    case atStart => exact ⟨0, _, noMdl, _, _, [], [], Nat.zero_le _, rfl, HS, Lib.hid ⟨Nat.le_refl _, Nat.le_refl _⟩, Nat.le_refl _, Lib.hid rfl, Lib.hid rfl, ⟨_, _, rfl, Nat.le_refl _, by decide⟩⟩
    case round =>
      clear HS
      obtain ⟨k, K, m, bv, wv, ds, all, hk, rfl, HM, HML, hdl, HDS, HLF, ⟨Ad, cd, rfl, hcd, hcd'⟩⟩ := hrel
      by_cases hlt2 : k < ls.length
      · obtain ⟨b, o, cs, rfl, hF, hcl, hcc, hel⟩ := HV.out.at hlt2
        have hox := HOK.out.1 _ (List.getElem_mem hlt2)
        have hnx := HNE.out _ (List.getElem_mem hlt2)
        have hlk := HLF.out
        rw [linesM_at hlt2] at hlk
        have htl := takeM_len m ls[k]
        obtain ⟨⟨xn, fs⟩, hx⟩ : ∃ x, x = ls[k] := ⟨_, rfl⟩
        rw [← hx] at hel hlk hox hnx htl
        obtain ⟨fv, rfl, hfl⟩ := hel
        dsimp only at hfl hcc
        obtain ⟨A2, c2, rfl, hf1, hf2⟩ := hfl.shape
        obtain ⟨n2, hn2⟩ : ∃ n, n = fs.length := ⟨_, rfl⟩
        rw [← hn2] at hcc hfl hf1
        have x0 : wr.cell? ⟨b, o + k * 2, none⟩ = some (.int .i64 xn) := (HM.out.bel.cell (p := ⟨b, o + k * 2, none⟩) hF.2).trans (hcc 0 _ rfl)
        have x1 : wr.cell? ⟨b, o + k * 2 + 1, none⟩ = some (.slice A2 n2 c2) := (HM.out.bel.cell (p := ⟨b, o + k * 2 + 1, none⟩) hF.2).trans (hcc 1 _ rfl)
        have ktk := m_take HG2.out ⟨xn, fs⟩ (.slice A2 n2 c2) _ (HM.out.alloc (.cells #[.int .i64 xn, .slice A2 n2 c2] 56)) (hfl.keep elFld_good (Same.below (HM.out.alloc _).bel fun b hb => hb.2) fun _ h => h) (fun b hb => by have := hb.2; have := HM.out.bel.size; simp; omega) hox hnx ⟨by have := HML.out.1; omega, by have := HML.out.2; omega⟩
        have HML2 := Lib.hid (show (takeM m ⟨xn, fs⟩).1.bats.length ≤ k + 1 ∧ (takeM m ⟨xn, fs⟩).1.bows.length ≤ k + 1 from ⟨by have := HML.out.1; have := htl.1; omega, by have := HML.out.2; have := htl.2; omega⟩)
        obtain ⟨⟨m2, od⟩, htm⟩ : ∃ y, y = takeM m ⟨xn, fs⟩ := ⟨_, rfl⟩
        rw [← htm] at ktk hlk HML2
        dsimp only at ktk hlk HML2
        have HLK := Lib.hid hlk
        clear hfl hcc hx hox hnx hcl hF hlk htl htm hn2 hf1 hf2
        cases od with
        | none =>
          unfold TakePost closeV at ktk
          have KT := Lib.hid ktk
          clear ktk
          go_wp2_with (go_at_call 40; refine KT.out.mono ?_; rintro e w3 ⟨rfl, K3, bv3, wv3, hm3⟩; have HM3 := Lib.hid hm3; clear hm3)
          go_roundw
          case rel => exact ⟨k + 1, K3, m2, bv3, wv3, ds, _, by omega, by go_num, Lib.hid (HM3.out.alloc _), HML2, by omega, Lib.hid (by rw [HDS.out]; simp), Lib.hid HLK.out, ⟨_, _, rfl, hcd, hcd'⟩⟩
          case measure => simp [intOf]; omega
        | some d =>
          obtain ⟨dl, dc, dk⟩ := d
          unfold TakePost closeV at ktk
          dsimp only at ktk
          have KT := Lib.hid ktk
          clear ktk
          by_cases h50 : ds.length < 50
          · have g50 : (ds.length : Int) < 50 := by omega
            have HDS2 := Lib.hid (show ds ++ [(⟨dl, dc, dk⟩ : Dia)] = (all ++ [(⟨dl, dc, dk⟩ : Dia)]).take 50 by have := take_more all (some ⟨dl, dc, dk⟩); dsimp only [Option.toList] at this; rw [this, ← HDS.out, if_pos h50])
            go_wp2_with (first
              | (go_at_call 40; refine KT.out.mono ?_; rintro e w3 ⟨rfl, K3, bv3, wv3, hm3⟩; have hz3 := hm3.lt; have HM3 := Lib.hid hm3; clear hm3)
              | (at_builtin; refine wpList_append_sl _ rfl (.tmp 39) (.tmp 41) _ rfl E_dia elDia_good (w2.heap.size + 1) _ ds rfl ((HM3.out.alloc _).dia.alloc elDia_good _) ⟨w3.heap.size + 1, 0, none⟩ 1 [.int .i64 dl, .int .i64 dc, .int .i64 dk] rfl ⟨dl, dc, dk⟩ rfl (cells_at5 _ _ (by simp) _ _) (oneCells rfl) rfl (by simp only [maxLen]; omega) (by omega) (by simp; omega) ?_; intro v5 w5 hown5 hg5 hat5; have hm5 := (HM3.out.alloc _).diag hown5 hg5 hat5; obtain ⟨A5, c5, hv5, hc5, hc5'⟩ := (OwnSl.sl elDia_good hown5).shape; rw [List.length_append, List.length_singleton] at hv5 hc5; subst hv5; have HM5 := Lib.hid hm5; clear hown5 hg5 hat5 hm5))
            go_roundw
            case rel => exact ⟨k + 1, K3, m2, bv3, wv3, _, _, by omega, by go_num, HM5, HML2, by simp; omega, HDS2, Lib.hid HLK.out, ⟨_, _, by rw [List.length_append]; rfl, by rw [List.length_append]; exact hc5, hc5'⟩⟩
            case measure => simp [intOf]; omega
          · have g50 : ¬ (ds.length : Int) < 50 := by omega
            have HDS2 := Lib.hid (show ds = (all ++ [(⟨dl, dc, dk⟩ : Dia)]).take 50 by have := take_more all (some ⟨dl, dc, dk⟩); dsimp only [Option.toList] at this; rw [this, ← HDS.out, if_neg h50])
            go_wp2_with (go_at_call 40; refine KT.out.mono ?_; rintro e w3 ⟨rfl, K3, bv3, wv3, hm3⟩; have HM3 := Lib.hid hm3; clear hm3)
            go_roundw
            case rel => exact ⟨k + 1, K3, m2, bv3, wv3, ds, _, by omega, by go_num, Lib.hid (HM3.out.alloc _), HML2, by omega, HDS2, Lib.hid HLK.out, ⟨_, _, rfl, hcd, hcd'⟩⟩
            case measure => simp [intOf]; omega
      · have hke : k = ls.length := by omega
        have ho := HLF.out
        rw [List.drop_eq_nil_of_le (by omega), linesM] at ho
        have hr := HR.out
        rw [← ho] at hr
        dsimp only at hr
        obtain ⟨Ab, cb, hbv, _, _⟩ := (HM.out.mdl.bat).shape
        obtain ⟨Aw, cw, hwv, _, _⟩ := (HM.out.mdl.bow).shape
        subst hbv hwv
        have hwr := HM.out.lt
        have HBW := Lib.hid (show Below w.heap.size w wr from HB2.out.trans (HM.out.bel.mono (by omega)))
        have HKR := Lib.hid (HK2.out.below HM.out.bel hlt)
        obtain ⟨r0, r1, f0, f1⟩ := HKR.out.duo
        by_cases hd0 : ds = []
        · have hall : all = [] := take_nil (HDS.out.symm.trans hd0)
          subst hd0
          rw [hall, if_neg (by simp)] at hr
          have kc := m_Check m _ _ wr (HM.out.mdl.keep (Same.refl _ _) fun b hb => hb.2)
          have hlen1 : (([] : List Dia).length : Int) = 0 := rfl
          obtain ⟨y0, y1, _, _⟩ := HM.out.duo
          obtain ⟨e, he⟩ : ∃ e, e = checkM m := ⟨_, rfl⟩
          rw [← he] at kc hr
          have HCK := Lib.hid kc
          by_cases hz : e = 0
          · rw [if_neg (by simpa using hz)] at hr
            subst hz
            have HRR := Lib.hid hr
            clear hr he hall kc ho HLF
            go_wp2_with (go_at_call 41; refine HCK.out.mono ?_; rintro x w9 ⟨rfl, hb9⟩; obtain ⟨z0, z1, _, _⟩ := (HM.out.below hb9).duo; obtain ⟨r0, r1, f0, f1⟩ := (HKR.out.below hb9 (by omega)).duo; have hz9 := hb9.size; have HB9 := Lib.hid hb9; clear hb9)
            refine mparse_ret rfl rfl (blk_put2m (HKR.out.below HB9.out (by omega)) _ _) rfl ?_
            rw [HRR.out]
            exact mparse_mdl rfl (HBW.out.trans (HB9.out.mono (by omega))) (by omega) (HM.out.below HB9.out).mdl fun b hb => ⟨by have := hb.1; omega, hb.2⟩
          · rw [if_pos hz] at hr
            have e9 : (e != 0) = true := by simp [hz]
            have HRR := Lib.hid hr
            clear hr hz he hall kc ho HLF
            go_wp2_with (go_at_call 41; refine HCK.out.mono ?_; rintro x w9 ⟨rfl, hb9⟩; obtain ⟨r0, r1, f0, f1⟩ := (HKR.out.below hb9 (by omega)).duo; have hz9 := hb9.size; have hl9 : w.heap.size < w9.heap.size := Nat.lt_of_lt_of_le (Nat.lt_trans hlt hwr) hb9.size; have HB9 := Lib.hid hb9; clear hb9)
            refine mparse_ret rfl rfl ((blk_put2m (HKR.out.below HB9.out (by omega)) _ _).alloc _) rfl ?_
            rw [HRR.out]
            exact mparse_one rfl (HBW.out.trans (HB9.out.mono (by omega))) hl9 rfl
        · have hpos : 0 < ds.length := List.length_pos_iff.2 hd0
          have hne : all ≠ [] := fun e => hd0 (by rw [HDS.out, e]; rfl)
          rw [if_pos hne] at hr
          have HRR := Lib.hid hr
          have d0 : (0 : Int) < (ds.length : Int) := by omega
          clear hr hne ho HLF hd0
          go_wp2
          refine mparse_ret rfl rfl (blk_put2m HKR.out _ _) rfl ?_
          rw [HRR.out, ← HDS.out]
          exact mparse_ds rfl HBW.out (by omega) (OwnSl.sl elDia_good HM.out.dia) fun b hb => ⟨by have := hb.1; omega, hb.2⟩
  · rw [if_pos hds] at hres
    have HR := Lib.hid hres
    have hpos : 0 < ds.length := List.length_pos_iff.2 hds
    have d0 : (0 : Int) < ds.length := by omega
    clear hds hres
    go_enter Tryz.func12, Tryz.ntmps12
    go_wp2_with (go_at_call 24; refine HSP.out.mono ?_; rintro e w2 ⟨v, d, rfl, hv, hd, hb2, hk2, _⟩; obtain ⟨Av, cv, rfl, hcv, hcv'⟩ := hv.shape; obtain ⟨Ad, cd, rfl, hcd, hcd'⟩ := hd.shape; have hlt := hk2.lt; obtain ⟨r0, r1, f0, f1⟩ := hk2.duo; have HB2 := Lib.hid hb2; have HK2 := Lib.hid hk2; have HD := Lib.hid hd; clear hb2 hk2 hv hd)
    refine mparse_ret rfl rfl (blk_put2m HK2.out _ _) rfl ?_
    rw [HR.out]
    exact mparse_ds rfl HB2.out hlt HD.out fun b hb => hb
end Go.Proofs.YtglkejlimeakbaaGreatDoor

namespace Go.Proofs.YtglkejlimeakbaaGreatDoor
open Go.RowKit

theorem neq_bow (p : ByteArray) (s : Int) (W : World) : (binOp .neq 85 (.agg #[.string p, .int .i64 s]) (.agg #[.string p, .int .i64 s])).run Tryz.prog W = .ok (.bool false) W := by
  simp [go_sem]
/-- Two models in boxes. -/
structure TwoB (w W : World) (bv wv bv' wv' : Value) : Prop where
  bel : Below w.heap.size w W
  b1 : Blk W w.heap.size 35 #[bv, wv]
  b2 : Blk W (w.heap.size + 1) 35 #[bv', wv']
theorem TwoB.new (w : World) (bv wv bv' wv' : Value) : TwoB w ((w.alloc (.cells #[bv, wv] 35)).alloc (.cells #[bv', wv'] 35)) bv wv bv' wv' := by
  have h2 := Blk.new (w.alloc (.cells #[bv, wv] 35)) 35 #[bv', wv']
  rw [World.size_alloc] at h2
  exact ⟨Below.alloc (Below.alloc (Below.refl _ _) (Nat.le_refl _) _) (by simp) _, (Blk.new w _ _).alloc _, h2⟩
theorem TwoB.below {w W W' : World} {bv wv bv' wv' : Value} (h : TwoB w W bv wv bv' wv') (hb : Below W.heap.size W W') : TwoB w W' bv wv bv' wv' := ⟨h.bel.trans (hb.mono h.bel.size), h.b1.below hb h.b1.lt, h.b2.below hb h.b2.lt⟩
theorem TwoB.cells {w W : World} {bv wv bv' wv' : Value} (h : TwoB w W bv wv bv' wv') : W.cell? ⟨w.heap.size, 0, none⟩ = some bv ∧ W.cell? ⟨w.heap.size, 1, none⟩ = some wv ∧ W.cell? ⟨w.heap.size + 1, 0, none⟩ = some bv' ∧ W.cell? ⟨w.heap.size + 1, 1, none⟩ = some wv' := ⟨h.b1.cell 0, h.b1.cell 1, h.b2.cell 0, h.b2.cell 1⟩
set_option maxRecDepth 100000 in
set_option maxHeartbeats 2000000 in
theorem law43_same (m : Mdl) (bv wv bv' wv' : Value) (w : World) (h : MdlAt w (· < w.heap.size) bv wv m) (h' : MdlAt w (· < w.heap.size) bv' wv' m) :
    Calls Tryz.prog 14 #[.agg #[bv, wv], .agg #[bv', wv']] w fun e w' => e = .returned (.bool true) ∧ Below w.heap.size w w' := by
  obtain ⟨A, c, rfl, hc, hc2⟩ := h.bat.shape
  obtain ⟨A1, c1, rfl, hc3, hc4⟩ := h.bow.shape
  obtain ⟨A', c', rfl, hc', hc2'⟩ := h'.bat.shape
  obtain ⟨A1', c1', rfl, hc3', hc4'⟩ := h'.bow.shape
  have HX0 := Lib.hid (TwoB.new w (.slice A m.bats.length c) (.slice A1 m.bows.length c1) (.slice A' m.bats.length c') (.slice A1' m.bows.length c1'))
  have H := Lib.hid h
  have H' := Lib.hid h'
  clear h h'
  go_enter Tryz.func14, Tryz.ntmps14
  go_wp2
  go_loopw [26] (fun i wr => ∃ k : Nat, k ≤ m.bats.length ∧ i = .int .i64 k ∧ Hid (TwoB w wr (.slice A m.bats.length c) (.slice A1 m.bows.length c1) (.slice A' m.bats.length c') (.slice A1' m.bows.length c1'))) (fun i _ => m.bats.length - (intOf i).toNat)
  case atStart => exact ⟨0, Nat.zero_le _, rfl, HX0⟩
  case round =>
    clear HX0
    obtain ⟨k, hk, rfl, HX⟩ := hrel
    by_cases hlt : k < m.bats.length
    · obtain ⟨b, o, v, rfl, hbl, yy0, yy1, hv, hpl⟩ := bat_at H.out.bat hlt
      obtain ⟨b', o', v', rfl, hbl', zz0, zz1, hv', _⟩ := bat_at H'.out.bat hlt
      have hcell : ∀ W, Below w.heap.size w W → W.cell? ⟨b, o + k * 2, none⟩ = some (.string (S m.bats[k].name)) ∧ W.cell? ⟨b, o + k * 2 + 1, none⟩ = some v ∧ W.cell? ⟨b', o' + k * 2, none⟩ = some (.string (S m.bats[k].name)) ∧ W.cell? ⟨b', o' + k * 2 + 1, none⟩ = some v' := fun W hW =>
        ⟨(hW.cell (p := ⟨b, o + k * 2, none⟩) hbl).trans yy0, (hW.cell (p := ⟨b, o + k * 2 + 1, none⟩) hbl).trans yy1, (hW.cell (p := ⟨b', o' + k * 2, none⟩) hbl').trans zz0, (hW.cell (p := ⟨b', o' + k * 2 + 1, none⟩) hbl').trans zz1⟩
      have ke := fun W (hW : Below w.heap.size w W) => law43_equal m.bats[k].dist v v' _ _ W (hv.keep elOtc_good (Same.of_below hW) fun _ h => h) (hv'.keep elOtc_good (Same.of_below hW) fun _ h => h)
      obtain ⟨A2, c2, hve, _, _⟩ := hv.shape
      obtain ⟨A2', c2', hve', _, _⟩ := hv'.shape
      obtain ⟨⟨p, d⟩, hp⟩ : ∃ b, b = m.bats[k] := ⟨_, rfl⟩
      rw [← hp] at hcell hve hve'
      dsimp only at hcell hve hve'
      obtain ⟨n2, hn2⟩ : ∃ n, n = d.length := ⟨_, rfl⟩
      rw [← hn2] at hve hve'
      subst hve hve'
      obtain ⟨P, hP⟩ : ∃ P, P = S p := ⟨_, rfl⟩
      rw [← hP] at hcell
      have HD := Lib.hid (HX.out.below (Below.drew (Below.refl _ _)))
      have HC := Lib.hid hcell
      have KE := Lib.hid ke
      clear yy0 yy1 zz0 zz1 hp hn2 hP hv hv' hbl hbl' hpl hcell ke
      have tok0 : True := trivial
      go_wp2
      obtain ⟨r0, _, r2, _⟩ := HD.out.cells
      obtain ⟨y0, y1, z0, z1⟩ := HC.out _ HD.out.bel
      go_region_held3 (fun w' => w'.cell? ⟨w.heap.size, 0, none⟩ = some (.slice (some ⟨b, o, none⟩) m.bats.length c) ∧ w'.cell? ⟨w.heap.size + 1, 0, none⟩ = some (.slice (some ⟨b', o', none⟩) m.bats.length c') ∧ w'.cell? ⟨b, o + k * 2, none⟩ = some (.string P) ∧ w'.cell? ⟨b, o + k * 2 + 1, none⟩ = some (.slice A2 n2 c2) ∧ w'.cell? ⟨b', o' + k * 2, none⟩ = some (.string P) ∧ w'.cell? ⟨b', o' + k * 2 + 1, none⟩ = some (.slice A2' n2 c2')) (first | exact ⟨r0, r2, y0, y1, z0, z1⟩ | go_keep) ((clear tok0; go_at_call 44; refine (KE.out _ HD.out.bel).mono ?_; rintro e w3 ⟨rfl, hb3⟩; have hx3 := HD.out.below hb3; clear r0 r2 y0 y1 z0 z1; obtain ⟨r0, _, r2, _⟩ := hx3.cells; obtain ⟨y0, y1, z0, z1⟩ := HC.out _ hx3.bel; have HX3 := Lib.hid hx3; clear hx3 hb3; have tok1 : True := trivial))
      go_wp2
      go_roundw
      case rel => exact ⟨k + 1, by omega, by go_num, HX3⟩
      case measure => simp [intOf]; omega
    · obtain rfl : k = m.bats.length := by omega
      obtain ⟨_, r1, _, r3⟩ := HX.out.cells
      have HX0 := HX
      clear HX hk hlt
      go_wp2
      go_loopw [62] (fun i wz => ∃ k : Nat, k ≤ m.bows.length ∧ i = .int .i64 k ∧ Hid (TwoB w wz (.slice A m.bats.length c) (.slice A1 m.bows.length c1) (.slice A' m.bats.length c') (.slice A1' m.bows.length c1'))) (fun i _ => m.bows.length - (intOf i).toNat)
      case atStart => exact ⟨0, Nat.zero_le _, rfl, HX0⟩
      case round =>
        clear HX0 r1 r3
        obtain ⟨k, hk, rfl, HX⟩ := hrel
        by_cases hlt : k < m.bows.length
        · obtain ⟨b, o, rfl, hbl, yy0, yy1, hpl⟩ := bow_at H.out.bow hlt
          obtain ⟨b', o', rfl, hbl', zz0, zz1, _⟩ := bow_at H'.out.bow hlt
          have y0 := (HX.out.bel.cell (p := ⟨b, o + k * 2, none⟩) hbl).trans yy0
          have y1 := (HX.out.bel.cell (p := ⟨b, o + k * 2 + 1, none⟩) hbl).trans yy1
          have z0 := (HX.out.bel.cell (p := ⟨b', o' + k * 2, none⟩) hbl').trans zz0
          have z1 := (HX.out.bel.cell (p := ⟨b', o' + k * 2 + 1, none⟩) hbl').trans zz1
          obtain ⟨P, hP⟩ : ∃ P, P = S m.bows[k].name := ⟨_, rfl⟩
          obtain ⟨s, hs⟩ : ∃ P, P = m.bows[k].shift := ⟨_, rfl⟩
          rw [← hP] at y0 z0
          rw [← hs] at y1 z1
          obtain ⟨_, r1, _, r3⟩ := HX.out.cells
          have hcmp := fun W => neq_bow P s W
          have hwk : IntKind.i64.wrap ((k : Int) + 1) = (k : Int) + 1 := IntWalk.i64_in _ (by omega)
          have HBD := Lib.hid (fun nq => HX.out.below (Below.drewN_ (Below.refl _ _) nq))
          clear yy0 yy1 zz0 zz1 hP hs hbl hbl' hpl HX
          go_wp2
          go_quiet (fail)
          go_wp2
          go_roundw
          case rel => exact ⟨k + 1, by omega, by go_num, Lib.hid (HBD.out _)⟩
          case measure => simp [intOf]; omega
        · obtain rfl : k = m.bows.length := by omega
          go_wp2
          go_ret
          exact ⟨rfl, HX.out.bel⟩
set_option maxRecDepth 100000 in
set_option maxHeartbeats 2000000 in
theorem law_ModelTexts (m : Mdl) (bv wv : Value) (w : World) (hg : GlobN w) (h : MdlAt w (· < w.heap.size) bv wv m) :
    Calls Tryz.prog 5 #[mdlV bv wv] w fun e w' => e = .returned (.bool true) ∧ Below w.heap.size w w' := by
  unfold mdlV
  obtain ⟨A, c, rfl, hc, hc2⟩ := h.bat.shape
  obtain ⟨A1, c1, rfl, hc', hc2'⟩ := h.bow.shape
  have hb1 : Below w.heap.size w (w.alloc (.cells #[.slice A m.bats.length c, .slice A1 m.bows.length c1] 35)) := Below.alloc (Below.refl _ _) (Nat.le_refl _) _
  have HX0 := Lib.hid (⟨hb1, Blk.new w 35 #[.slice A m.bats.length c, .slice A1 m.bows.length c1]⟩ : Below w.heap.size w (w.alloc (.cells #[.slice A m.bats.length c, .slice A1 m.bows.length c1] 35)) ∧ Blk (w.alloc (.cells #[.slice A m.bats.length c, .slice A1 m.bows.length c1] 35)) w.heap.size 35 #[.slice A m.bats.length c, .slice A1 m.bows.length c1])
  have KAW := Lib.hid (fun W (hW : Below w.heap.size w W) => law43_awake W (hg.below hW))
  have HM := Lib.hid h
  have k2 : ∀ W, Below w.heap.size w W → Calls Tryz.prog 15 #[.agg #[.slice A m.bats.length c, .slice A1 m.bows.length c1]] W fun e W' => e = .returned (.bool (smallM m)) ∧ Below W.heap.size W W' := fun W hW => law43_small m _ _ W (HM.out.below hW)
  have k3 := fun W (hW : Below w.heap.size w W) => m_Text m _ _ W (hg.below hW) (HM.out.below hW)
  have k4 := fun W (hW : Below w.heap.size w W) => r_Text m _ _ W (HM.out.below hW)
  have htl := textM_len m
  have hpt : checkM m = 0 → parseM (textM m).1 = (m, []) := parseM_text
  have het : (textM m).2 = checkM m := by
    unfold textM
    by_cases h0 : checkM m ≠ 0
    · rw [if_pos h0]
    · rw [if_neg h0]; show (0 : Int) = _; omega
  obtain ⟨⟨t, u⟩, ht⟩ : ∃ x, x = textM m := ⟨_, rfl⟩
  rw [← ht] at k3 k4 htl hpt het
  dsimp only at htl hpt het
  unfold TextPost at k3 k4
  dsimp only at k3 k4
  have k5 := fun W (hW : Below w.heap.size w W) => m_Parse (S t) W (hg.below hW) (by rw [S_size]; omega)
  rw [S_data] at k5
  have K3 := Lib.hid k3
  have K4 := Lib.hid k4
  have tok0 : True := trivial
  cases hs : smallM m
  · rw [hs] at k2
    have K2 := Lib.hid k2
    clear k2 hs k3 k4 k5 ht hg hb1 h htl hpt het
    go_enter Tryz.func5, Tryz.ntmps5
    go_wp2_with (first
      | (clear tok0; go_at_call 11; refine (KAW.out _ HX0.out.1).mono ?_; rintro e w1 ⟨rfl, hb⟩; have HX1 := Lib.hid (⟨HX0.out.1.trans (hb.mono HX0.out.1.size), HX0.out.2.below hb HX0.out.2.lt⟩ : Below w.heap.size w w1 ∧ Blk w1 w.heap.size 35 #[.slice A m.bats.length c, .slice A1 m.bows.length c1]); obtain ⟨x0, x1, _, _⟩ := HX1.out.2.duo; clear hb; have tok1 : True := trivial)
      | (clear tok1; go_at_call 15; refine (K2.out _ HX1.out.1).mono ?_; rintro e w2 ⟨rfl, hb⟩; have HX2 := Lib.hid (⟨HX1.out.1.trans (hb.mono HX1.out.1.size), HX1.out.2.below hb HX1.out.2.lt⟩ : Below w.heap.size w w2 ∧ Blk w2 w.heap.size 35 #[.slice A m.bats.length c, .slice A1 m.bows.length c1]); obtain ⟨x0, x1, _, _⟩ := HX2.out.2.duo; clear hb; have tok2 : True := trivial))
    go_ret
    exact ⟨rfl, HX2.out.1⟩
  · rw [hs] at k2
    have K2 := Lib.hid k2
    by_cases h0 : u = 0
    · have hpt2 := hpt (het.symm.trans h0)
      rw [hpt2] at k5
      subst h0
      have K5 := Lib.hid k5
      have K6 := Lib.hid (fun (bv' wv' : Value) W (hW : Below w.heap.size w W) (h1 : MdlAt W (· < W.heap.size) bv' wv' m) => law43_same m bv' wv' _ _ W h1 (HM.out.below hW))
      have hl0 : (([] : List Dia).length : Int) = 0 := rfl
      clear k2 hs k3 k4 k5 ht hg hb1 h htl hpt het hpt2
      go_enter Tryz.func5, Tryz.ntmps5
      go_wp2_with (first
        | (clear tok0; go_at_call 11; refine (KAW.out _ HX0.out.1).mono ?_; rintro e w1 ⟨rfl, hb⟩; have HX1 := Lib.hid (⟨HX0.out.1.trans (hb.mono HX0.out.1.size), HX0.out.2.below hb HX0.out.2.lt⟩ : Below w.heap.size w w1 ∧ Blk w1 w.heap.size 35 #[.slice A m.bats.length c, .slice A1 m.bows.length c1]); obtain ⟨x0, x1, _, _⟩ := HX1.out.2.duo; clear hb; have tok1 : True := trivial)
        | (clear tok1; go_at_call 15; refine (K2.out _ HX1.out.1).mono ?_; rintro e w2 ⟨rfl, hb⟩; have HX2 := Lib.hid (⟨HX1.out.1.trans (hb.mono HX1.out.1.size), HX1.out.2.below hb HX1.out.2.lt⟩ : Below w.heap.size w w2 ∧ Blk w2 w.heap.size 35 #[.slice A m.bats.length c, .slice A1 m.bows.length c1]); obtain ⟨x0, x1, _, _⟩ := HX2.out.2.duo; clear hb; have tok2 : True := trivial)
        | (clear tok2; go_at_call 16; refine (K3.out _ HX2.out.1).mono ?_; rintro e w3 ⟨rfl, hb⟩; have HX3 := Lib.hid (⟨HX2.out.1.trans (hb.mono HX2.out.1.size), HX2.out.2.below hb HX2.out.2.lt⟩ : Below w.heap.size w w3 ∧ Blk w3 w.heap.size 35 #[.slice A m.bats.length c, .slice A1 m.bows.length c1]); obtain ⟨x0, x1, _, _⟩ := HX3.out.2.duo; clear hb; have tok3 : True := trivial)
        | (clear tok3; go_at_call 17; refine (K4.out _ HX3.out.1).mono ?_; rintro e w4 ⟨rfl, hb⟩; have HX4 := Lib.hid (⟨HX3.out.1.trans (hb.mono HX3.out.1.size), HX3.out.2.below hb HX3.out.2.lt⟩ : Below w.heap.size w w4 ∧ Blk w4 w.heap.size 35 #[.slice A m.bats.length c, .slice A1 m.bows.length c1]); obtain ⟨x0, x1, _, _⟩ := HX4.out.2.duo; clear hb; have tok4 : True := trivial)
        | (clear tok4; go_at_call 12; refine (K5.out _ HX4.out.1).mono ?_; rintro e w5 ⟨bv5, wv5, dv5, rfl, hm5, hd5, hb⟩; obtain ⟨A5, c5, hbv5, _, _⟩ := hm5.bat.shape; obtain ⟨B5, d5, hwv5, _, _⟩ := hm5.bow.shape; obtain ⟨D5, e5, hdv5, _, _⟩ := hd5.shape; subst hbv5 hwv5 hdv5; have HX5 := Lib.hid (⟨HX4.out.1.trans (hb.mono HX4.out.1.size), HX4.out.2.below hb HX4.out.2.lt⟩ : Below w.heap.size w w5 ∧ Blk w5 w.heap.size 35 #[.slice A m.bats.length c, .slice A1 m.bows.length c1]); obtain ⟨x0, x1, _, _⟩ := HX5.out.2.duo; clear hb; have hz5 := HX5.out.2.lt; have HM5 := Lib.hid (hm5.keep (G := (· < w5.heap.size)) (Same.refl _ _) (fun b hb => hb.2)); clear hm5 hd5; have tok5 : True := trivial)
        | (clear tok5; go_at_call 14; refine (K6.out _ _ _ (HX5.out.1.alloc HX5.out.1.size _) (HM5.out.below (Below.alloc (Below.refl _ _) (Nat.le_refl _) _))).mono ?_; rintro e w6 ⟨rfl, hb⟩; have HB6 := Lib.hid ((HX5.out.1.alloc HX5.out.1.size _).trans (hb.mono (HX5.out.1.alloc HX5.out.1.size _).size)); clear hb; have tok6 : True := trivial))
      go_ret
      exact ⟨rfl, HB6.out⟩
    · have eu : (u != 0) = true := by simp [h0]
      obtain ⟨R, hR⟩ : ∃ R, R = parseM t := ⟨_, rfl⟩
      rw [← hR] at k5
      have K5 := Lib.hid k5
      clear k2 hs k3 k4 k5 ht hg hb1 h htl hpt het h0 hR
      go_enter Tryz.func5, Tryz.ntmps5
      go_wp2_with (first
        | (clear tok0; go_at_call 11; refine (KAW.out _ HX0.out.1).mono ?_; rintro e w1 ⟨rfl, hb⟩; have HX1 := Lib.hid (⟨HX0.out.1.trans (hb.mono HX0.out.1.size), HX0.out.2.below hb HX0.out.2.lt⟩ : Below w.heap.size w w1 ∧ Blk w1 w.heap.size 35 #[.slice A m.bats.length c, .slice A1 m.bows.length c1]); obtain ⟨x0, x1, _, _⟩ := HX1.out.2.duo; clear hb; have tok1 : True := trivial)
        | (clear tok1; go_at_call 15; refine (K2.out _ HX1.out.1).mono ?_; rintro e w2 ⟨rfl, hb⟩; have HX2 := Lib.hid (⟨HX1.out.1.trans (hb.mono HX1.out.1.size), HX1.out.2.below hb HX1.out.2.lt⟩ : Below w.heap.size w w2 ∧ Blk w2 w.heap.size 35 #[.slice A m.bats.length c, .slice A1 m.bows.length c1]); obtain ⟨x0, x1, _, _⟩ := HX2.out.2.duo; clear hb; have tok2 : True := trivial)
        | (clear tok2; go_at_call 16; refine (K3.out _ HX2.out.1).mono ?_; rintro e w3 ⟨rfl, hb⟩; have HX3 := Lib.hid (⟨HX2.out.1.trans (hb.mono HX2.out.1.size), HX2.out.2.below hb HX2.out.2.lt⟩ : Below w.heap.size w w3 ∧ Blk w3 w.heap.size 35 #[.slice A m.bats.length c, .slice A1 m.bows.length c1]); obtain ⟨x0, x1, _, _⟩ := HX3.out.2.duo; clear hb; have tok3 : True := trivial)
        | (clear tok3; go_at_call 17; refine (K4.out _ HX3.out.1).mono ?_; rintro e w4 ⟨rfl, hb⟩; have HX4 := Lib.hid (⟨HX3.out.1.trans (hb.mono HX3.out.1.size), HX3.out.2.below hb HX3.out.2.lt⟩ : Below w.heap.size w w4 ∧ Blk w4 w.heap.size 35 #[.slice A m.bats.length c, .slice A1 m.bows.length c1]); obtain ⟨x0, x1, _, _⟩ := HX4.out.2.duo; clear hb; have tok4 : True := trivial)
        | (clear tok4; go_at_call 12; refine (K5.out _ HX4.out.1).mono ?_; rintro e w5 ⟨bv5, wv5, dv5, rfl, hm5, hd5, hb⟩; obtain ⟨A5, c5, hbv5, _, _⟩ := hm5.bat.shape; obtain ⟨B5, d5, hwv5, _, _⟩ := hm5.bow.shape; obtain ⟨D5, e5, hdv5, _, _⟩ := hd5.shape; subst hbv5 hwv5 hdv5; have HX5 := Lib.hid (⟨HX4.out.1.trans (hb.mono HX4.out.1.size), HX4.out.2.below hb HX4.out.2.lt⟩ : Below w.heap.size w w5 ∧ Blk w5 w.heap.size 35 #[.slice A m.bats.length c, .slice A1 m.bows.length c1]); obtain ⟨x0, x1, _, _⟩ := HX5.out.2.duo; clear hb; clear hm5 hd5; have tok5 : True := trivial))
      go_ret
      exact ⟨rfl, HX5.out.1.alloc HX5.out.1.size _⟩
end Go.Proofs.YtglkejlimeakbaaGreatDoor

namespace Go.Proofs.YtglkejlimeakbaaGreatDoor
open Go.RowKit

theorem rtake_ret {R' : Ending → World → Prop} {a : Act} {w : World} {x0 x1 x2 : Value} {b : Bool} {g : Nat} (h4 : a.tmps[4]? = some (.pointer (some ⟨g, 0, none⟩))) (h5 : a.tmps[5]? = some (.bool b)) (hb : Blk w g 41 #[x0, x1, x2])
    (hd : a.defers = []) (hR : R' (.returned (.tuple #[.agg #[x0, x1, x2], .bool b])) w) : bodyPost Tryz.prog Tryz.f42 R' .ret a w := by
  have r0 := hb.cell 0
  have r1 := hb.cell 1
  have r2 := hb.cell 2
  simp only [List.getElem?_toArray, List.getElem?_cons_zero, List.getElem?_cons_succ] at r0 r1 r2
  refine bodyPost_ret (v := .tuple #[.agg #[x0, x1, x2], .bool b]) (by simp [results, Tryz.results42, go_sem, h4, h5, r0, r1, r2]) hd hR
set_option maxRecDepth 100000 in
set_option maxHeartbeats 2000000 in
theorem rtake_bad {w2 W : World} {K : Nat → Prop} {m : Mdl} {bv wv dv : Value} {ds : List Dia} (x : Lin) (fv : Value) (F0 : Nat → Prop) (h : MR w2 W K m bv wv dv ds) (hx : Sl 3 elFld W F0 fv x.fields) (hF0 : ∀ b, F0 b → b < W.heap.size) (hne : x.fields ≠ []) (hb : badHead x = true) :
    Calls Tryz.prog 42 #[.pointer (some ⟨w2.heap.size, 0, none⟩), .agg #[.int .i64 x.num, fv]] W (TakePost w2 (takeM m x).1 (takeM m x).2 dv ds) := by
  have e0 : takeM m x = (m, some ⟨x.num, (headM x).col, 4⟩) := by unfold takeM; rw [if_pos hb]
  rw [e0]
  obtain ⟨n0, k, b0, o, hnp, hnk, hkm, rfl, hF, c0, c1, c2⟩ := first_fld hx hne
  obtain ⟨num, hnum⟩ : ∃ n, n = x.num := ⟨_, rfl⟩
  rw [← hnum]
  unfold badHead at hb
  obtain ⟨⟨t, col, q⟩, hh⟩ : ∃ f, f = headM x := ⟨_, rfl⟩
  rw [← hh] at hb c0 c1 c2 ⊢
  dsimp only at hb c0 c1 c2 ⊢
  obtain ⟨⟨y0, y1, y2⟩, hm3, htk⟩ := take_boxes h num (.slice (some ⟨b0, o, none⟩) n0 k) t col q (hF0 b0 hF) c0 c1 c2
  have hlt := h.lt
  have HMR := Lib.hid h
  have hw : q = true ∨ (q = false ∧ (t == [66, 65, 84, 84, 69, 82]) = false ∧ (t == [66, 79, 87, 76, 69, 82]) = false) := by
    cases q
    · refine .inr ⟨rfl, ?_, ?_⟩
      · rw [S_beq5]; simp only [Bool.false_or, Bool.and_eq_true, Bool.not_eq_true', decide_eq_false_iff_not] at hb; exact decide_eq_false hb.1
      · rw [S_beq5]; simp only [Bool.false_or, Bool.and_eq_true, Bool.not_eq_true', decide_eq_false_iff_not] at hb; exact decide_eq_false hb.2
    · exact .inl rfl
  clear h hx hm3 htk hh hne e0 hF0 hF c0 c1 c2 hnum hb hlt
  rcases hw with rfl | ⟨rfl, e1, e2⟩
  · go_enter Tryz.func42, Tryz.ntmps42
    go_wp2
    exact rtake_ret rfl rfl (diag_box _ _ _ _ _) rfl ⟨rfl, _, _, _, ((HMR.out.alloc _).alloc _).alloc _⟩
  · go_enter Tryz.func42, Tryz.ntmps42
    go_wp2
    exact rtake_ret rfl rfl (diag_box _ _ _ _ _) rfl ⟨rfl, _, _, _, ((HMR.out.alloc _).alloc _).alloc _⟩
set_option maxRecDepth 100000 in
set_option maxHeartbeats 2000000 in
theorem rtake_bow {w2 W : World} {K : Nat → Prop} {m : Mdl} {bv wv dv : Value} {ds : List Dia} (x : Lin) (fv : Value) (F0 : Nat → Prop) (h : MR w2 W K m bv wv dv ds) (hx : Sl 3 elFld W F0 fv x.fields) (hF0 : ∀ b, F0 b → b < W.heap.size) (hl : OkLin x) (hne : x.fields ≠ []) (hm : m.bows.length ≤ 1000000) (hq : (headM x).quoted = false) (ht : (headM x).text = kBOWLER) :
    Calls Tryz.prog 42 #[.pointer (some ⟨w2.heap.size, 0, none⟩), .agg #[.int .i64 x.num, fv]] W (TakePost w2 (takeM m x).1 (takeM m x).2 dv ds) := by
  rw [takeM_bow hq ht]
  unfold nameM
  dsimp only
  obtain ⟨n0, k, b0, o, hnp, hnk, hkm, rfl, hF, c0, c1, c2⟩ := first_fld hx hne
  obtain ⟨col, hcol⟩ : ∃ n, n = (headM x).col := ⟨_, rfl⟩
  rw [ht] at c0
  rw [hq] at c2
  rw [← hcol] at c1
  obtain ⟨⟨y0, y1, y2⟩, hm3, htk⟩ := take_boxes h x.num (.slice (some ⟨b0, o, none⟩) n0 k) kBOWLER col false (hF0 b0 hF) c0 c1 c2
  have hlt := h.lt
  have kat := rm_At hm3 (dg := W.heap.size + 1) (fg := W.heap.size + 1 + 1) (fun b hb => by have := (h.foot b hb).2.1; omega) (fun b e => by have := h.own_lt b e; omega) (by omega) (by omega) htk x (.slice (some ⟨b0, o, none⟩) n0 k) F0 (hx.keep elFld_good (Same.below (Below.alloc (Below.alloc (Below.alloc (Below.refl W.heap.size W) (Nat.le_refl _) _) (by simp) _) (by simp; omega) _) hF0) fun _ h => h) (fun b hb => by have := hF0 b hb; simp; omega) hl
  obtain ⟨num, hnum⟩ : ∃ n, n = x.num := ⟨_, rfl⟩
  rw [← hnum] at kat y0 y1 y2 hm3 htk ⊢
  obtain ⟨Ab, cb, hbv, _, _⟩ := (h.bat.sl elBat_good (F := fun _ => True) (fun _ _ => trivial) fun _ _ _ => trivial).shape
  obtain ⟨Aw, cw, hwv, _, _⟩ := (OwnSl.sl elBow_good h.bow).shape
  subst hbv hwv
  obtain ⟨c00, hc00⟩ : ∃ c, c = Cur.start x := ⟨_, rfl⟩
  rw [← hc00] at kat ⊢
  have KAT := Lib.hid kat
  have e1 : (kBOWLER == [66, 65, 84, 84, 69, 82]) = false := rfl
  have e2 : (kBOWLER == [66, 79, 87, 76, 69, 82]) = true := rfl
  have hm6 : m.bows.length ≤ 1000000 := hm
  obtain ⟨nm, hnm⟩ : ∃ t, t = (c00.word false).1.ident.2 := ⟨_, rfl⟩
  obtain ⟨cc, hcc⟩ : ∃ t, t = (c00.word false).1.ident.1 := ⟨_, rfl⟩
  have k1 : ∀ {W' : World} {g : Nat} {F : Nat → Prop}, RM w2 W' (((W.alloc (.cells #[.int .i64 num, .slice (some ⟨b0, o, none⟩) n0 k] 56)).alloc (.cells #[.int .i64 0, .int .i64 0, .int .i64 0] 41)).alloc (.cells #[.string (S kBOWLER), .int .i64 col, .bool false] 87)).heap.size (W.heap.size + 1) (W.heap.size + 1 + 1) #[.string (S kBOWLER), .int .i64 col, .bool false] g K F m (.slice Ab m.bats.length cb) (.slice Aw m.bows.length cw) dv ds (c00.word false).1 →
      Calls Tryz.prog 69 #[.pointer (some ⟨g, 0, none⟩)] W' fun e W'' => e = .returned (.string (S nm)) ∧ nm.length ≤ 1000 ∧ RM w2 W'' (((W.alloc (.cells #[.int .i64 num, .slice (some ⟨b0, o, none⟩) n0 k] 56)).alloc (.cells #[.int .i64 0, .int .i64 0, .int .i64 0] 41)).alloc (.cells #[.string (S kBOWLER), .int .i64 col, .bool false] 87)).heap.size (W.heap.size + 1) (W.heap.size + 1 + 1) #[.string (S kBOWLER), .int .i64 col, .bool false] g K F m (.slice Ab m.bats.length cb) (.slice Aw m.bows.length cw) dv ds cc := by
    intro W' g F hc
    refine (rm_Ident hc).mono ?_
    rintro e W'' ⟨rfl, h2⟩
    exact ⟨by rw [hnm], by rw [hnm]; exact ident_le hc.len, by rw [hcc]; exact h2⟩
  have K1 := Lib.hid (fun (W' : World) (g : Nat) (F : Nat → Prop) => @k1 W' g F)
  rw [← hnm, ← hcc]
  obtain ⟨sh, hsh⟩ : ∃ t, t = (cc.int (-12) 12).2 := ⟨_, rfl⟩
  obtain ⟨c6, hc6⟩ : ∃ t, t = (cc.int (-12) 12).1 := ⟨_, rfl⟩
  rw [← hsh, ← hc6]
  obtain ⟨ra, rb, rc, rq, hform⟩ := closeV_form c6.close
  have HFORM := Lib.hid hform
  have HSH := Lib.hid hsh
  have HC6E := Lib.hid hc6
  clear h hx hm3 htk hne hF0 hF c0 c1 c2 hnum hlt kat hq ht hl hcol hc00 hm k1 hnm hcc hsh hc6 hform
  have tok0 : True := trivial
  go_enter Tryz.func42, Tryz.ntmps42
  go_wp2_with (first
    | (clear tok0; go_at_call 32; refine KAT.out.mono ?_; rintro e w3 ⟨g, F, rfl, hc3⟩; have HC3 := Lib.hid hc3; clear hc3; have tok1 : True := trivial)
    | (clear tok1; go_at_call 88; refine (rm_Word HC3.out).mono ?_; rintro e w4 ⟨rfl, hc4⟩; have HC4 := Lib.hid hc4; clear hc4; have tok2 : True := trivial)
    | (clear tok2; go_at_call 69; refine (K1.out w4 g F HC4.out).mono ?_; rintro e w5 ⟨rfl, hil, hc5⟩; have f0 := hc5.tk.fcell 0; simp only [List.getElem?_toArray, List.getElem?_cons_zero, List.getElem?_cons_succ] at f0; have hcd := hc5.below (Below.drew (Below.refl _ _)); obtain ⟨g0, g1, g2, g3⟩ := hcd.mr.duo; have hz5 := hc5.mr.lt; have HC5 := Lib.hid hcd; have HIL := Lib.hid hil; clear hc5 hil hcd; have tok3 : True := trivial))
  have ki := rm_Int HC5.out
  rw [← HSH.out, ← HC6E.out] at ki
  have KI := Lib.hid ki
  clear HC3 HC4 HC5 KAT ki K1
  go_cut [] (fun wx => ∃ g3 cap3, RMT w2 wx (W.heap.size + 1) g K F ⟨m.bats, m.bows ++ [⟨nm, sh⟩]⟩ (.slice Ab m.bats.length cb) (.slice (some ⟨g3, 0, none⟩) (m.bows.length + 1) cap3) dv ds c6)
  case first =>
    have hz5' : w2.heap.size + 1 ≤ w5.heap.size := hz5
    go_region_law (first
      | (go_simp; go_at_call 71; refine KI.out.mono ?_; rintro e w6 ⟨rfl, hc6⟩; have y2 := hc6.mr.duo.2.1; have y3 := (hc6.mr.alloc (Obj.cells #[.string (S nm), .int .i64 sh] 85)).duo.2.1; have hz6 := hc6.mr.lt; have HC6 := Lib.hid hc6; clear hc6)
      | (refine step_append_el rfl (.tmp 66) (.tmp 71) _ rfl E_bow elBow_good (w2.heap.size + 1) _ m.bows rfl (HC6.out.mr.bow.alloc elBow_good _) ⟨w6.heap.size, 0, none⟩ 1 [.string (S nm), .int .i64 sh] rfl ⟨nm, sh⟩ rfl (cells_new _ _ _ _) (oneCells rfl) ⟨rfl, by have := HIL.out; simp only [maxLen]; omega⟩ (by simp only [maxLen]; omega) (by omega) (by simp; omega) ?_; intro g7 cap7 w7 hown7 hg7 hat7; obtain ⟨u1, u3, hm7⟩ := HC6.out.bowed hown7 hg7 (by rcases hat7 with e | e; exact .inl e; exact .inr (by rw [← e]; rfl)); have HM7 := Lib.hid hm7; clear hown7 hg7 hat7 hm7))
    all_goals
      go_wp2_with fail
      go_meet
    all_goals exact ⟨_, _, HM7.out⟩
  case rest =>
  obtain ⟨g3, cap3, hpx⟩ := hcut
  have HM7 := Lib.hid hpx
  clear hpx
  go_wp2_with ((clear tok3; go_at_call 35; have kcl := rm_Close HM7.out; rw [HFORM.out] at kcl; refine kcl.mono ?_; rintro e w8 ⟨rfl, hm8⟩; obtain ⟨d0, d1, d2, q0, q1, q2⟩ := hm8.d.six; have HM8 := Lib.hid hm8; clear hm8; have tok6 : True := trivial))
  exact rtake_ret rfl rfl (HM8.out.ends _ _ _).2 rfl ⟨by rw [HFORM.out], _, _, _, (HM8.out.ends _ _ _).1⟩
set_option maxRecDepth 100000 in
set_option maxHeartbeats 2000000 in
theorem rtake_bat {w2 W : World} {K : Nat → Prop} {m : Mdl} {bv wv dv : Value} {ds : List Dia} (x : Lin) (fv : Value) (F0 : Nat → Prop) (h : MR w2 W K m bv wv dv ds) (hx : Sl 3 elFld W F0 fv x.fields) (hF0 : ∀ b, F0 b → b < W.heap.size) (hl : OkLin x) (hne : x.fields ≠ []) (hm : m.bats.length ≤ 1000000) (hq : (headM x).quoted = false) (ht : (headM x).text = kBATTER) :
    Calls Tryz.prog 42 #[.pointer (some ⟨w2.heap.size, 0, none⟩), .agg #[.int .i64 x.num, fv]] W (TakePost w2 (takeM m x).1 (takeM m x).2 dv ds) := by
  rw [takeM_bat hq ht]
  unfold nameM
  dsimp only
  obtain ⟨n0, k, b0, o, hnp, hnk, hkm, rfl, hF, c0, c1, c2⟩ := first_fld hx hne
  obtain ⟨col, hcol⟩ : ∃ n, n = (headM x).col := ⟨_, rfl⟩
  rw [ht] at c0
  rw [hq] at c2
  rw [← hcol] at c1
  obtain ⟨⟨y0, y1, y2⟩, hm3, htk⟩ := take_boxes h x.num (.slice (some ⟨b0, o, none⟩) n0 k) kBATTER col false (hF0 b0 hF) c0 c1 c2
  have hlt := h.lt
  have kat := rm_At hm3 (dg := W.heap.size + 1) (fg := W.heap.size + 1 + 1) (fun b hb => by have := (h.foot b hb).2.1; omega) (fun b e => by have := h.own_lt b e; omega) (by omega) (by omega) htk x (.slice (some ⟨b0, o, none⟩) n0 k) F0 (hx.keep elFld_good (Same.below (Below.alloc (Below.alloc (Below.alloc (Below.refl W.heap.size W) (Nat.le_refl _) _) (by simp) _) (by simp; omega) _) hF0) fun _ h => h) (fun b hb => by have := hF0 b hb; simp; omega) hl
  obtain ⟨num, hnum⟩ : ∃ n, n = x.num := ⟨_, rfl⟩
  rw [← hnum] at kat y0 y1 y2 hm3 htk ⊢
  obtain ⟨Ab, cb, hbv, _, _⟩ := (h.bat.sl elBat_good (F := fun _ => True) (fun _ _ => trivial) fun _ _ _ => trivial).shape
  obtain ⟨Aw, cw, hwv, _, _⟩ := (OwnSl.sl elBow_good h.bow).shape
  subst hbv hwv
  obtain ⟨c00, hc00⟩ : ∃ c, c = Cur.start x := ⟨_, rfl⟩
  rw [← hc00] at kat ⊢
  have KAT := Lib.hid kat
  have e1 : (kBATTER == [66, 65, 84, 84, 69, 82]) = true := rfl
  have e2 : (kBATTER == [66, 79, 87, 76, 69, 82]) = false := rfl
  have hm6 : m.bats.length ≤ 1000000 := hm
  obtain ⟨nm, hnm⟩ : ∃ t, t = (c00.word false).1.ident.2 := ⟨_, rfl⟩
  obtain ⟨cc, hcc⟩ : ∃ t, t = (c00.word false).1.ident.1 := ⟨_, rfl⟩
  have k1 : ∀ {W' : World} {g : Nat} {F : Nat → Prop}, RM w2 W' (((W.alloc (.cells #[.int .i64 num, .slice (some ⟨b0, o, none⟩) n0 k] 56)).alloc (.cells #[.int .i64 0, .int .i64 0, .int .i64 0] 41)).alloc (.cells #[.string (S kBATTER), .int .i64 col, .bool false] 87)).heap.size (W.heap.size + 1) (W.heap.size + 1 + 1) #[.string (S kBATTER), .int .i64 col, .bool false] g K F m (.slice Ab m.bats.length cb) (.slice Aw m.bows.length cw) dv ds (c00.word false).1 →
      Calls Tryz.prog 69 #[.pointer (some ⟨g, 0, none⟩)] W' fun e W'' => e = .returned (.string (S nm)) ∧ nm.length ≤ 1000 ∧ RM w2 W'' (((W.alloc (.cells #[.int .i64 num, .slice (some ⟨b0, o, none⟩) n0 k] 56)).alloc (.cells #[.int .i64 0, .int .i64 0, .int .i64 0] 41)).alloc (.cells #[.string (S kBATTER), .int .i64 col, .bool false] 87)).heap.size (W.heap.size + 1) (W.heap.size + 1 + 1) #[.string (S kBATTER), .int .i64 col, .bool false] g K F m (.slice Ab m.bats.length cb) (.slice Aw m.bows.length cw) dv ds cc := by
    intro W' g F hc
    refine (rm_Ident hc).mono ?_
    rintro e W'' ⟨rfl, h2⟩
    exact ⟨by rw [hnm], by rw [hnm]; exact ident_le hc.len, by rw [hcc]; exact h2⟩
  have K1 := Lib.hid (fun (W' : World) (g : Nat) (F : Nat → Prop) => @k1 W' g F)
  rw [← hnm, ← hcc]
  obtain ⟨tx, htx⟩ : ∃ t, t = (cc.word true).2 := ⟨_, rfl⟩
  obtain ⟨c6, hc6⟩ : ∃ t, t = (cc.word true).1 := ⟨_, rfl⟩
  obtain ⟨⟨dl, er⟩, hpc⟩ : ∃ t, t = parseC tx := ⟨_, rfl⟩
  rw [← htx, ← hc6, ← hpc]
  dsimp only
  obtain ⟨ra, rb, rc, rq, hform⟩ := closeV_form (c6.reject er).close
  have HFORM := Lib.hid hform
  have HTX := Lib.hid htx
  have HC6E := Lib.hid hc6
  have HPC := Lib.hid hpc
  clear h hx hm3 htk hne hF0 hF c0 c1 c2 hnum hlt kat hq ht hl hcol hc00 hm k1 hnm hcc htx hc6 hpc hform
  have tok0 : True := trivial
  go_enter Tryz.func42, Tryz.ntmps42
  go_wp2_with (first
    | (clear tok0; go_at_call 32; refine KAT.out.mono ?_; rintro e w3 ⟨g, F, rfl, hc3⟩; have HC3 := Lib.hid hc3; clear hc3; have tok1 : True := trivial)
    | (clear tok1; go_at_call 88; refine (rm_Word HC3.out).mono ?_; rintro e w4 ⟨rfl, hc4⟩; have HC4 := Lib.hid hc4; clear hc4; have tok2 : True := trivial)
    | (clear tok2; go_at_call 69; have k5 := K1.out w4 g F HC4.out; refine k5.mono ?_; rintro e w5 ⟨rfl, hil, hc5⟩; clear k5; have f0 := hc5.tk.fcell 0; simp only [List.getElem?_toArray, List.getElem?_cons_zero, List.getElem?_cons_succ] at f0; have HC5 := Lib.hid hc5; have HIL := Lib.hid hil; clear hc5 hil; have tok3 : True := trivial)
    | (clear tok3; go_at_call 90; have ks := rm_String HC5.out; rw [← HTX.out, ← HC6E.out] at ks; refine ks.mono ?_; rintro e w6 ⟨rfl, hc6⟩; have htl : tx.length ≤ 1000 := (by rw [HTX.out]; exact word_le HC5.out.len true); have HTL := Lib.hid htl; have HC6 := Lib.hid hc6; clear hc6 htl; have tok4 : True := trivial)
    | (clear tok4; go_at_call 89; have ks := rm_Dist HC6.out tx HTL.out; rw [← HPC.out] at ks; refine ks.mono ?_; rintro e w7 ⟨AD, nD, kD, rfl, hc7⟩; have HC7 := Lib.hid hc7; clear hc7; have tok5 : True := trivial)
    | (clear tok5; go_at_call 91; refine (rm_Reject HC7.out er).mono ?_; rintro e w8 ⟨rfl, hc8⟩; obtain ⟨g0, g1, g2, g3⟩ := hc8.mr.duo; have hz8 := hc8.mr.lt; have HC8 := Lib.hid hc8; clear hc8; have tok6 : True := trivial)
    | (clear tok6; at_builtin; refine wpList_append_g _ rfl (.tmp 54) (.tmp 58) _ rfl E_bat elBat_good (w2.heap.size + 1) _ (fun b => K b ∨ (((W.alloc (.cells #[.int .i64 num, .slice (some ⟨b0, o, none⟩) n0 k] 56)).alloc (.cells #[.int .i64 0, .int .i64 0, .int .i64 0] 41)).alloc (.cells #[.string (S kBATTER), .int .i64 col, .bool false] 87)).heap.size ≤ b ∧ b < w8.heap.size ∧ b ≠ g) m.bats rfl ((HC8.out.mr.bat.keep elBat_good (Same.refl _ _) (fun _ h => .inl h) fun _ _ => rfl).alloc elBat_good HC8.out.footD _) ⟨w8.heap.size, 0, none⟩ 1 [.string (S nm), .slice AD nD kD] rfl ⟨nm, dl⟩ rfl (cells_new _ _ _ _) (oneCells rfl) HC8.out.footD2 (HC8.out.elD HIL.out _) (by simp only [maxLen]; omega) (by omega) (by simp; omega) ?_; intro v9 w9 hown9 hg9 hat9; obtain ⟨u0, u2, hm9⟩ := HC8.out.batted hown9 hg9 hat9; obtain ⟨A9, k9, hv9, _, _⟩ := (hown9.sl elBat_good (F := fun _ => True) (fun _ _ => trivial) fun _ _ _ => trivial).shape; rw [List.length_append, List.length_singleton] at hv9; subst hv9; clear g0 g1 g2 g3; have g0 := u0; have g2 := u2; have HM9 := Lib.hid hm9; clear hown9 hg9 hat9 hm9 u0 u2; have tok7 : True := trivial)
    | (clear tok7; go_at_call 35; have kcl := rm_Close HM9.out; rw [HFORM.out] at kcl; refine kcl.mono ?_; rintro e wa ⟨rfl, hma⟩; obtain ⟨d0, d1, d2, q0, q1, q2⟩ := hma.d.six; have HMA := Lib.hid hma; clear hma; have tok8 : True := trivial))
  exact rtake_ret rfl rfl (HMA.out.ends _ _ _).2 rfl ⟨by rw [HFORM.out], _, _, _, (HMA.out.ends _ _ _).1⟩
theorem r_take {w2 W : World} {K : Nat → Prop} {m : Mdl} {bv wv dv : Value} {ds : List Dia} (x : Lin) (fv : Value) (F0 : Nat → Prop) (h : MR w2 W K m bv wv dv ds) (hx : Sl 3 elFld W F0 fv x.fields) (hF0 : ∀ b, F0 b → b < W.heap.size) (hl : OkLin x) (hne : x.fields ≠ []) (hm : m.bats.length ≤ 1000000 ∧ m.bows.length ≤ 1000000) :
    Calls Tryz.prog 42 #[.pointer (some ⟨w2.heap.size, 0, none⟩), .agg #[.int .i64 x.num, fv]] W (TakePost w2 (takeM m x).1 (takeM m x).2 dv ds) := by
  by_cases hb : badHead x = true
  · exact rtake_bad x fv F0 h hx hF0 hne hb
  · have hb' := hb
    unfold badHead at hb'
    simp only [Bool.or_eq_true, Bool.and_eq_true, Bool.not_eq_true', decide_eq_false_iff_not, not_or, Bool.not_eq_true, not_and, Classical.not_not] at hb'
    by_cases ht : (headM x).text = kBATTER
    · exact rtake_bat x fv F0 h hx hF0 hl hne hm.1 hb'.1 ht
    · exact rtake_bow x fv F0 h hx hF0 hl hne hm.2 hb'.1 (hb'.2 ht)
end Go.Proofs.YtglkejlimeakbaaGreatDoor

namespace Go.Proofs.YtglkejlimeakbaaGreatDoor
open Go.RowKit

/-- How the reference hands back what was read of a quoted string. -/
def rqV (q : List UInt8 × Nat × Bool) : Value := if q.2.2 then .tuple #[.string (S q.1), .int .i64 q.2.1, .int .i64 (-1)] else .tuple #[.string ⟨#[]⟩, .int .i64 0, .int .i64 q.2.1]
theorem rq_ok {q : List UInt8 × Nat × Bool} (x : List UInt8) (m : Nat) {n : Int} (h : q = (x, m, true)) (hn : n = m) : Ending.returned (.tuple #[.string (S x), .int .i64 n, .int .i64 (-1)]) = .returned (rqV q) := by rw [h, hn]; rfl
theorem rq_bad {q : List UInt8 × Nat × Bool} (m : Nat) {n : Int} (h : q = ([], m, false)) (hn : n = m) : Ending.returned (.tuple #[.string ⟨#[]⟩, .int .i64 0, .int .i64 n]) = .returned (rqV q) := by rw [h, hn]; rfl
theorem printedB_iff (c : UInt8) : printedB c = true ↔ (32 ≤ (c.toNat : Int) ∧ (c.toNat : Int) ≤ 126) := by
  unfold printedB
  simp only [Bool.and_eq_true, decide_eq_true_eq, UInt8.le_iff_toNat_le]
  have e1 : (32 : UInt8).toNat = 32 := rfl
  have e2 : (126 : UInt8).toNat = 126 := rfl
  omega
set_option maxRecDepth 100000 in
set_option maxHeartbeats 1000000 in
theorem ref_quoted (s : ByteArray) (i : Nat) (w : World) (hi : i < s.size) (hs : s.size ≤ 140737488351232) :
    Calls Tryz.prog 111 #[.string s, .int .i64 i] w fun e w' => e = .returned (rqV (quotedAt s (i + 1) [])) ∧ w' = w := by
  obtain ⟨q, hq⟩ : ∃ q, q = quotedAt s (i + 1) [] := ⟨_, rfl⟩
  rw [← hq]
  have HQ := Lib.hid hq
  clear hq
  go_enter Tryz.func111, Tryz.ntmps111
  go_wp2
  go_loop [1, 7] (fun j v => ∃ (k : Nat) (acc : List UInt8), k ≤ s.size ∧ j = .int .i64 k ∧ v = .string (S acc) ∧ acc.length ≤ k ∧ Hid (quotedAt s k acc = q))
    (fun j _ => s.size - (intOf j).toNat)
  case atStart => exact ⟨i + 1, [], by omega, by go_num, rfl, by simp, HQ.out.symm⟩
  case round =>
    obtain ⟨k, acc, hk, rfl, rfl, hacc, hqk⟩ := hrel
    by_cases hlt : k < s.size
    · by_cases h32 : (s[k].toNat : Int) < 32
      · have hp : printedB s[k] = false := by rw [Bool.eq_false_iff]; intro h; have := (printedB_iff _).1 h; omega
        have hc : s[k] ≠ 34 := by intro e; rw [e] at h32; revert h32; decide
        have HN := Lib.hid (quoted_bad s k acc hlt hc hp)
        clear hp hc
        go_wp2
        go_ret3
        exact ⟨rq_bad k (by rw [← hqk.out, HN.out]) rfl, rfl⟩
      · by_cases h126 : (126 : Int) < (s[k].toNat : Int)
        · have hp : printedB s[k] = false := by rw [Bool.eq_false_iff]; intro h; have := (printedB_iff _).1 h; omega
          have hc : s[k] ≠ 34 := by intro e; rw [e] at h126; revert h126; decide
          have HN := Lib.hid (quoted_bad s k acc hlt hc hp)
          clear hp hc
          go_wp2
          go_ret3
          exact ⟨rq_bad k (by rw [← hqk.out, HN.out]) rfl, rfl⟩
        · have hp : printedB s[k] = true := (printedB_iff _).2 (by omega)
          have d1 : decide ((s[k].toNat : Int) < 32) = false := decide_eq_false h32
          have d2 : decide ((126 : Int) < (s[k].toNat : Int)) = false := decide_eq_false h126
          have Hp := Lib.hid hp
          clear hp h32 h126
          by_cases hc : s[k] = 34
          · have c34 : ((s[k].toNat : Int) == 34) = true := by rw [hc]; rfl
            by_cases h2 : k + 1 < s.size
            · have e2 : decide ((s.size : Int) ≤ (k : Int) + 1) = false := decide_eq_false (by omega)
              by_cases hd : s[k + 1] = 34
              · have d34 : ((s[k + 1].toNat : Int) != 34) = false := by rw [hd]; rfl
                have hone := S_one s (k + 1) h2
                rw [hd] at hone
                have HN := Lib.hid (quoted_two s k acc hlt hc h2 hd)
                have a1 := fun W => run_string_add_sum (P := Tryz.prog) W (S acc) (s.extract (k + 1) (k + 1 + 1)) (by rw [S_size, hone, S_size]; simp; omega)
                have HO := Lib.hid hone
                have hi1 : (k : Int) + 1 + 1 ≤ (s.size : Int) := by omega
                clear hc hd hone
                go_wp2
                go_round
                case rel => exact ⟨k + 2, acc ++ [34], by omega, by go_num, by rw [HO.out, S_app], by simp; omega, by unfold Hid; rw [← HN.out]; exact hqk.out⟩
                case measure => simp [intOf]; omega
              · have d34 : ((s[k + 1].toNat : Int) != 34) = true := by rw [bne_iff_ne]; exact fun e => hd (byte_eq 34 e)
                have HN := Lib.hid (quoted_close s k acc hlt hc h2 hd)
                clear hc hd
                go_wp2
                go_ret3
                exact ⟨rq_ok acc (k + 1) (by rw [← hqk.out, HN.out]) (by omega), rfl⟩
            · have e2 : decide ((s.size : Int) ≤ (k : Int) + 1) = true := decide_eq_true (by omega)
              have HN := Lib.hid (quoted_last s k acc hlt hc (by omega))
              clear hc
              go_wp2
              go_ret3
              exact ⟨rq_ok acc (k + 1) (by rw [← hqk.out, HN.out]) (by omega), rfl⟩
          · have c34 : ((s[k].toNat : Int) == 34) = false := beq_eq_false_iff_ne.2 fun e => hc (byte_eq 34 e)
            have hone := S_one s k hlt
            have HN := Lib.hid (quoted_step s k acc hlt hc Hp.out)
            have a1 := fun W => run_string_add_sum (P := Tryz.prog) W (S acc) (s.extract k (k + 1)) (by rw [S_size, hone, S_size]; simp; omega)
            have HO := Lib.hid hone
            have hi1 : (k : Int) + 1 ≤ (s.size : Int) := by omega
            clear hc hone
            go_wp2
            go_round
            case rel => exact ⟨k + 1, acc ++ [s[k]], by omega, by go_num, by rw [HO.out, S_app], by simp; omega, by unfold Hid; rw [← HN.out]; exact hqk.out⟩
            case measure => simp [intOf]; omega
    · have HN := Lib.hid (quoted_end s k acc (by omega))
      go_wp2
      go_ret3
      exact ⟨rq_bad s.size (by rw [← hqk.out, HN.out]) rfl, rfl⟩
end Go.Proofs.YtglkejlimeakbaaGreatDoor

namespace Go.Proofs.YtglkejlimeakbaaGreatDoor
open Go.RowKit

/-- The reference hands back the index of the wrong byte, -1 if there is none. -/
def RFieldsPost (w : World) (q : List Fld × Nat) (e : Ending) (w' : World) : Prop :=
  ∃ v, e = .returned (.tuple #[v, .int .i64 ((q.2 : Int) - 1)]) ∧ Sl 3 elFld w' (fun b => w.heap.size ≤ b ∧ b < w'.heap.size) v q.1 ∧ Below w.heap.size w w'
theorem rfields_done {w w' : World} {q : List Fld × Nat} {v : Value} {n : Int} (x : List Fld) (m : Nat) (h : q = (x, m)) (hv : Sl 3 elFld w' (fun b => w.heap.size ≤ b ∧ b < w'.heap.size) v x) (hn : n = (m : Int) - 1) (hb : Below w.heap.size w w') :
    RFieldsPost w q (.returned (.tuple #[v, .int .i64 n])) w' := ⟨v, by rw [h, hn], by rw [h]; exact hv, hb⟩
theorem fieldsAt_after {s : ByteArray} {k : Nat} {out : List Fld} (h : k < s.size) (hc : whiteB s[k] = true ∨ s[k] = 59) : fieldsAt s k true out = fieldsAt s k false out := by
  rw [fieldsAt_cons s k true out h, fieldsAt_cons s k false out h]
  rcases hc with hc | hc
  · rw [if_pos hc, if_pos hc]
  · split
    · rfl
    · first | rfl | (rw [if_pos hc]; done) | (simp [hc])
theorem fieldsAt_stop {s : ByteArray} {k : Nat} {out : List Fld} (h : k < s.size) (h1 : whiteB s[k] = false) (h2 : s[k] ≠ 59) : fieldsAt s k true out = ([], k + 1) := by
  rw [fieldsAt_cons s k true out h, if_neg (by rw [h1]; simp), if_neg h2, if_pos rfl]
theorem wordLen_zero {s : ByteArray} {k : Nat} (h : k < s.size) (hw : wordB s[k] = false) : k = k + wordLen s k := by
  unfold wordLen
  rw [drop_cons s k h]
  simp [hw]
set_option maxRecDepth 100000 in
set_option maxHeartbeats 4000000 in
theorem ref_fields (s : ByteArray) (w : World) (hs : s.size ≤ 1000000) :
    Calls Tryz.prog 68 #[.string s] w (RFieldsPost w (fieldsS s.data.toList)) := by
  obtain ⟨q, hq⟩ : ∃ q, q = fieldsS s.data.toList := ⟨_, rfl⟩
  rw [← hq]
  have HQ := Lib.hid hq
  clear hq
  go_enter Tryz.func68, Tryz.ntmps68
  go_wp2
  go_loopw [4, 5] (fun v j wr => ∃ (k : Nat) (out : List Fld), k ≤ s.size ∧ j = .int .i64 k ∧ OwnSl 3 elFld 87 w.heap.size wr v out ∧ out.length ≤ k ∧ Hid (fieldsAt s k false out = q) ∧ Below w.heap.size w wr)
    (fun _ j _ => s.size - (intOf j).toNat)
  case atStart => exact ⟨0, [], by omega, by go_num, OwnSl.nil _, by simp, (fieldsAt_zero s).trans HQ.out.symm, Below.refl _ _⟩
  case round =>
    obtain ⟨k, out, hk, rfl, hown, hout, hqk, hbel⟩ := hrel
    have hbs := hbel.size
    by_cases hlt : k < s.size
    · have hat := Lib.hid (fieldsAt_cons s k false out hlt)
      by_cases h59 : s[k] = 59
      · have c59 : ((s[k].toNat : Int) != 59) = false := by rw [h59]; rfl
        have hw : whiteB s[k] = false := by rw [h59]; decide
        have H59 := Lib.hid h59
        have Hw := Lib.hid hw
        clear h59 hw
        go_wp2
        go_ret2
        exact rfields_done out 0 (by rw [← hqk.out, hat.out, if_neg (by rw [Hw.out]; simp), if_pos H59.out]) (hown.sl elFld_good) rfl hbel
      · have c59 : ((s[k].toNat : Int) != 59) = true := by rw [bne_iff_ne]; exact fun e => h59 (byte_eq 59 e)
        have H59 := Lib.hid h59
        clear h59
        cases hw : whiteB s[k]
        · have Hw := Lib.hid hw
          by_cases h34 : s[k] = 34
          · have c34 : ((s[k].toNat : Int) == 34) = true := by rw [h34]; rfl
            have H34 := Lib.hid h34
            clear h34
            have HL := Lib.hid (quotedAt_len s (k + 1) [] hlt)
            obtain ⟨p, hp⟩ : ∃ p, p = quotedAt s (k + 1) [] := ⟨_, rfl⟩
            have HP := Lib.hid hp
            clear hp
            have hcq : ∀ W, Calls Tryz.prog 111 #[.string s, .int .i64 k] W fun e w' => e = .returned (rqV p) ∧ w' = W := by
              intro W; rw [HP.out]; exact ref_quoted s k W hlt (by omega)
            obtain ⟨px, pn, pb⟩ := p
            have hpl : pn ≤ s.size ∧ (pb = true → k + 2 ≤ pn) := by
              have h1 := HL.out
              rw [← HP.out] at h1
              exact ⟨h1.2.1, h1.2.2⟩
            cases pb
            · have hcq' : ∀ W, Calls Tryz.prog 111 #[.string s, .int .i64 k] W fun e w' => e = .returned (.tuple #[.string ⟨#[]⟩, .int .i64 0, .int .i64 pn]) ∧ W = w' := fun W => (hcq W).mono fun _ _ h => ⟨h.1, h.2.symm⟩
              have HCQ := Lib.hid hcq'
              clear hcq hcq'
              go_wp2_with (first | (go_at_call 110; refine (ref_white _ _).mono ?_; rintro e w' ⟨rfl, rfl⟩) | (go_at_call 111; refine (HCQ.out _).mono ?_; rintro e w2 ⟨rfl, rfl⟩))
              go_ret2
              exact rfields_done [] (pn + 1) (by rw [← hqk.out, hat.out, if_neg (by rw [Hw.out]; simp), if_neg H59.out, if_neg (by simp), if_pos H34.out, ← HP.out]; rfl) (Sl.nil _ _) (by omega) hbel
            · have hpn := hpl.2 rfl
              have hpl1 := hpl.1
              have hcq' : ∀ W, Calls Tryz.prog 111 #[.string s, .int .i64 k] W fun e w' => e = .returned (.tuple #[.string (S px), .int .i64 pn, .int .i64 (-1)]) ∧ W = w' := fun W => (hcq W).mono fun _ _ h => ⟨h.1, h.2.symm⟩
              have HCQ := Lib.hid hcq'
              have hnx : fieldsAt s pn true (out ++ [⟨px, (k : Int) + 1, true⟩]) = q := by
                rw [← hqk.out, hat.out, if_neg (by rw [Hw.out]; simp), if_neg H59.out, if_neg (by simp), if_pos H34.out, ← HP.out]; rfl
              clear hcq hcq' hpl
              by_cases hps : pn < s.size
              · by_cases hn59 : s[pn] = 59
                · have n59 : ((s[pn].toNat : Int) != 59) = false := by rw [hn59]; rfl
                  have hnw : whiteB s[pn] = false := by rw [hn59]; decide
                  rw [fieldsAt_after hps (.inr hn59)] at hnx
                  have HNX := Lib.hid hnx
                  have HNW := Lib.hid hnw
                  clear hn59 hnw hnx
                  go_wp2_with (first | (have _t := tokW; go_at_call 110; refine (ref_white _ _).mono ?_; rintro e w' ⟨rfl, rfl⟩; rw [HNW.out]) | (go_at_call 110; refine (ref_white _ _).mono ?_; rintro e w' ⟨rfl, rfl⟩; rw [Hw.out]; have tokW : True := trivial) | (go_at_call 111; refine (HCQ.out _).mono ?_; rintro e w2 ⟨rfl, rfl⟩) | (at_builtin; refine wpList_append_sl _ rfl (.tmp 59) (.tmp 64) _ rfl E_fld elFld_good w.heap.size _ out rfl (hown.alloc elFld_good _) ⟨wr.heap.size, 0, none⟩ 1 [.string (S px), .int .i64 ((k : Int) + 1), .bool true] rfl ⟨px, (k : Int) + 1, true⟩ rfl (cells_new _ _ _ _) (oneCells rfl) rfl (by simp only [maxLen]; omega) (by omega) (by simp; omega) ?_; intro v1 w1 hown1 hg1 hat1))
                  have hb1 := below_own (hbel.alloc hbs _) (hown.alloc elFld_good _) hg1 (Nat.le_refl _) (by simp; omega)
                  go_roundw
                  case rel => exact ⟨pn, _, hpl1, rfl, hown1, by simp; omega, HNX.out, hb1⟩
                  case measure => simp [intOf]; omega
                · have n59 : ((s[pn].toNat : Int) != 59) = true := by rw [bne_iff_ne]; exact fun e => hn59 (byte_eq 59 e)
                  cases hnw : whiteB s[pn]
                  · have HN := Lib.hid (fieldsAt_stop (out := out ++ [⟨px, (k : Int) + 1, true⟩]) hps hnw hn59)
                    have HNX := Lib.hid hnx
                    have HNW := Lib.hid hnw
                    clear hn59 hnx
                    go_wp2_with (first | (have _t := tokW; go_at_call 110; refine (ref_white _ _).mono ?_; rintro e w' ⟨rfl, rfl⟩; rw [HNW.out]) | (go_at_call 110; refine (ref_white _ _).mono ?_; rintro e w' ⟨rfl, rfl⟩; rw [Hw.out]; have tokW : True := trivial) | (go_at_call 111; refine (HCQ.out _).mono ?_; rintro e w2 ⟨rfl, rfl⟩))
                    go_ret2
                    exact rfields_done [] (pn + 1) (by rw [← HNX.out, HN.out]) (Sl.nil _ _) (by omega) hbel
                  · rw [fieldsAt_after hps (.inl hnw)] at hnx
                    have HNX := Lib.hid hnx
                    have HNW := Lib.hid hnw
                    clear hn59 hnx
                    go_wp2_with (first | (have _t := tokW; go_at_call 110; refine (ref_white _ _).mono ?_; rintro e w' ⟨rfl, rfl⟩; rw [HNW.out]) | (go_at_call 110; refine (ref_white _ _).mono ?_; rintro e w' ⟨rfl, rfl⟩; rw [Hw.out]; have tokW : True := trivial) | (go_at_call 111; refine (HCQ.out _).mono ?_; rintro e w2 ⟨rfl, rfl⟩) | (at_builtin; refine wpList_append_sl _ rfl (.tmp 59) (.tmp 64) _ rfl E_fld elFld_good w.heap.size _ out rfl (hown.alloc elFld_good _) ⟨wr.heap.size, 0, none⟩ 1 [.string (S px), .int .i64 ((k : Int) + 1), .bool true] rfl ⟨px, (k : Int) + 1, true⟩ rfl (cells_new _ _ _ _) (oneCells rfl) rfl (by simp only [maxLen]; omega) (by omega) (by simp; omega) ?_; intro v1 w1 hown1 hg1 hat1))
                    have hb1 := below_own (hbel.alloc hbs _) (hown.alloc elFld_good _) hg1 (Nat.le_refl _) (by simp; omega)
                    go_roundw
                    case rel => exact ⟨pn, _, hpl1, rfl, hown1, by simp; omega, HNX.out, hb1⟩
                    case measure => simp [intOf]; omega
              · have hpe : fieldsAt s pn true (out ++ [⟨px, (k : Int) + 1, true⟩]) = fieldsAt s pn false (out ++ [⟨px, (k : Int) + 1, true⟩]) := by rw [fieldsAt_end s pn true _ (by omega), fieldsAt_end s pn false _ (by omega)]
                rw [hpe] at hnx
                have HNX := Lib.hid hnx
                clear hnx hpe
                go_wp2_with (first | (go_at_call 110; refine (ref_white _ _).mono ?_; rintro e w' ⟨rfl, rfl⟩; rw [Hw.out]) | (go_at_call 111; refine (HCQ.out _).mono ?_; rintro e w2 ⟨rfl, rfl⟩) | (at_builtin; refine wpList_append_sl _ rfl (.tmp 59) (.tmp 64) _ rfl E_fld elFld_good w.heap.size _ out rfl (hown.alloc elFld_good _) ⟨wr.heap.size, 0, none⟩ 1 [.string (S px), .int .i64 ((k : Int) + 1), .bool true] rfl ⟨px, (k : Int) + 1, true⟩ rfl (cells_new _ _ _ _) (oneCells rfl) rfl (by simp only [maxLen]; omega) (by omega) (by simp; omega) ?_; intro v1 w1 hown1 hg1 hat1))
                have hb1 := below_own (hbel.alloc hbs _) (hown.alloc elFld_good _) hg1 (Nat.le_refl _) (by simp; omega)
                go_roundw
                case rel => exact ⟨pn, _, hpl1, rfl, hown1, by simp; omega, HNX.out, hb1⟩
                case measure => simp [intOf]; omega
          · have c34 : ((s[k].toNat : Int) == 34) = false := beq_eq_false_iff_ne.2 fun e => h34 (byte_eq 34 e)
            have H34 := Lib.hid h34
            clear h34
            go_wp2_with (go_at_call 110; refine (ref_white _ _).mono ?_; rintro e w' ⟨rfl, rfl⟩; rw [Hw.out])
            go_loop [5] (fun x => ∃ j : Nat, k ≤ j ∧ j ≤ s.size ∧ x = .int .i64 j ∧ Hid (j - k ≤ wordLen s k)) (fun x => s.size - (intOf x).toNat)
            case atStart => exact ⟨k, Nat.le_refl _, hk, rfl, by unfold Hid; omega⟩
            case round =>
              obtain ⟨j, hkj, hjs, rfl, hjw⟩ := hrel
              by_cases hjl : j < s.size
              · cases hwb : wordB s[j]
                · have hst := Lib.hid (word_stop s k j hkj hjl hjw.out hwb)
                  have hhd := Lib.hid ((head_drop s j).trans (dif_pos hjl))
                  have HWB := Lib.hid hwb
                  have hj0 := Lib.hid (wordLen_zero hjl hwb)
                  clear hwb
                  by_cases hsp : whiteB s[j] = true ∨ s[j] = 59
                  · have hjk : ¬ j = k := by
                      rintro rfl
                      rcases hsp with h | h
                      · have hw2 := Hw.out; rw [h] at hw2; cases hw2
                      · exact H59.out h
                    have hj34 : s[j] ≠ 34 := by
                      rcases hsp with h | h
                      · intro e; rw [e] at h; revert h; decide
                      · rw [h]; decide
                    have hnx : fieldsAt s j false (out ++ [⟨(s.extract k j).data.toList, (k : Int) + 1, false⟩]) = q := by
                      rw [← hqk.out, fieldsAt_word s k out j hlt Hw.out H59.out H34.out hst.out hjk (by rw [hhd.out]; exact fun e => hj34 (Option.some.inj e)), word_text s k j hst.out]
                    have HNX := Lib.hid hnx
                    have hkj' : k < j := by omega
                    have hn59 : s[j] = 59 ∨ s[j] ≠ 59 := Classical.em _
                    clear hnx hj34 hjk
                    cases hwj : whiteB s[j]
                    · have h59j : s[j] = 59 := by
                        rcases hsp with h | h
                        · rw [hwj] at h; cases h
                        · exact h
                      have n59 : ((s[j].toNat : Int) != 59) = false := by rw [h59j]; rfl
                      have HWJ := Lib.hid hwj
                      clear hsp hn59 h59j
                      go_wp2_with (first | (go_at_call 110; refine (ref_white _ _).mono ?_; rintro e w' ⟨rfl, rfl⟩; rw [HWJ.out]) | (go_at_call 112; refine (ref_wordByte _ _).mono ?_; rintro e w' ⟨rfl, rfl⟩; rw [HWB.out]) | (at_builtin; refine wpList_append_sl _ rfl (.tmp 97) (.tmp 105) _ rfl E_fld elFld_good w.heap.size _ out rfl (hown.alloc elFld_good _) ⟨wr.heap.size, 0, none⟩ 1 [.string (s.extract k j), .int .i64 ((k : Int) + 1), .bool false] rfl ⟨(s.extract k j).data.toList, (k : Int) + 1, false⟩ rfl (cells_new _ _ _ _) (oneCells rfl) rfl (by simp only [maxLen]; omega) (by omega) (by simp; omega) ?_; intro v1 w1 hown1 hg1 hat1))
                      have hb1 := below_own (hbel.alloc hbs _) (hown.alloc elFld_good _) hg1 (Nat.le_refl _) (by simp; omega)
                      go_roundw
                      case rel => exact ⟨j, _, hjs, rfl, hown1, by simp; omega, HNX.out, hb1⟩
                      case measure => simp [intOf]; omega
                    · have HWJ := Lib.hid hwj
                      clear hsp hn59
                      go_wp2_with (first | (go_at_call 110; refine (ref_white _ _).mono ?_; rintro e w' ⟨rfl, rfl⟩; rw [HWJ.out]) | (go_at_call 112; refine (ref_wordByte _ _).mono ?_; rintro e w' ⟨rfl, rfl⟩; rw [HWB.out]) | (at_builtin; refine wpList_append_sl _ rfl (.tmp 97) (.tmp 105) _ rfl E_fld elFld_good w.heap.size _ out rfl (hown.alloc elFld_good _) ⟨wr.heap.size, 0, none⟩ 1 [.string (s.extract k j), .int .i64 ((k : Int) + 1), .bool false] rfl ⟨(s.extract k j).data.toList, (k : Int) + 1, false⟩ rfl (cells_new _ _ _ _) (oneCells rfl) rfl (by simp only [maxLen]; omega) (by omega) (by simp; omega) ?_; intro v1 w1 hown1 hg1 hat1))
                      have hb1 := below_own (hbel.alloc hbs _) (hown.alloc elFld_good _) hg1 (Nat.le_refl _) (by simp; omega)
                      go_roundw
                      case rel => exact ⟨j, _, hjs, rfl, hown1, by simp; omega, HNX.out, hb1⟩
                      case measure => simp [intOf]; omega
                  · have hw2 : whiteB s[j] = false := by rw [Bool.eq_false_iff]; exact fun h => hsp (.inl h)
                    have h592 : s[j] ≠ 59 := fun h => hsp (.inr h)
                    have n59 : ((s[j].toNat : Int) != 59) = true := by rw [bne_iff_ne]; exact fun e => h592 (byte_eq 59 e)
                    have hfin : q = ([], j + 1) := by
                      by_cases hb : j = k ∨ s[j] = 34
                      · rw [← hqk.out]
                        refine fieldsAt_word_bad s k out j hlt Hw.out H59.out H34.out hst.out ?_
                        rcases hb with hb | hb
                        · exact .inl hb
                        · exact .inr (by rw [hhd.out, hb])
                      · have hjk : ¬ j = k := fun h => hb (.inl h)
                        have hj34 : s[j] ≠ 34 := fun h => hb (.inr h)
                        rw [← hqk.out, fieldsAt_word s k out j hlt Hw.out H59.out H34.out hst.out hjk (by rw [hhd.out]; exact fun e => hj34 (Option.some.inj e))]
                        exact fieldsAt_word_bad s j _ j hjl hw2 h592 hj34 hj0.out (.inl rfl)
                    have HF := Lib.hid hfin
                    have HWJ := Lib.hid hw2
                    clear hfin hw2 h592 hsp
                    go_wp2_with (first | (go_at_call 110; refine (ref_white _ _).mono ?_; rintro e w' ⟨rfl, rfl⟩; rw [HWJ.out]) | (go_at_call 112; refine (ref_wordByte _ _).mono ?_; rintro e w' ⟨rfl, rfl⟩; rw [HWB.out]))
                    go_ret2
                    exact rfields_done [] (j + 1) HF.out (Sl.nil _ _) (by omega) hbel
                · have hnx := Lib.hid (word_next s k j hkj hjl hjw.out hwb)
                  have HWB := Lib.hid hwb
                  clear hwb
                  go_wp2_with (go_at_call 112; refine (ref_wordByte _ _).mono ?_; rintro e w' ⟨rfl, rfl⟩; rw [HWB.out])
                  go_round
                  case rel => exact ⟨j + 1, by omega, by omega, by go_num, hnx.out⟩
                  case measure => simp [intOf]; omega
              · obtain rfl : j = s.size := by omega
                have hst := Lib.hid (word_full s k hk hjw.out)
                have hhd := Lib.hid ((head_drop s s.size).trans (dif_neg (by omega)))
                have hnx : fieldsAt s s.size false (out ++ [⟨(s.extract k s.size).data.toList, (k : Int) + 1, false⟩]) = q := by
                  rw [← hqk.out, fieldsAt_word s k out s.size hlt Hw.out H59.out H34.out hst.out (by omega) (by rw [hhd.out]; simp), word_text s k s.size hst.out]
                have HNX := Lib.hid hnx
                clear hnx
                go_wp2_with (at_builtin; refine wpList_append_sl _ rfl (.tmp 97) (.tmp 105) _ rfl E_fld elFld_good w.heap.size _ out rfl (hown.alloc elFld_good _) ⟨wr.heap.size, 0, none⟩ 1 [.string (s.extract k s.size), .int .i64 ((k : Int) + 1), .bool false] rfl ⟨(s.extract k s.size).data.toList, (k : Int) + 1, false⟩ rfl (cells_new _ _ _ _) (oneCells rfl) rfl (by simp only [maxLen]; omega) (by omega) (by simp; omega) ?_; intro v1 w1 hown1 hg1 hat1)
                have hb1 := below_own (hbel.alloc hbs _) (hown.alloc elFld_good _) hg1 (Nat.le_refl _) (by simp; omega)
                go_roundw
                case rel => exact ⟨s.size, _, Nat.le_refl _, rfl, hown1, by simp; omega, HNX.out, hb1⟩
                case measure => simp [intOf]; omega
        · have Hw := Lib.hid hw
          go_wp2_with (go_at_call 110; refine (ref_white _ _).mono ?_; rintro e w' ⟨rfl, rfl⟩; rw [Hw.out])
          go_roundw
          case rel => exact ⟨k + 1, out, by omega, by go_num, hown, by omega, by unfold Hid; rw [← hqk.out, hat.out, if_pos Hw.out], hbel⟩
          case measure => simp [intOf]; omega
    · go_wp2
      go_ret2
      exact rfields_done out 0 (by rw [← hqk.out, fieldsAt_end s k false out (by omega)]) (hown.sl elFld_good) rfl hbel
end Go.Proofs.YtglkejlimeakbaaGreatDoor

namespace Go.Proofs.YtglkejlimeakbaaGreatDoor

def stepU (p : List UInt8) (n : Int) (out : List Lin) (ds : List Dia) : List Lin × List Dia :=
  if 1000 < p.length then (out, ds ++ [⟨n, 1001, 9⟩])
  else if (fieldsS p).2 ≠ 0 then (out, ds ++ [⟨n, (fieldsS p).2, 4⟩])
  else if (fieldsS p).1 ≠ [] then (out ++ [⟨n, (fieldsS p).1⟩], ds) else (out, ds)
def splitU : List (List UInt8) → Int → List Lin → List Dia → List Lin × List Dia
  | [], _, out, ds => (out, ds)
  | p :: ps, n, out, ds => splitU ps (n + 1) (stepU p n out ds).1 (stepU p n out ds).2
theorem take50 (ds : List Dia) (x : Dia) : (if (ds.take 50).length < 50 then ds.take 50 ++ [x] else ds.take 50) = (ds ++ [x]).take 50 := by
  by_cases h : ds.length < 50
  · rw [List.take_of_length_le (by omega), if_pos h, List.take_of_length_le (by simp; omega)]
  · rw [if_neg (by simp; omega), List.take_append_of_le_length (by omega)]
theorem splitF_U : ∀ (ps : List (List UInt8)) (n : Int) (out : List Lin) (ds : List Dia), splitF ps n out (ds.take 50) = ((splitU ps n out ds).1, (splitU ps n out ds).2.take 50) := by
  intro ps
  induction ps with
  | nil => intro n out ds; rfl
  | cons p ps ih =>
    intro n out ds
    rw [splitF, splitU]
    unfold stepU
    split
    · rw [take50, ih]
    · split
      · rw [take50, ih]
      · split
        · rw [ih]
        · rw [ih]
theorem splitS_U {l : List UInt8} (h : ¬ 262144 < l.length) : splitS l = ((splitU (pieces 10 l) 1 [] []).1, (splitU (pieces 10 l) 1 [] []).2.take 50) := by
  unfold splitS
  rw [if_neg h]
  exact splitF_U _ 1 [] []
theorem pieces_none : ∀ (l : List UInt8), (10 : UInt8) ∉ l → pieces 10 l = [l] := by
  intro l
  induction l with
  | nil => intro _; rfl
  | cons b l ih =>
    intro h
    rw [pieces, if_neg (fun e => h (by simp [e])), ih (fun hm => h (by simp [hm]))]
/-- Where the loop over the bytes of a source stands: index k, the line began at st. -/
def SpInv (s : ByteArray) (k st : Nat) (n : Int) (out : List Lin) (ds : List Dia) (res : List Lin × List Dia) : Prop :=
  (k ≤ s.size ∧ st ≤ k ∧ (∀ j (h : j < s.size), st ≤ j → j < k → s[j] ≠ 10) ∧ splitU (pieces 10 (s.data.toList.drop st)) n out ds = res) ∨ (k = s.size + 1 ∧ (out, ds) = res)
theorem SpInv.start (s : ByteArray) : SpInv s 0 0 1 [] [] (splitU (pieces 10 s.data.toList) 1 [] []) := .inl ⟨Nat.zero_le _, Nat.le_refl _, fun j _ _ h => absurd h (by omega), rfl⟩
theorem SpInv.next {s : ByteArray} {k st : Nat} {n : Int} {out : List Lin} {ds : List Dia} {res : List Lin × List Dia} (h : SpInv s k st n out ds res) (hk : k < s.size) (hc : s[k] ≠ 10) : SpInv s (k + 1) st n out ds res := by
  rcases h with ⟨_, h2, h3, h4⟩ | ⟨h1, _⟩
  · refine .inl ⟨hk, by omega, fun j hj h5 h6 => ?_, h4⟩
    by_cases e : j = k
    · subst e; exact hc
    · exact h3 j hj h5 (by omega)
  · omega
theorem SpInv.line {s : ByteArray} {k st : Nat} {n : Int} {out : List Lin} {ds : List Dia} {res : List Lin × List Dia} (h : SpInv s k st n out ds res) (hk : k ≤ s.size) (hc : k = s.size ∨ ∃ h : k < s.size, s[k] = 10) :
    st ≤ k ∧ SpInv s (k + 1) (k + 1) (n + 1) (stepU (s.extract st k).data.toList n out ds).1 (stepU (s.extract st k).data.toList n out ds).2 res := by
  rcases h with ⟨_, h2, h3, h4⟩ | ⟨h1, _⟩
  · refine ⟨h2, ?_⟩
    have hx : (s.extract st k).data.toList = (s.data.toList.drop st).take (k - st) := by rw [Lib.extract_data]
    have hno : (10 : UInt8) ∉ (s.extract st k).data.toList := by
      rw [hx]
      intro hm
      obtain ⟨i, hi⟩ := List.mem_iff_getElem?.1 hm
      have hlt := (List.getElem?_eq_some_iff.1 hi).1
      rw [List.getElem?_take] at hi
      split at hi
      · rename_i hik
        rw [List.getElem?_drop] at hi
        have hsz : st + i < s.size := by omega
        have := h3 (st + i) hsz (by omega) (by omega)
        have e : s.data.toList[st + i]? = some s[st + i] := by
          rw [List.getElem?_eq_getElem (by simpa using hsz)]; rfl
        rw [e] at hi
        exact this (Option.some.inj hi)
      · cases hi
    by_cases hke : k = s.size
    · right
      refine ⟨by omega, ?_⟩
      have hall : (s.extract st k).data.toList = s.data.toList.drop st := by rw [hx, List.take_of_length_le (by simp; omega)]
      rw [hall] at hno ⊢
      rw [pieces_none _ hno, splitU, splitU] at h4
      exact h4
    · rcases hc with hc | ⟨hlt, hc⟩
      · exact absurd hc hke
      · left
        refine ⟨by omega, Nat.le_refl _, fun j _ h5 h6 => by omega, ?_⟩
        have hsp : s.data.toList.drop st = (s.extract st k).data.toList ++ 10 :: s.data.toList.drop (k + 1) := by
          rw [hx]
          have e1 : (s.data.toList.drop st).drop (k - st) = 10 :: s.data.toList.drop (k + 1) := by
            rw [List.drop_drop, show st + (k - st) = k from by omega, drop_cons s k hlt, hc]
          rw [← e1, List.take_append_drop]
        rw [hsp, pieces_line _ _ hno, splitU] at h4
        exact h4
  · omega
theorem SpInv.done {s : ByteArray} {k st : Nat} {n : Int} {out : List Lin} {ds : List Dia} {res : List Lin × List Dia} (h : SpInv s k st n out ds res) (hk : s.size < k) : (out, ds) = res := by
  rcases h with ⟨h1, _⟩ | ⟨_, h⟩
  · omega
  · exact h
end Go.Proofs.YtglkejlimeakbaaGreatDoor
