/- The contract of the reference's Number. -/
import Derived.Test.YtoeeodemimndlaaGreatDoorT1
import Derived.IntWalk
import Derived.Test.YtoeeodemimndlaaGreatDoorP34
set_option linter.unusedSimpArgs false
set_option linter.unusedVariables false
namespace Go.Proofs.YtoeeodemimndlaaGreatDoor
section

theorem dec_of {l : List UInt8} (h0 : (bodyD l).isEmpty = false) (h1 : ((bodyD l).head? == some 48 && !(l == [48])) = false) (h2 : (bodyD l).all digB = true) : decB l = true := by unfold decB; rw [h0, h1, h2]; rfl
theorem dec_not {l : List UInt8} (h2 : (bodyD l).all digB = false) : decB l = false := by unfold decB; rw [h2, Bool.and_false]
theorem dec_empty {l : List UInt8} (h0 : (bodyD l).isEmpty = true) : decB l = false := by unfold decB; rw [h0]; simp
theorem dec_zero {l : List UInt8} (h1 : ((bodyD l).head? == some 48 && !(l == [48])) = true) : decB l = false := by unfold decB; rw [h1]; simp
theorem number_form {l : List UInt8} (lo hi : Int) (h : decB l = false) : numberS l lo hi = (0, 4) := by unfold numberS; rw [if_pos h]
theorem number_big {l : List UInt8} {n : Int} {big : Bool} (lo hi : Int) (h0 : (bodyD l).isEmpty = false) (h1 : ((bodyD l).head? == some 48 && !(l == [48])) = false) (h : NumInv (bodyD l) (bodyD l).length n big)
    (hb : big = true ∨ 9223372036854775808 < n ∨ (n = 9223372036854775808 ∧ negB l = false)) : numberS l lo hi = (0, 2) := by
  obtain ⟨a1, a2, a3⟩ := h.fin
  unfold numberS
  rw [if_neg (by rw [dec_of h0 h1 a1]; simp), if_neg ?_]
  intro hf
  have hf1 := hf.1
  unfold fitB valI at hf1
  simp only [Bool.and_eq_true, decide_eq_true_eq] at hf1
  cases hn : negB l
  · rw [hn, if_neg (by simp)] at hf1
    cases big with
    | true => have := a2 rfl; omega
    | false =>
      have := a3 rfl
      rcases hb with hb | hb | hb
      · cases hb
      · omega
      · omega
  · rw [hn, if_pos rfl] at hf1
    cases big with
    | true => have := a2 rfl; omega
    | false =>
      have := a3 rfl
      rcases hb with hb | hb | hb
      · cases hb
      · omega
      · rw [hn] at hb; exact absurd hb.2 (by simp)
theorem number_ok {l : List UInt8} {n v : Int} {big : Bool} (lo hi : Int) (h0 : (bodyD l).isEmpty = false) (h1 : ((bodyD l).head? == some 48 && !(l == [48])) = false) (h : NumInv (bodyD l) (bodyD l).length n big)
    (hb : big = false) (hn : n ≤ 9223372036854775808) (hn2 : negB l = false → n < 9223372036854775808) (hv : v = if negB l = true then -n else n) : numberS l lo hi = if lo ≤ v ∧ v ≤ hi then (v, 0) else (0, 2) := by
  obtain ⟨a1, a2, a3⟩ := h.fin
  have hz := a3 hb
  have hge := h.2.1
  have hvi : valI l = v := by unfold valI; rw [hv, hz]
  have hf : fitB v = true := by
    unfold fitB
    simp only [Bool.and_eq_true, decide_eq_true_eq]
    rw [hv]
    cases hne : negB l
    · rw [if_neg (by simp)]; have := hn2 hne; omega
    · rw [if_pos rfl]; omega
  unfold numberS
  rw [if_neg (by rw [dec_of h0 h1 a1]; simp), hvi, hf]
  simp
/-- The test on a leading zero. -/
theorem zero_eq {l : List UInt8} (h : bodyD l ≠ []) : ((bodyD l).head? == some 48 && (negB l || decide (1 < (bodyD l).length))) = ((bodyD l).head? == some 48 && !(l == [48])) := by
  cases hn : negB l
  · have hb : bodyD l = l := by unfold bodyD; rw [hn, if_neg (by simp)]
    rw [hb] at h ⊢
    match l, h with
    | [a], _ =>
      by_cases ha : a = 48
      · subst ha; rfl
      · simp [ha]
    | a :: b :: r, _ => simp
  · have : (l == [48]) = false := by
      match l, hn with
      | a :: r, hn =>
        unfold negB at hn
        simp at hn
        subst hn
        simp
    rw [this]; rfl
end
open Go.RowKit

theorem isEmptyT' {s : ByteArray} (h : s.size = 0) : s.toList.isEmpty = true := by rw [ByteArray.toList_eq, List.isEmpty_iff, ← List.length_eq_zero_iff]; simpa using h
theorem isEmptyF' {s : ByteArray} (h : s.size ≠ 0) : s.toList.isEmpty = false := by rw [Bool.eq_false_iff]; intro h'; rw [ByteArray.toList_eq, List.isEmpty_iff, ← List.length_eq_zero_iff] at h'; exact h (by simpa using h')
theorem drop_one_bytes (s : ByteArray) : (s.extract 1 s.size).data.toList = s.data.toList.drop 1 := by
  rw [ByteArray.data_extract, Array.toList_extract]
  simp [List.take_of_length_le]
theorem byte_eqn {c : UInt8} {n : Nat} (hn : n < 256) : (((c.toNat : Int) == (n : Int)) = true) ↔ c = UInt8.ofNat n := by
  rw [beq_iff_eq]
  constructor
  · intro h; exact UInt8.toNat_inj.1 (by rw [UInt8.toNat_ofNat_of_lt' hn]; omega)
  · rintro rfl; rw [UInt8.toNat_ofNat_of_lt' hn]
theorem head_data {s : ByteArray} (h : 0 < s.size) : s.data.toList.head? = some s[0] := by
  have hl : 0 < s.data.toList.length := by simpa using h
  rw [List.head?_eq_getElem?, List.getElem?_eq_getElem hl]; rfl
theorem u64_lo (x : Int) : 0 ≤ IntKind.u64.wrap x := by simp [IntKind.wrap, IntKind.bits, IntKind.signed]; omega
theorem u64_hi (x : Int) : IntKind.u64.wrap x < 18446744073709551616 := by simp [IntKind.wrap, IntKind.bits, IntKind.signed]; omega
theorem NumInv.bd {d : List UInt8} {k : Nat} {n : Int} {big : Bool} (h : NumInv d k n big) : 0 ≤ n ∧ n < 18446744073709551616 := ⟨h.2.1, h.2.2.1⟩

set_option maxRecDepth 100000 in
set_option maxHeartbeats 4000000 in
theorem ref_Number_neg (s d : ByteArray) (lo hi : Int) (w : World) (hs : 0 < s.size) (hds : d.size ≤ 9223372036854775807) (hx : s.extract 1 s.size = d) (z : Int × Int) (hz : z = numberS s.data.toList lo hi) (hb : bodyD s.data.toList = d.data.toList) (hn : negB s.data.toList = true)
    (e1 : ((s[0].toNat : Int) == 45) = true) (hd0 : 0 < d.size) (e3 : ((d[0].toNat : Int) == 48) = false) (h0 : (bodyD s.data.toList).isEmpty = false) (h1 : ((bodyD s.data.toList).head? == some 48 && !(s.data.toList == [48])) = false) :
    Calls Tryz.prog 72 #[.string s, .int .i64 lo, .int .i64 hi] w fun e w' => e = .returned (.tuple #[.int .i64 z.1, .int .i64 z.2]) ∧ Below w.heap.size w w' := by
  have HZ := Lib.hid hz
  have HB := Lib.hid hb
  have HN := Lib.hid hn
  have H0 := Lib.hid h0
  have H1 := Lib.hid h1
  have e0 : s.toList.isEmpty = false := isEmptyF' (by omega)
  have e2 : d.toList.isEmpty = false := isEmptyF' (by omega)
  clear hz hb hn h0 h1
  have hl1 : d.size ≤ 9223372036854775807 := hds
  go_enter Tryz.func72, Tryz.ntmps72
  go_wp2
  go_loop [10, 11, 12] (fun nv bv i => ∃ (k : Nat) (n : Int) (big : Bool), k ≤ d.size ∧ i = .int .i64 k ∧ nv = .int .u64 n ∧ bv = .bool big ∧ Hid (NumInv d.data.toList k n big)) (fun _ _ i => d.size - (intOf i).toNat)
  case atStart => exact ⟨0, 0, false, Nat.zero_le _, rfl, rfl, rfl, Lib.hid (NumInv.start _)⟩
  case round =>
    obtain ⟨k, n, big, hk, rfl, rfl, rfl, HI⟩ := hrel
    obtain ⟨hn0, hn1⟩ := HI.out.bd
    by_cases hlt : k < d.size
    · have hkl : k < d.data.toList.length := by simpa using hlt
      have hde : d.data.toList[k] = d[k] := rfl
      have hdb : digB d.data.toList[k] = digB d[k] := rfl
      obtain ⟨c, hc⟩ : ∃ c, c = d[k] := ⟨_, rfl⟩
      cases hd : digB c
      · have HF := Lib.hid (number_form lo hi (dec_not (l := s.data.toList) (by rw [HB.out]; exact NumInv.not_digit hkl (by rw [hde, ← hc]; exact hd))))
        have hdd : ((c.toNat : Int) < 48) ∨ (¬ ((c.toNat : Int) < 48) ∧ (57 < (c.toNat : Int))) := by
          have : ¬ (48 ≤ c.toNat ∧ c.toNat ≤ 57) := fun h => by rw [(digB_iff _).2 h] at hd; cases hd
          omega
        clear hd hde hdb
        rw [hc] at hdd
        clear hc
        rcases hdd with hdd | ⟨hdd, hdd2⟩
        all_goals
          go_wp2
          go_ret2
          exact ⟨by rw [HZ.out, HF.out] <;> rfl, Below.refl _ _⟩
      · have hdd := (digB_iff _).1 hd
        have hc0 : ¬ ((c.toNat : Int) < 48) := by omega
        have hc1 : ¬ (57 < (c.toNat : Int)) := by omega
        rw [hc] at hc0 hc1
        have HD := Lib.hid (show digB d.data.toList[k] = true by rw [hde, ← hc]; exact hd)
        clear hd hdd hde hdb hc
        by_cases hg : 1152921504606846976 < n
        · go_wp2
          go_round
          case rel => exact ⟨k + 1, _, _, by omega, by go_num, rfl, rfl, Lib.hid (HI.out.next hkl HD.out (u64_lo _) (u64_hi _) (by simp [hg]) (fun h => absurd h (by omega)))⟩
          case measure => simp [intOf]; omega
        · go_wp2
          go_round
          case rel => exact ⟨k + 1, _, _, by omega, by go_num, rfl, rfl, Lib.hid (HI.out.next hkl HD.out (by omega) (by have := UInt8.toNat_lt d[k]; omega) (by simp [hg]) (fun _ => rfl))⟩
          case measure => simp [intOf]; omega
    · obtain rfl : k = d.size := by omega
      have HIN := Lib.hid (show NumInv (bodyD s.data.toList) (bodyD s.data.toList).length n big by rw [HB.out, show d.data.toList.length = d.size by simp]; exact HI.out)
      clear hlt hk
      cases big
      · by_cases h63 : 9223372036854775808 < n
        · have HF := Lib.hid (number_big lo hi H0.out H1.out HIN.out (.inr (.inl h63)))
          go_wp2
          go_ret2
          exact ⟨by rw [HZ.out, HF.out] <;> rfl, Below.refl _ _⟩
        · have hle : n ≤ 9223372036854775808 := by omega
          obtain ⟨v, hv⟩ : ∃ v : Int, v = -n := ⟨_, rfl⟩
          have HF := Lib.hid (number_ok lo hi H0.out H1.out HIN.out rfl hle (fun h => by rw [HN.out] at h; cases h) (v := v) (by rw [HN.out, if_pos rfl]; exact hv))
          have w1 : ∃ u : Int, IntKind.i64.wrap n = u ∧ IntKind.i64.wrap (-u) = v := by
            refine ⟨_, rfl, ?_⟩
            subst hv
            by_cases he : n = 9223372036854775808
            · subst he; decide
            · rw [IntWalk.i64_in n (by omega), IntWalk.i64_in _ (by omega)]
          obtain ⟨u, hu, huv⟩ := w1
          clear hv
          rcases (show (n == (9223372036854775808 : Int)) = true ∨ (n == (9223372036854775808 : Int)) = false by cases (n == (9223372036854775808 : Int)) <;> simp) with e9 | e9
          all_goals
            by_cases hlo : v < lo
            · go_wp2
              go_ret2
              exact ⟨by rw [HZ.out, HF.out, if_neg (by omega)] <;> rfl, Below.refl _ _⟩
            · by_cases hhi : hi < v
              · go_wp2
                go_ret2
                exact ⟨by rw [HZ.out, HF.out, if_neg (by omega)] <;> rfl, Below.refl _ _⟩
              · go_wp2
                go_ret2
                exact ⟨by rw [HZ.out, HF.out, if_pos (by omega)] <;> rfl, Below.refl _ _⟩
      · have HF := Lib.hid (number_big lo hi H0.out H1.out HIN.out (.inl rfl))
        go_wp2
        go_ret2
        exact ⟨by rw [HZ.out, HF.out] <;> rfl, Below.refl _ _⟩

set_option maxRecDepth 100000 in
set_option maxHeartbeats 4000000 in
theorem ref_Number_pos (s d : ByteArray) (hsd : s = d) (lo hi : Int) (w : World) (hds : d.size ≤ 9223372036854775807) (z : Int × Int) (hz : z = numberS d.data.toList lo hi) (hn : negB d.data.toList = false) (hd0 : 0 < d.size)
    (e1 : ((d[0].toNat : Int) == 45) = false) (e3 : ((d[0].toNat : Int) == 48) = false ∨ (((d[0].toNat : Int) == 48) = true ∧ d.size = 1)) (h0 : (bodyD s.data.toList).isEmpty = false) (h1 : ((bodyD s.data.toList).head? == some 48 && !(s.data.toList == [48])) = false) :
    Calls Tryz.prog 72 #[.string d, .int .i64 lo, .int .i64 hi] w fun e w' => e = .returned (.tuple #[.int .i64 z.1, .int .i64 z.2]) ∧ Below w.heap.size w w' := by
  have HB := Lib.hid (show bodyD s.data.toList = d.data.toList by rw [hsd]; unfold bodyD; rw [hn, if_neg (by simp)])
  have HN := Lib.hid (show negB s.data.toList = false by rw [hsd]; exact hn)
  have HZ := Lib.hid (show z = numberS s.data.toList lo hi by rw [hsd]; exact hz)
  have H0 := Lib.hid h0
  have H1 := Lib.hid h1
  clear hz hn h0 h1
  have e0 : d.toList.isEmpty = false := isEmptyF' (by omega)
  rcases e3 with e3 | ⟨e3, e4⟩
  all_goals (try have e4' : d.size ≤ 1 := by omega); (try clear e4)
  all_goals
    have hl1 : d.size ≤ 9223372036854775807 := hds
    go_enter Tryz.func72, Tryz.ntmps72
    go_wp2
    go_loop [10, 11, 12] (fun nv bv i => ∃ (k : Nat) (n : Int) (big : Bool), k ≤ d.size ∧ i = .int .i64 k ∧ nv = .int .u64 n ∧ bv = .bool big ∧ Hid (NumInv d.data.toList k n big)) (fun _ _ i => d.size - (intOf i).toNat)
    case atStart => exact ⟨0, 0, false, Nat.zero_le _, rfl, rfl, rfl, Lib.hid (NumInv.start _)⟩
    case round =>
      obtain ⟨k, n, big, hk, rfl, rfl, rfl, HI⟩ := hrel
      obtain ⟨hn0, hn1⟩ := HI.out.bd
      by_cases hlt : k < d.size
      · have hkl : k < d.data.toList.length := by simpa using hlt
        have hde : d.data.toList[k] = d[k] := rfl
        have hdb : digB d.data.toList[k] = digB d[k] := rfl
        obtain ⟨c, hc⟩ : ∃ c, c = d[k] := ⟨_, rfl⟩
        cases hd : digB c
        · have HF := Lib.hid (number_form lo hi (dec_not (l := s.data.toList) (by rw [HB.out]; exact NumInv.not_digit hkl (by rw [hde, ← hc]; exact hd))))
          have hdd : ((c.toNat : Int) < 48) ∨ (¬ ((c.toNat : Int) < 48) ∧ (57 < (c.toNat : Int))) := by
            have : ¬ (48 ≤ c.toNat ∧ c.toNat ≤ 57) := fun h => by rw [(digB_iff _).2 h] at hd; cases hd
            omega
          clear hd hde hdb
          rw [hc] at hdd
          clear hc
          rcases hdd with hdd | ⟨hdd, hdd2⟩
          all_goals
            go_wp2
            go_ret2
            exact ⟨by rw [HZ.out, HF.out] <;> rfl, Below.refl _ _⟩
        · have hdd := (digB_iff _).1 hd
          have hc0 : ¬ ((c.toNat : Int) < 48) := by omega
          have hc1 : ¬ (57 < (c.toNat : Int)) := by omega
          rw [hc] at hc0 hc1
          have HD := Lib.hid (show digB d.data.toList[k] = true by rw [hde, ← hc]; exact hd)
          clear hd hdd hde hdb hc
          by_cases hg : 1152921504606846976 < n
          · go_wp2
            go_round
            case rel => exact ⟨k + 1, _, _, by omega, by go_num, rfl, rfl, Lib.hid (HI.out.next hkl HD.out (u64_lo _) (u64_hi _) (by simp [hg]) (fun h => absurd h (by omega)))⟩
            case measure => simp [intOf]; omega
          · go_wp2
            go_round
            case rel => exact ⟨k + 1, _, _, by omega, by go_num, rfl, rfl, Lib.hid (HI.out.next hkl HD.out (by omega) (by have := UInt8.toNat_lt d[k]; omega) (by simp [hg]) (fun _ => rfl))⟩
            case measure => simp [intOf]; omega
      · obtain rfl : k = d.size := by omega
        have HIN := Lib.hid (show NumInv (bodyD s.data.toList) (bodyD s.data.toList).length n big by rw [HB.out, show d.data.toList.length = d.size by simp]; exact HI.out)
        clear hlt hk
        cases big
        · by_cases h63 : 9223372036854775808 < n
          · have HF := Lib.hid (number_big lo hi H0.out H1.out HIN.out (.inr (.inl h63)))
            go_wp2
            go_ret2
            exact ⟨by rw [HZ.out, HF.out] <;> rfl, Below.refl _ _⟩
          · have hle : n ≤ 9223372036854775808 := by omega
            by_cases he : n = 9223372036854775808
            · have HF := Lib.hid (number_big lo hi H0.out H1.out HIN.out (.inr (.inr ⟨he, HN.out⟩)))
              have e9 : (n == 9223372036854775808) = true := by rw [he]; rfl
              clear he
              go_wp2
              go_ret2
              exact ⟨by rw [HZ.out, HF.out] <;> rfl, Below.refl _ _⟩
            · have hlt : n < 9223372036854775808 := by omega
              have e9 : (n == 9223372036854775808) = false := beq_eq_false_iff_ne.2 he
              have HF := Lib.hid (number_ok lo hi H0.out H1.out HIN.out rfl hle (fun _ => hlt) (v := n) (by rw [HN.out, if_neg (by simp)]))
              clear he
              by_cases hlo : n < lo
              · go_wp2
                go_ret2
                exact ⟨by rw [HZ.out, HF.out, if_neg (by omega)] <;> rfl, Below.refl _ _⟩
              · by_cases hhi : hi < n
                · go_wp2
                  go_ret2
                  exact ⟨by rw [HZ.out, HF.out, if_neg (by omega)] <;> rfl, Below.refl _ _⟩
                · go_wp2
                  go_ret2
                  exact ⟨by rw [HZ.out, HF.out, if_pos (by omega)] <;> rfl, Below.refl _ _⟩
        · have HF := Lib.hid (number_big lo hi H0.out H1.out HIN.out (.inl rfl))
          go_wp2
          go_ret2
          exact ⟨by rw [HZ.out, HF.out] <;> rfl, Below.refl _ _⟩

set_option maxRecDepth 100000 in
set_option maxHeartbeats 1000000 in
theorem ref_Number_empty (s : ByteArray) (lo hi : Int) (w : World) (hs : s.size = 0) (z : Int × Int) (hz : z = numberS s.data.toList lo hi) :
    Calls Tryz.prog 72 #[.string s, .int .i64 lo, .int .i64 hi] w fun e w' => e = .returned (.tuple #[.int .i64 z.1, .int .i64 z.2]) ∧ Below w.heap.size w w' := by
  have e0 : s.toList.isEmpty = true := isEmptyT' hs
  have HZ := Lib.hid (show z = (0, 4) by
    rw [hz, number_form lo hi (dec_empty ?_)]
    have : s.data.toList = [] := List.eq_nil_of_length_eq_zero (by simpa using hs)
    rw [this]; rfl)
  clear hz hs
  go_enter Tryz.func72, Tryz.ntmps72
  go_wp2
  go_ret2
  exact ⟨by rw [HZ.out] <;> rfl, Below.refl _ _⟩
set_option maxRecDepth 100000 in
set_option maxHeartbeats 1000000 in
theorem ref_Number_zpos (s : ByteArray) (lo hi : Int) (w : World) (hs : 0 < s.size) (z : Int × Int) (hz : z = (0, 4)) (e1 : ((s[0].toNat : Int) == 45) = false) (e3 : ((s[0].toNat : Int) == 48) = true) (h2 : 1 < s.size) :
    Calls Tryz.prog 72 #[.string s, .int .i64 lo, .int .i64 hi] w fun e w' => e = .returned (.tuple #[.int .i64 z.1, .int .i64 z.2]) ∧ Below w.heap.size w w' := by
  have e0 : s.toList.isEmpty = false := isEmptyF' (by omega)
  have HZ := Lib.hid hz
  clear hz
  go_enter Tryz.func72, Tryz.ntmps72
  go_wp2
  go_ret2
  exact ⟨by rw [HZ.out] <;> rfl, Below.refl _ _⟩
set_option maxRecDepth 100000 in
set_option maxHeartbeats 1000000 in
theorem ref_Number_zneg0 (s d : ByteArray) (lo hi : Int) (w : World) (hs : 0 < s.size) (hx : s.extract 1 s.size = d) (z : Int × Int) (hz : z = (0, 4)) (e1 : ((s[0].toNat : Int) == 45) = true) (hd : d.size = 0) :
    Calls Tryz.prog 72 #[.string s, .int .i64 lo, .int .i64 hi] w fun e w' => e = .returned (.tuple #[.int .i64 z.1, .int .i64 z.2]) ∧ Below w.heap.size w w' := by
  have e0 : s.toList.isEmpty = false := isEmptyF' (by omega)
  have e2 : d.toList.isEmpty = true := isEmptyT' hd
  have HZ := Lib.hid hz
  clear hz hd
  go_enter Tryz.func72, Tryz.ntmps72
  go_wp2
  go_ret2
  exact ⟨by rw [HZ.out] <;> rfl, Below.refl _ _⟩
set_option maxRecDepth 100000 in
set_option maxHeartbeats 1000000 in
theorem ref_Number_zneg (s d : ByteArray) (lo hi : Int) (w : World) (hs : 0 < s.size) (hx : s.extract 1 s.size = d) (z : Int × Int) (hz : z = (0, 4)) (e1 : ((s[0].toNat : Int) == 45) = true) (hd : 0 < d.size) (e3 : ((d[0].toNat : Int) == 48) = true) :
    Calls Tryz.prog 72 #[.string s, .int .i64 lo, .int .i64 hi] w fun e w' => e = .returned (.tuple #[.int .i64 z.1, .int .i64 z.2]) ∧ Below w.heap.size w w' := by
  have e0 : s.toList.isEmpty = false := isEmptyF' (by omega)
  have e2 : d.toList.isEmpty = false := isEmptyF' (by omega)
  have HZ := Lib.hid hz
  clear hz
  go_enter Tryz.func72, Tryz.ntmps72
  go_wp2
  go_ret2
  exact ⟨by rw [HZ.out] <;> rfl, Below.refl _ _⟩
theorem ref_Number (s : ByteArray) (lo hi : Int) (w : World) (hs : s.size ≤ maxLen) :
    Calls Tryz.prog 72 #[.string s, .int .i64 lo, .int .i64 hi] w fun e w' => e = .returned (.tuple #[.int .i64 (numberS s.data.toList lo hi).1, .int .i64 (numberS s.data.toList lo hi).2]) ∧ Below w.heap.size w w' := by
  unfold maxLen at hs
  obtain ⟨z, hz⟩ : ∃ z, z = numberS s.data.toList lo hi := ⟨_, rfl⟩
  rw [← hz]
  have hsl : s.data.toList.length = s.size := by simp
  by_cases hs0 : s.size = 0
  · exact ref_Number_empty s lo hi w hs0 z hz
  · have hs1 : 0 < s.size := Nat.pos_of_ne_zero hs0
    have hh := head_data hs1
    cases hn : negB s.data.toList
    · have hbd : bodyD s.data.toList = s.data.toList := by unfold bodyD; rw [if_neg (by simp [hn])]
      have e1 : ((s[0].toNat : Int) == 45) = false := by
        rw [Bool.eq_false_iff]; intro h
        have h' : ((s[0].toNat : Int) == ((45 : Nat) : Int)) = true := h
        rw [byte_eqn (by omega)] at h'
        unfold negB at hn; rw [hh, h'] at hn; simp at hn
      have h0 : (bodyD s.data.toList).isEmpty = false := by rw [hbd, Bool.eq_false_iff]; intro h; rw [List.isEmpty_iff] at h; rw [h] at hsl; simp at hsl; omega
      have hz2 := zero_eq (l := s.data.toList) (by intro h; rw [h] at h0; simp at h0)
      rw [hbd, hn, Bool.false_or] at hz2
      cases h1 : ((bodyD s.data.toList).head? == some 48 && !(s.data.toList == [48]))
      · rw [hbd] at h1
        rw [h1, hh] at hz2
        refine ref_Number_pos s s rfl lo hi w hs z hz hn hs1 e1 ?_ h0 (by rw [hbd]; exact h1)
        rcases (show ((s[0].toNat : Int) == 48) = true ∨ ((s[0].toNat : Int) == 48) = false by cases ((s[0].toNat : Int) == 48) <;> simp) with e | e
        · have e' : ((s[0].toNat : Int) == ((48 : Nat) : Int)) = true := e
          rw [byte_eqn (by omega)] at e'
          rw [e', hsl] at hz2
          simp at hz2
          exact .inr ⟨e, by omega⟩
        · exact .inl e
      · have hz3 : z = (0, 4) := by rw [hz, number_form lo hi (dec_zero h1)]
        rw [hbd] at h1
        rw [h1, hh, hsl] at hz2
        simp at hz2
        exact ref_Number_zpos s lo hi w hs1 z hz3 e1 (by rw [hz2.1]; rfl) (by omega)
    · have hbd : bodyD s.data.toList = s.data.toList.drop 1 := by unfold bodyD; rw [if_pos hn]
      have e1 : ((s[0].toNat : Int) == 45) = true := by
        unfold negB at hn; rw [hh] at hn; simp at hn; rw [hn]; rfl
      obtain ⟨d, hx⟩ : ∃ d, s.extract 1 s.size = d := ⟨_, rfl⟩
      have hb : bodyD s.data.toList = d.data.toList := by rw [hbd, ← hx, drop_one_bytes]
      have hdl : d.data.toList.length = d.size := by simp
      have hds : d.size ≤ s.size := by rw [← hdl, ← hb, hbd, ← hsl]; simp
      by_cases hd0 : d.size = 0
      · have : d.data.toList = [] := List.eq_nil_of_length_eq_zero (by omega)
        exact ref_Number_zneg0 s d lo hi w hs1 hx z (by rw [hz, number_form lo hi (dec_empty (by rw [hb, this]; rfl))]) e1 hd0
      · have hd1 : 0 < d.size := Nat.pos_of_ne_zero hd0
        have hhd := head_data hd1
        have h0 : (bodyD s.data.toList).isEmpty = false := by rw [hb, Bool.eq_false_iff]; intro h; rw [List.isEmpty_iff] at h; rw [h] at hdl; simp at hdl; omega
        have hz2 := zero_eq (l := s.data.toList) (by intro h; rw [h] at h0; simp at h0)
        rw [hn, Bool.true_or, Bool.and_true, hb, hhd] at hz2
        rcases (show ((d[0].toNat : Int) == 48) = true ∨ ((d[0].toNat : Int) == 48) = false by cases ((d[0].toNat : Int) == 48) <;> simp) with e | e
        · have e' : ((d[0].toNat : Int) == ((48 : Nat) : Int)) = true := e
          rw [byte_eqn (by omega)] at e'
          have h1 : ((bodyD s.data.toList).head? == some 48 && !(s.data.toList == [48])) = true := by rw [hb, hhd, ← hz2, e']; simp
          exact ref_Number_zneg s d lo hi w hs1 hx z (by rw [hz, number_form lo hi (dec_zero h1)]) e1 hd1 e
        · have e' : ¬ (d[0] = 48) := fun h => by rw [h] at e; cases e
          have h1 : ((bodyD s.data.toList).head? == some 48 && !(s.data.toList == [48])) = false := by rw [hb, hhd, ← hz2]; simp [e']
          exact ref_Number_neg s d lo hi w hs1 (by omega) hx z hz hb hn e1 hd1 e h0 h1
end Go.Proofs.YtoeeodemimndlaaGreatDoor
