/- The contracts of numbers (once N2, N3, N5). -/
import Derived.Test.YtfnfbojaiikigaaGreatDoorPP
import Derived.Test.YtfnfbojaiikigaaGreatDoorG2
import Derived.Test.YtfnfbojaiikigaaGreatDoorT7
import Derived.Lib.AtoiErrMem
import Derived.Shelf.Strings.SlTrimAscii
import Derived.Lib.AppendIntMem
import Derived.Lib.Repeat
set_option linter.unusedSimpArgs false
set_option linter.unusedVariables false
namespace Go.Proofs.YtfnfbojaiikigaaGreatDoor
section
/-! part N2 -/
open Go.RowKit

theorem trimPrefix_body (l : List UInt8) : Lib.trimPrefix l [45] = bodyD l := by
  unfold Lib.trimPrefix Lib.hasPrefix bodyD negB
  cases l with
  | nil => rfl
  | cons c r =>
    have : [45].isPrefixOf (c :: r) = (45 == c) := by simp [List.isPrefixOf]
    rw [this]
    by_cases h : c = 45
    · subst h; simp
    · have h1 : ((45 : UInt8) == c) = false := beq_eq_false_iff_ne.2 (Ne.symm h)
      have h2 : ((c :: r).head? == some 45) = false := by simp [h]
      rw [h1, h2]; simp
theorem isEmptyT {s : ByteArray} (h : s.size = 0) : s.toList.isEmpty = true := by rw [ByteArray.toList_eq, List.isEmpty_iff, ← List.length_eq_zero_iff]; simpa using h
theorem isEmptyF {s : ByteArray} (h : s.size ≠ 0) : s.toList.isEmpty = false := by rw [Bool.eq_false_iff]; intro h'; rw [ByteArray.toList_eq, List.isEmpty_iff, ← List.length_eq_zero_iff] at h'; exact h (by simpa using h')
theorem headG {s : ByteArray} (h : 0 < s.size) : s.data.toList.head? = some s[0] := by
  have : s.data.toList = s[0] :: s.data.toList.drop 1 := by have := drop_cons s 0 h; simpa using this
  rw [this]; rfl
theorem body_len (l : List UInt8) : (bodyD l).length ≤ l.length := by unfold bodyD; split <;> simp
set_option maxRecDepth 100000 in
set_option maxHeartbeats 2000000 in
theorem text_decimal (s : ByteArray) (w : World) (hs : s.size ≤ maxLen) :
    Calls Tryz.prog 116 #[.string s] w fun e w' => e = .returned (.bool (decB s.data.toList)) ∧ Below w.heap.size w w' := by
  unfold maxLen at hs
  obtain ⟨z, hz⟩ : ∃ z, z = decB s.data.toList := ⟨_, rfl⟩
  rw [← hz]
  unfold decB at hz
  have hbl := body_len s.data.toList
  have hsl : s.data.toList.length = s.size := by simp
  obtain ⟨d, hd⟩ : ∃ d : ByteArray, d = S (bodyD s.data.toList) := ⟨_, rfl⟩
  have hdd : d.data.toList = bodyD s.data.toList := by rw [hd]; rfl
  have hds : d.size ≤ 9223372036854775807 := by rw [hd, S_size]; omega
  rw [← hdd] at hz
  have tp : ∀ W, Calls Tryz.prog 147 #[.string s, .string ⟨#[45]⟩] W fun e W' => e = .returned (.string d) ∧ W = W' := fun W => by
    refine (Tryz.strings_TrimPrefix s ⟨#[45]⟩ W).mono ?_
    rintro e W' ⟨rfl, rfl⟩
    refine ⟨?_, rfl⟩
    rw [show (⟨#[45]⟩ : ByteArray).data.toList = [45] from rfl, trimPrefix_body, hd]; rfl
  have tm : ∀ W, Calls Tryz.prog 148 #[.string d, .string ⟨#[48, 49, 50, 51, 52, 53, 54, 55, 56, 57]⟩] W fun e W' => ∃ t : ByteArray, e = .returned (.string t) ∧ t.toList.isEmpty = d.data.toList.all digB ∧ Below W.heap.size W W' := fun W => by
    refine (Any.strings_Trim_laid Tryz.lays160 (by kernel_rfl) d ⟨#[48, 49, 50, 51, 52, 53, 54, 55, 56, 57]⟩ W hds (by decide) (ascii_of_all (by decide))).mono ?_
    rintro e W' ⟨rfl, hb⟩
    refine ⟨_, rfl, ?_, hb⟩
    rw [show (⟨#[48, 49, 50, 51, 52, 53, 54, 55, 56, 57]⟩ : ByteArray).data.toList = digits10 from rfl]
    rw [ByteArray.toList_eq, Bool.eq_iff_iff, List.isEmpty_iff]
    exact trim_digits _
  have TP := Lib.hid tp
  have TM := Lib.hid tm
  clear tp tm hbl hsl hdd
  by_cases h0 : d.size = 0
  · have e0 := isEmptyT h0
    have hn : d.data.toList = [] := List.eq_nil_of_length_eq_zero (by simpa using h0)
    rw [hn] at hz
    have HZ := Lib.hid hz
    clear hz hn hd h0
    go_enter Tryz.func116, Tryz.ntmps116
    go_wp2_with (go_at_call 147; refine (TP.out _).mono ?_; rintro e w2 ⟨rfl, rfl⟩)
    go_ret
    exact ⟨ret_b (by rw [HZ.out]; rfl), Below.refl _ _⟩
  · have e0 := isEmptyF h0
    have h1 : 0 < d.size := Nat.pos_of_ne_zero h0
    have hne : d.data.toList.isEmpty = false := by rw [← ByteArray.toList_eq]; exact e0
    rw [hne, headG h1] at hz
    by_cases hc : d[0] = 48
    · have e1 : ((d[0].toNat : Int) == 48) = true := by rw [hc]; rfl
      by_cases hl : s.data.toList = [48]
      · have e2 : (s.toList == [48]) = true := by rw [ByteArray.toList_eq]; exact beq_iff_eq.2 hl
        have e3 : (s.data.toList == [48]) = true := beq_iff_eq.2 hl
        rw [e3, hc] at hz
        have HZ := Lib.hid hz
        clear hz hl hd hc h0 e3 hne
        go_enter Tryz.func116, Tryz.ntmps116
        go_wp2_with (first | (go_at_call 147; refine (TP.out _).mono ?_; rintro e w2 ⟨rfl, rfl⟩) | (go_at_call 148; refine (TM.out _).mono ?_; rintro e w3 ⟨t, rfl, ht, hb⟩; have HT := Lib.hid ht; clear ht))
        go_ret
        exact ⟨ret_b (by rw [HZ.out, HT.out]; simp), hb⟩
      · have e2 : (s.toList == [48]) = false := by rw [ByteArray.toList_eq]; exact beq_eq_false_iff_ne.2 hl
        have e3 : (s.data.toList == [48]) = false := beq_eq_false_iff_ne.2 hl
        rw [e3, hc] at hz
        have HZ := Lib.hid hz
        clear hz hl hd hc h0 e3 hne
        go_enter Tryz.func116, Tryz.ntmps116
        go_wp2_with (go_at_call 147; refine (TP.out _).mono ?_; rintro e w2 ⟨rfl, rfl⟩)
        go_ret
        exact ⟨ret_b (by rw [HZ.out]; simp), Below.refl _ _⟩
    · have e1 : ((d[0].toNat : Int) == 48) = false := beq_eq_false_iff_ne.2 (fun h => hc (UInt8.toNat_inj.1 (by have e : (48 : UInt8).toNat = 48 := rfl; omega)))
      have e3 : ((some d[0]) == some (48 : UInt8)) = false := by simp [hc]
      rw [e3] at hz
      have HZ := Lib.hid hz
      clear hz hd hc h0 e3 hne
      go_enter Tryz.func116, Tryz.ntmps116
      go_wp2_with (first | (go_at_call 147; refine (TP.out _).mono ?_; rintro e w2 ⟨rfl, rfl⟩) | (go_at_call 148; refine (TM.out _).mono ?_; rintro e w3 ⟨t, rfl, ht, hb⟩; have HT := Lib.hid ht; clear ht))
      go_ret
      exact ⟨ret_b (by rw [HZ.out, HT.out]; simp), hb⟩
set_option maxRecDepth 100000 in
set_option maxHeartbeats 2000000 in
theorem text_Number (s : ByteArray) (lo hi : Int) (w : World) (hg : GlobN w) (hs : s.size ≤ 281474976710656) :
    Calls Tryz.prog 81 #[.string s, .int .i64 lo, .int .i64 hi] w fun e w' => e = .returned (.tuple #[.int .i64 (numberS s.data.toList lo hi).1, .int .i64 (numberS s.data.toList lo hi).2]) ∧ Below w.heap.size w w' := by
  obtain ⟨z, hz⟩ : ∃ z, z = numberS s.data.toList lo hi := ⟨_, rfl⟩
  rw [← hz]
  unfold numberS at hz
  have hdc := text_decimal s w (by unfold maxLen; omega)
  cases hd : decB s.data.toList
  · rw [if_pos hd] at hz
    rw [hd] at hdc
    have HD := Lib.hid hdc
    have HZ := Lib.hid hz
    clear hz hd hdc hg
    go_enter Tryz.func81, Tryz.ntmps81
    go_wp2_with (go_at_call 116; refine HD.out.mono ?_; rintro e w2 ⟨rfl, hb⟩)
    go_ret2
    exact ⟨by rw [HZ.out] <;> rfl, hb⟩
  · rw [if_neg (by simp [hd])] at hz
    rw [hd] at hdc
    have hp := parse_dec hd
    have HD := Lib.hid hdc
    obtain ⟨v, hv⟩ : ∃ v, v = valI s.data.toList := ⟨_, rfl⟩
    rw [← hv] at hz hp
    clear hd hdc hv
    cases hf : fitB v
    · rw [hf] at hp hz
      rw [if_neg (by simp)] at hp hz
      have pr : ∀ W, Below w.heap.size w W → Calls Tryz.prog 117 #[.string s, .int .i64 10, .int .i64 64] W fun e W' => ∃ (x : Int) (T : TypeId) (N : Nat), e = .returned (.tuple #[.int .i64 x, .iface T (.pointer (some ⟨N, 0, none⟩))]) ∧ Below w.heap.size w W' := fun W hW => by
        obtain ⟨tp, p, h1⟩ := (hg.below hW).rng
        refine (Tryz.strconv_ParseInt_10_at64_range_var s hs hp tp p W h1).mono ?_
        rintro e W' ⟨N, rfl, _, _, hb⟩
        exact ⟨_, _, N, rfl, hW.trans (hb.mono hW.size)⟩
      have PR := Lib.hid pr
      have HZ := Lib.hid hz
      clear pr hz hp hg hf
      go_enter Tryz.func81, Tryz.ntmps81
      go_wp2_with (first | (go_at_call 116; refine HD.out.mono ?_; rintro e w2 ⟨rfl, hb⟩; have HB := Lib.hid hb; clear hb) | (go_at_call 117; refine (PR.out _ HB.out).mono ?_; rintro e w3 ⟨x, T, N, rfl, hb3⟩; have HB3 := Lib.hid hb3; clear hb3))
      go_ret2
      exact ⟨by rw [HZ.out] <;> rfl, HB3.out⟩
    · rw [hf] at hp hz
      rw [if_pos rfl] at hp
      have pr : ∀ W, Below w.heap.size w W → Calls Tryz.prog 117 #[.string s, .int .i64 10, .int .i64 64] W fun e W' => e = .returned (.tuple #[.int .i64 v, .nilIface]) ∧ Below w.heap.size w W' := fun W hW => by
        refine (Tryz.strconv_ParseInt_10_at64_ok s (by omega) v hp W).mono ?_
        rintro e W' ⟨rfl, hw⟩
        refine ⟨rfl, ?_⟩
        rcases hw with rfl | ⟨t, rfl⟩
        · exact hW
        · exact hW.trans ((Lib.bytesWorld_below _ _ _).mono hW.size)
      have PR := Lib.hid pr
      clear pr hp hg hf
      by_cases hlo : lo ≤ v
      · by_cases hhi : v ≤ hi
        · rw [if_pos ⟨rfl, hlo, hhi⟩] at hz
          have HZ := Lib.hid hz
          have e1 : decide (v < lo) = false := decide_eq_false (by omega)
          have e2 : decide (hi < v) = false := decide_eq_false (by omega)
          clear hz hlo hhi
          go_enter Tryz.func81, Tryz.ntmps81
          go_wp2_with (first | (go_at_call 116; refine HD.out.mono ?_; rintro e w2 ⟨rfl, hb⟩; have HB := Lib.hid hb; clear hb) | (go_at_call 117; refine (PR.out _ HB.out).mono ?_; rintro e w3 ⟨rfl, hb3⟩; have HB3 := Lib.hid hb3; clear hb3))
          go_ret2
          exact ⟨by rw [HZ.out] <;> rfl, HB3.out⟩
        · rw [if_neg (fun h => hhi h.2.2)] at hz
          have HZ := Lib.hid hz
          have e1 : decide (v < lo) = false := decide_eq_false (by omega)
          have e2 : decide (hi < v) = true := decide_eq_true (by omega)
          clear hz hlo hhi
          go_enter Tryz.func81, Tryz.ntmps81
          go_wp2_with (first | (go_at_call 116; refine HD.out.mono ?_; rintro e w2 ⟨rfl, hb⟩; have HB := Lib.hid hb; clear hb) | (go_at_call 117; refine (PR.out _ HB.out).mono ?_; rintro e w3 ⟨rfl, hb3⟩; have HB3 := Lib.hid hb3; clear hb3))
          go_ret2
          exact ⟨by rw [HZ.out] <;> rfl, HB3.out⟩
      · rw [if_neg (fun h => hlo h.2.1)] at hz
        have HZ := Lib.hid hz
        have e1 : decide (v < lo) = true := decide_eq_true (by omega)
        clear hz hlo
        go_enter Tryz.func81, Tryz.ntmps81
        go_wp2_with (first | (go_at_call 116; refine HD.out.mono ?_; rintro e w2 ⟨rfl, hb⟩; have HB := Lib.hid hb; clear hb) | (go_at_call 117; refine (PR.out _ HB.out).mono ?_; rintro e w3 ⟨rfl, hb3⟩; have HB3 := Lib.hid hb3; clear hb3))
        go_ret2
        exact ⟨by rw [HZ.out] <;> rfl, HB3.out⟩
end

section
/-! part N3 -/
open Go.RowKit

theorem grow_below (w : World) (k : Nat) (os : Array Obj) : Below w.heap.size w (Sort.grow (w.drewN k) os) := Lib.below_grow _ w (Nat.le_refl _) k os
set_option maxRecDepth 100000 in
theorem text_Decimal (n : Int) (w : World) (hg : GlobN w) (h0 : -9223372036854775808 ≤ n) (h1 : n ≤ 9223372036854775807) :
    Calls Tryz.prog 118 #[.int .i64 n] w fun e w' => e = .returned (.string (S (Lib.itoa n))) ∧ Below w.heap.size w w' := by
  have hf := Tryz.strconv_FormatInt_10 n h0 h1 w hg.pow
  have HF := Lib.hid hf
  clear hf hg
  go_enter Tryz.func118, Tryz.ntmps118
  go_wp2_with (go_at_call 151; refine HF.out.mono ?_; rintro e w2 ⟨rfl, k, os, rfl⟩)
  go_ret
  exact ⟨rfl, grow_below _ _ _⟩
theorem itoa_cut (n : Int) : Lib.trimPrefix (Lib.itoa n) [45] = Lib.decDigits n.natAbs ∧ Lib.hasPrefix (Lib.itoa n) [45] = decide (n < 0) := by
  have hp := decDigits_pos n.natAbs
  by_cases h : n < 0
  · have e : Lib.itoa n = 45 :: Lib.decDigits n.natAbs := by unfold Lib.itoa; rw [if_pos h]
    rw [e, decide_eq_true h]
    exact ⟨by unfold Lib.trimPrefix Lib.hasPrefix; simp [List.isPrefixOf], by unfold Lib.hasPrefix; simp [List.isPrefixOf]⟩
  · have hn : n.toNat = n.natAbs := by omega
    have e : Lib.itoa n = Lib.decDigits n.natAbs := by unfold Lib.itoa; rw [if_neg h, hn]
    rw [e, decide_eq_false h]
    obtain ⟨h1, _, _⟩ := decDigits_dig _ n.natAbs (Nat.le_refl _)
    obtain ⟨c, t, ht⟩ : ∃ c t, Lib.decDigits n.natAbs = c :: t := by
      cases hx : Lib.decDigits n.natAbs with
      | nil => rw [hx] at hp; simp at hp
      | cons c t => exact ⟨c, t, rfl⟩
    rw [ht] at h1 ⊢
    have hc : c ≠ 45 := by
      rintro rfl
      simp only [List.all_cons, Bool.and_eq_true] at h1
      have := (digB_iff _).1 h1.1
      have e : (45 : UInt8).toNat = 45 := rfl
      omega
    have h2 : [45].isPrefixOf (c :: t) = false := by simp [List.isPrefixOf, Ne.symm hc]
    exact ⟨by unfold Lib.trimPrefix Lib.hasPrefix; rw [h2]; rfl, h2⟩
theorem repeat48 (c : Nat) : Lib.repeatL [48] c = List.replicate c 48 := by
  induction c with
  | zero => rfl
  | succ c ih => rw [List.replicate_succ, ← ih]; rfl
theorem decDigits_le {u : Nat} (h : u ≤ 9223372036854775808) : (Lib.decDigits u).length ≤ 19 := by
  rw [Lib.decDigits_length]
  have key : ∀ (k u : Nat), u < 10 ^ (k + 1) → Lib.nDigits u ≤ k + 1 := by
    intro k
    induction k with
    | zero => intro u hu; rw [Lib.nDigits, dif_pos (by omega)]; omega
    | succ k ih =>
      intro u hu
      rw [Lib.nDigits]
      split
      · omega
      · have := ih (u / 10) (by rw [Nat.div_lt_iff_lt_mul (by omega)]; rw [Nat.pow_succ] at hu; omega)
        omega
  exact key 18 u (by have : (10 : Nat) ^ (18 + 1) = 10000000000000000000 := by decide
                     omega)
end

section
/-! part N5 -/
open Go.RowKit

theorem dig_atU : ∀ r : Nat, r < 10 → (⟨#[48, 49, 50, 51, 52, 53, 54, 55, 56, 57]⟩ : ByteArray).extract r (r + 1) = S [UInt8.ofNat (48 + r)] := by
  intro r h
  match r, h with
  | 0, _ => rfl
  | 1, _ => rfl
  | 2, _ => rfl
  | 3, _ => rfl
  | 4, _ => rfl
  | 5, _ => rfl
  | 6, _ => rfl
  | 7, _ => rfl
  | 8, _ => rfl
  | 9, _ => rfl
theorem padR_lenU (M u : Nat) (s : List UInt8) : s.length ≤ (padR M u s).length := by
  unfold padR
  split
  · simp
  · simp; omega
theorem padS_smallU (u : Nat) (h : u ≤ 9223372036854775807) (width : Int) : (padS (u : Int) width).length ≤ 100 := by
  unfold padS
  have := decDigits_le (u := u) (by omega)
  simp only [List.length_append, List.length_replicate]
  rw [if_neg (by omega), Int.natAbs_natCast]
  simp; omega
theorem S_consU (c : UInt8) (t : ByteArray) : S [c] ++ t = S (c :: t.data.toList) := by
  apply ByteArray.ext; apply Array.ext'
  simp [S, ByteArray.data_append]
theorem empty_appU (t : ByteArray) : (⟨#[]⟩ : ByteArray) ++ t = t := by
  apply ByteArray.ext; apply Array.ext'
  simp [ByteArray.data_append]
end
end Go.Proofs.YtfnfbojaiikigaaGreatDoor
