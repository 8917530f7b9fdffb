/- The contracts of text.Decimal and text.Padded. -/
import Derived.Test.YtoeeodemimndlaaGreatDoorP34
import Derived.Test.YtoeeodemimndlaaGreatDoorP36
import Derived.Test.YtoeeodemimndlaaGreatDoorN2
import Derived.Test.YtoeeodemimndlaaGreatDoorT7
import Derived.Lib.AppendIntMem
set_option linter.unusedSimpArgs false
set_option linter.unusedVariables false
namespace Go.Proofs.YtoeeodemimndlaaGreatDoor
open Go.RowKit

theorem grow_below (w : World) (k : Nat) (os : Array Obj) : Below w.heap.size w (Sort.grow (w.drewN k) os) := Lib.below_grow _ w (Nat.le_refl _) k os
set_option maxRecDepth 100000 in
theorem text_Decimal (n : Int) (w : World) (hg : GlobN w) (h0 : -9223372036854775808 ≤ n) (h1 : n ≤ 9223372036854775807) :
    Calls Tryz.prog 45 #[.int .i64 n] w fun e w' => e = .returned (.string (S (Lib.itoa n))) ∧ Below w.heap.size w w' := by
  have hf := Tryz.strconv_FormatInt_10 n h0 h1 w hg.pow
  have HF := Lib.hid hf
  clear hf hg
  go_enter Tryz.func45, Tryz.ntmps45
  go_wp2_with (go_at_call 61; refine HF.out.mono ?_; rintro e w2 ⟨rfl, k, os, rfl⟩)
  go_ret
  exact ⟨rfl, grow_below _ _ _⟩
theorem itoa_cut (n : Int) : Lib.trimPrefix (Lib.itoa n) [45] = Lib.decDigits n.natAbs ∧ Lib.hasPrefix (Lib.itoa n) [45] = decide (n < 0) := by
  have hp := decDigits_pos n.natAbs
  by_cases h : n < 0
  · have e : Lib.itoa n = 45 :: Lib.decDigits n.natAbs := by unfold Lib.itoa; rw [if_pos h]
    rw [e, decide_eq_true h]
    exact ⟨by unfold Lib.trimPrefix Lib.hasPrefix; simp [List.isPrefixOf], by unfold Lib.hasPrefix; simp [List.isPrefixOf]⟩
  · have hn : n.toNat = n.natAbs := by omega
    have e : Lib.itoa n = Lib.decDigits n.natAbs := by unfold Lib.itoa; rw [if_neg h, hn]
    rw [e, decide_eq_false h]
    obtain ⟨h1, _, _⟩ := decDigits_dig _ n.natAbs (Nat.le_refl _)
    obtain ⟨c, t, ht⟩ : ∃ c t, Lib.decDigits n.natAbs = c :: t := by
      cases hx : Lib.decDigits n.natAbs with
      | nil => rw [hx] at hp; simp at hp
      | cons c t => exact ⟨c, t, rfl⟩
    rw [ht] at h1 ⊢
    have hc : c ≠ 45 := by
      rintro rfl
      simp only [List.all_cons, Bool.and_eq_true] at h1
      have := (digB_iff _).1 h1.1
      have e : (45 : UInt8).toNat = 45 := rfl
      omega
    have h2 : [45].isPrefixOf (c :: t) = false := by simp [List.isPrefixOf, Ne.symm hc]
    exact ⟨by unfold Lib.trimPrefix Lib.hasPrefix; rw [h2]; rfl, h2⟩
theorem repeat48 (c : Nat) : Lib.repeatL [48] c = List.replicate c 48 := by
  induction c with
  | zero => rfl
  | succ c ih => rw [List.replicate_succ, ← ih]; rfl
theorem decDigits_le {u : Nat} (h : u ≤ 9223372036854775808) : (Lib.decDigits u).length ≤ 19 := by
  rw [Lib.decDigits_length]
  have key : ∀ (k u : Nat), u < 10 ^ (k + 1) → Lib.nDigits u ≤ k + 1 := by
    intro k
    induction k with
    | zero => intro u hu; rw [Lib.nDigits, dif_pos (by omega)]; omega
    | succ k ih =>
      intro u hu
      rw [Lib.nDigits]
      split
      · omega
      · have := ih (u / 10) (by rw [Nat.div_lt_iff_lt_mul (by omega)]; rw [Nat.pow_succ] at hu; omega)
        omega
  exact key 18 u (by have : (10 : Nat) ^ (18 + 1) = 10000000000000000000 := by decide
                     omega)
set_option maxRecDepth 100000 in
theorem lite_CutPrefix (x y : ByteArray) (h : Bool) (w : World) (h1 : Lib.hasPrefix x.data.toList [45] = h) (h2 : y = S (Lib.trimPrefix x.data.toList [45])) :
    Calls Tryz.prog 77 #[.string x, .string ⟨#[45]⟩] w fun e w' => e = .returned (.tuple #[.string y, .bool h]) ∧ w = w' := by
  have hh := Tryz.stringslite_HasPrefix x ⟨#[45]⟩ w
  rw [show (⟨#[45]⟩ : ByteArray).data.toList = [45] from rfl, h1] at hh
  have HH := Lib.hid hh
  have H2 := Lib.hid h2
  have H1 := Lib.hid h1
  clear hh h1 h2
  cases h
  · go_enter Tryz.func77, Tryz.ntmps77
    go_wp2_with (go_at_call 107; refine HH.out.mono ?_; rintro e w2 ⟨rfl, hw⟩; subst hw)
    go_ret2
    refine ⟨?_, rfl⟩
    rw [H2.out]
    unfold Lib.trimPrefix
    rw [if_neg (by rw [H1.out]; simp)]
    rfl
  · have hl : 1 ≤ x.size := by
      have := H1.out
      rcases Nat.eq_zero_or_pos x.size with h0 | h0
      · have : x.data.toList = [] := List.eq_nil_of_length_eq_zero (by simpa using h0)
        rw [this] at H1
        exact absurd H1.out (by decide)
      · exact h0
    have s1 : (⟨#[45]⟩ : ByteArray).size = 1 := rfl
    have hx : x.extract 1 x.size = y := by
      rw [H2.out]
      unfold Lib.trimPrefix
      rw [if_pos H1.out]
      refine ByteArray.ext (Array.ext' ?_)
      rw [Lib.extract_data, S_data]
      exact List.take_of_length_le (by simp)
    go_enter Tryz.func77, Tryz.ntmps77
    go_wp2_with (go_at_call 107; refine HH.out.mono ?_; rintro e w2 ⟨rfl, hw⟩; subst hw)
    go_ret2
    exact ⟨rfl, rfl⟩
set_option maxRecDepth 100000 in
theorem str_CutPrefix (x y : ByteArray) (h : Bool) (w : World) (h1 : Lib.hasPrefix x.data.toList [45] = h) (h2 : y = S (Lib.trimPrefix x.data.toList [45])) :
    Calls Tryz.prog 62 #[.string x, .string ⟨#[45]⟩] w fun e w' => e = .returned (.tuple #[.string y, .bool h]) ∧ w = w' := by
  have HL := Lib.hid (lite_CutPrefix x y h w h1 h2)
  clear h1 h2
  go_enter Tryz.func62, Tryz.ntmps62
  go_wp2_with (go_at_call 77; refine HL.out.mono ?_; rintro e w2 ⟨rfl, rfl⟩)
  go_ret2
  exact ⟨rfl, rfl⟩
set_option maxRecDepth 100000 in
set_option maxHeartbeats 1000000 in
theorem text_Padded (n width : Int) (w : World) (hg : GlobN w) (h0 : -9223372036854775808 ≤ n) (h1 : n ≤ 9223372036854775807) (k0 : -9223372036854775808 ≤ width) (k1 : width ≤ 9223372036854775807) :
    Calls Tryz.prog 46 #[.int .i64 n, .int .i64 width] w fun e w' => e = .returned (.string (S (padS n width))) ∧ Below w.heap.size w w' := by
  obtain ⟨d, hd⟩ : ∃ d : ByteArray, d = S (Lib.decDigits n.natAbs) := ⟨_, rfl⟩
  have hdl : d.size ≤ 19 := by rw [hd, S_size]; exact decDigits_le (by omega)
  obtain ⟨c, hc⟩ : ∃ c : Nat, c = (max (min width 20) 0).toNat - d.size := ⟨_, rfl⟩
  obtain ⟨m, hm⟩ : ∃ m : Int, m = max (min width 20) 0 := ⟨_, rfl⟩
  have hm0 : 0 ≤ m := by omega
  have hm1 : m ≤ 20 := by omega
  have hcc : max (m - (d.size : Int)) 0 = (c : Int) := by omega
  have hc20 : c ≤ 20 := by omega
  obtain ⟨r, hr⟩ : ∃ r : ByteArray, r = S (List.replicate c 48) := ⟨_, rfl⟩
  have hrl : r.size ≤ 20 := by rw [hr, S_size]; simpa using hc20
  have hfin : padS n width = (if n < 0 then [45] else []) ++ (r.data.toList ++ d.data.toList) := by
    unfold padS
    rw [hr, hd, S_data, S_data, hc, hd, S_size]
  have tD : Calls Tryz.prog 45 #[.int .i64 n] w fun e w' => e = .returned (.string (S (Lib.itoa n))) ∧ Below w.heap.size w w' := text_Decimal n w hg h0 h1
  have cp : ∀ W, Calls Tryz.prog 62 #[.string (S (Lib.itoa n)), .string ⟨#[45]⟩] W fun e W' => e = .returned (.tuple #[.string d, .bool (decide (n < 0))]) ∧ W = W' := fun W =>
    str_CutPrefix _ _ _ W (by rw [S_data]; exact (itoa_cut n).2) (by rw [S_data, (itoa_cut n).1, hd])
  have rp : ∀ W, Calls Tryz.prog 63 #[.string ⟨#[48]⟩, .int .i64 c] W fun e W' => e = .returned (.string r) ∧ Below W.heap.size W W' := fun W => by
    refine (Tryz.strings_Repeat ⟨#[48]⟩ c W (by omega) (by rw [show (⟨#[48]⟩ : ByteArray).size = 1 from rfl]; omega)).mono ?_
    rintro e W' ⟨rfl, hb⟩
    rw [show (⟨#[48]⟩ : ByteArray).data.toList = [48] from rfl, repeat48, hr]
    exact ⟨rfl, hb⟩
  have s1 : (⟨#[45]⟩ : ByteArray).size = 1 := rfl
  have a1 := fun W => run_string_add_sum (P := Tryz.prog) W r d (by omega)
  have a2 := fun W => run_string_add_sum (P := Tryz.prog) W ⟨#[45]⟩ (r ++ d) (by rw [ByteArray.size_append, s1]; omega)
  have hmm : max (min width 20) 0 = m := hm.symm
  have TD := Lib.hid tD
  have CP := Lib.hid cp
  have RP := Lib.hid rp
  have HF := Lib.hid hfin
  clear tD cp rp hfin hd hc hr hm s1 hg
  by_cases hn : n < 0
  · have e1 : decide (n < 0) = true := decide_eq_true hn
    rw [e1] at CP
    have HN := Lib.hid hn
    clear hn e1
    go_enter Tryz.func46, Tryz.ntmps46
    go_wp2_with (first | (go_at_call 45; refine TD.out.mono ?_; rintro e w2 ⟨rfl, hb⟩; have HB := Lib.hid hb; clear hb) | (go_at_call 62; refine (CP.out _).mono ?_; rintro e w3 ⟨rfl, rfl⟩) | (go_at_call 63; refine (RP.out _).mono ?_; rintro e w4 ⟨rfl, hb4⟩; have HB4 := Lib.hid hb4; clear hb4))
    go_ret
    exact ⟨ret_str (by rw [HF.out, if_pos HN.out]; simp), HB.out.trans (HB4.out.mono HB.out.size)⟩
  · have e1 : decide (n < 0) = false := decide_eq_false hn
    rw [e1] at CP
    have HN := Lib.hid hn
    clear hn e1
    go_enter Tryz.func46, Tryz.ntmps46
    go_wp2_with (first | (go_at_call 45; refine TD.out.mono ?_; rintro e w2 ⟨rfl, hb⟩; have HB := Lib.hid hb; clear hb) | (go_at_call 62; refine (CP.out _).mono ?_; rintro e w3 ⟨rfl, rfl⟩) | (go_at_call 63; refine (RP.out _).mono ?_; rintro e w4 ⟨rfl, hb4⟩; have HB4 := Lib.hid hb4; clear hb4))
    go_ret
    exact ⟨ret_str (by rw [HF.out, if_neg (by have := HN.out; omega)]; simp), HB.out.trans (HB4.out.mono HB.out.size)⟩
end Go.Proofs.YtoeeodemimndlaaGreatDoor
