/- Plain laws: what the reference's number answers at each of its ends. -/
import Derived.Test.YtdgejeiiiholnaaGreatDoorP34
set_option linter.unusedSimpArgs false
set_option linter.unusedVariables false
namespace Go.Proofs.YtdgejeiiiholnaaGreatDoor

theorem dec_of {l : List UInt8} (h0 : (bodyD l).isEmpty = false) (h1 : ((bodyD l).head? == some 48 && !(l == [48])) = false) (h2 : (bodyD l).all digB = true) : decB l = true := by unfold decB; rw [h0, h1, h2]; rfl
theorem dec_not {l : List UInt8} (h2 : (bodyD l).all digB = false) : decB l = false := by unfold decB; rw [h2, Bool.and_false]
theorem dec_empty {l : List UInt8} (h0 : (bodyD l).isEmpty = true) : decB l = false := by unfold decB; rw [h0]; simp
theorem dec_zero {l : List UInt8} (h1 : ((bodyD l).head? == some 48 && !(l == [48])) = true) : decB l = false := by unfold decB; rw [h1]; simp
theorem number_form {l : List UInt8} (lo hi : Int) (h : decB l = false) : numberS l lo hi = (0, 4) := by unfold numberS; rw [if_pos h]
theorem number_big {l : List UInt8} {n : Int} {big : Bool} (lo hi : Int) (h0 : (bodyD l).isEmpty = false) (h1 : ((bodyD l).head? == some 48 && !(l == [48])) = false) (h : NumInv (bodyD l) (bodyD l).length n big)
    (hb : big = true ∨ 9223372036854775808 < n ∨ (n = 9223372036854775808 ∧ negB l = false)) : numberS l lo hi = (0, 2) := by
  obtain ⟨a1, a2, a3⟩ := h.fin
  unfold numberS
  rw [if_neg (by rw [dec_of h0 h1 a1]; simp), if_neg ?_]
  intro hf
  have hf1 := hf.1
  unfold fitB valI at hf1
  simp only [Bool.and_eq_true, decide_eq_true_eq] at hf1
  cases hn : negB l
  · rw [hn, if_neg (by simp)] at hf1
    cases big with
    | true => have := a2 rfl; omega
    | false =>
      have := a3 rfl
      rcases hb with hb | hb | hb
      · cases hb
      · omega
      · omega
  · rw [hn, if_pos rfl] at hf1
    cases big with
    | true => have := a2 rfl; omega
    | false =>
      have := a3 rfl
      rcases hb with hb | hb | hb
      · cases hb
      · omega
      · rw [hn] at hb; exact absurd hb.2 (by simp)
theorem number_ok {l : List UInt8} {n v : Int} {big : Bool} (lo hi : Int) (h0 : (bodyD l).isEmpty = false) (h1 : ((bodyD l).head? == some 48 && !(l == [48])) = false) (h : NumInv (bodyD l) (bodyD l).length n big)
    (hb : big = false) (hn : n ≤ 9223372036854775808) (hn2 : negB l = false → n < 9223372036854775808) (hv : v = if negB l = true then -n else n) : numberS l lo hi = if lo ≤ v ∧ v ≤ hi then (v, 0) else (0, 2) := by
  obtain ⟨a1, a2, a3⟩ := h.fin
  have hz := a3 hb
  have hge := h.2.1
  have hvi : valI l = v := by unfold valI; rw [hv, hz]
  have hf : fitB v = true := by
    unfold fitB
    simp only [Bool.and_eq_true, decide_eq_true_eq]
    rw [hv]
    cases hne : negB l
    · rw [if_neg (by simp)]; have := hn2 hne; omega
    · rw [if_pos rfl]; omega
  unfold numberS
  rw [if_neg (by rw [dec_of h0 h1 a1]; simp), hvi, hf]
  simp
/-- The test on a leading zero. -/
theorem zero_eq {l : List UInt8} (h : bodyD l ≠ []) : ((bodyD l).head? == some 48 && (negB l || decide (1 < (bodyD l).length))) = ((bodyD l).head? == some 48 && !(l == [48])) := by
  cases hn : negB l
  · have hb : bodyD l = l := by unfold bodyD; rw [hn, if_neg (by simp)]
    rw [hb] at h ⊢
    match l, h with
    | [a], _ =>
      by_cases ha : a = 48
      · subst ha; rfl
      · simp [ha]
    | a :: b :: r, _ => simp
  · have : (l == [48]) = false := by
      match l, hn with
      | a :: r, hn =>
        unfold negB at hn
        simp at hn
        subst hn
        simp
    rw [this]; rfl
end Go.Proofs.YtdgejeiiiholnaaGreatDoor
