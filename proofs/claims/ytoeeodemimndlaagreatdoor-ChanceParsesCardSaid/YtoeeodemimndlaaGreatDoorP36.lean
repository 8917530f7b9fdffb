/- Plain laws: a number written as a decimal is read back. -/
import Derived.Test.YtoeeodemimndlaaGreatDoorP34
set_option linter.unusedSimpArgs false
set_option linter.unusedVariables false
namespace Go.Proofs.YtoeeodemimndlaaGreatDoor

theorem decDigits_dig : ∀ (n u : Nat), u ≤ n → (Lib.decDigits u).all digB = true ∧ valF 0 (Lib.decDigits u) = u ∧ ((Lib.decDigits u).head? = some 48 → u = 0) := by
  have hd : ∀ v, v < 10 → digB (UInt8.ofNat (48 + v)) = true ∧ (UInt8.ofNat (48 + v)).toNat - 48 = v := fun v hv => by
    have e : (UInt8.ofNat (48 + v)).toNat = 48 + v := by rw [UInt8.toNat_ofNat']; omega
    exact ⟨(digB_iff _).2 (by omega), by omega⟩
  intro n
  induction n with
  | zero =>
    intro u hu
    have : u = 0 := by omega
    subst this
    rw [Lib.decDigits, dif_pos (by omega)]
    exact ⟨by decide, by decide, fun _ => rfl⟩
  | succ n ih =>
    intro u hu
    rw [Lib.decDigits]
    by_cases h : u < 10
    · rw [dif_pos h]
      obtain ⟨h1, h2⟩ := hd u h
      generalize UInt8.ofNat (48 + u) = c at h1 h2 ⊢
      refine ⟨by simp [h1], by unfold valF; simp [h2], fun h3 => ?_⟩
      simp only [List.head?_cons, Option.some.injEq] at h3
      rw [h3] at h2
      have : (48 : UInt8).toNat = 48 := rfl
      omega
    · rw [dif_neg h]
      obtain ⟨k1, k2, k3⟩ := ih (u / 10) (by omega)
      obtain ⟨h1, h2⟩ := hd (u % 10) (by omega)
      generalize UInt8.ofNat (48 + u % 10) = c at h1 h2 ⊢
      refine ⟨by rw [List.all_append, k1]; simp [h1], by rw [valF_snoc, k2, h2]; omega, fun h3 => ?_⟩
      have hp := decDigits_pos (u / 10)
      have h4 : (Lib.decDigits (u / 10)).head? = some 48 := by
        cases hx : Lib.decDigits (u / 10) with
        | nil => rw [hx] at hp; simp at hp
        | cons a l => rw [hx] at h3; simpa using h3
      have := k3 h4
      omega
theorem digB_word {c : UInt8} (h : digB c = true) : wordB c = true := by
  have := (digB_iff c).1 h
  unfold wordB
  simp only [Bool.and_eq_true, decide_eq_true_eq, bne_iff_ne, ne_eq, UInt8.lt_iff_toNat_lt, UInt8.le_iff_toNat_le, ← UInt8.toNat_inj]
  have e7 : (32 : UInt8).toNat = 32 := rfl
  have e8 : (126 : UInt8).toNat = 126 := rfl
  have e9 : (34 : UInt8).toNat = 34 := rfl
  have e10 : (59 : UInt8).toNat = 59 := rfl
  omega
/-- A number as a word. -/
def decW (n : Int) : List UInt8 := Lib.itoa n
theorem decW_facts {n : Int} (h : 0 ≤ n) : decW n = Lib.decDigits n.toNat ∧ wordS (decW n) = true ∧ (∀ lo hi, lo ≤ n → n ≤ hi → n ≤ 10000 → numberS (decW n) lo hi = (n, 0)) := by
  have e : decW n = Lib.decDigits n.toNat := by unfold decW Lib.itoa; rw [if_neg (by omega)]
  obtain ⟨h1, h2, h3⟩ := decDigits_dig _ n.toNat (Nat.le_refl _)
  have hp := decDigits_pos n.toNat
  have hne : Lib.decDigits n.toNat ≠ [] := by intro e; rw [e] at hp; simp at hp
  have hhd : negB (Lib.decDigits n.toNat) = false := by
    unfold negB
    obtain ⟨c, t, ht⟩ : ∃ c t, Lib.decDigits n.toNat = c :: t := by
      cases hx : Lib.decDigits n.toNat with
      | nil => exact absurd hx hne
      | cons c t => exact ⟨c, t, rfl⟩
    rw [ht] at h1 ⊢
    have := (digB_iff c).1 (by simp only [List.all_cons, Bool.and_eq_true] at h1; exact h1.1)
    simp only [List.head?_cons, beq_eq_false_iff_ne, ne_eq, Option.some.injEq]
    rintro rfl
    have : (45 : UInt8).toNat = 45 := rfl
    omega
  have hb : bodyD (Lib.decDigits n.toNat) = Lib.decDigits n.toNat := by unfold bodyD; rw [if_neg (by simp [hhd])]
  refine ⟨e, ?_, fun lo hi k1 k2 k3 => ?_⟩
  · rw [e]; unfold wordS
    simp only [Bool.and_eq_true, Bool.not_eq_true', List.isEmpty_eq_false_iff]
    exact ⟨List.all_eq_true.2 fun x hx => digB_word (List.all_eq_true.1 h1 x hx), hne⟩
  · have hv : valI (decW n) = n := by rw [e]; unfold valI; rw [if_neg (by simp [hhd]), hb, h2]; omega
    have hdec : decB (decW n) = true := by
      rw [e]; unfold decB
      rw [hb, h1]
      simp only [Bool.and_true, Bool.and_eq_true, Bool.not_eq_true', List.isEmpty_eq_false_iff]
      refine ⟨hne, ?_⟩
      rw [Bool.and_eq_false_iff]
      by_cases hz : n.toNat = 0
      · right
        have : Lib.decDigits n.toNat = [48] := by rw [hz, Lib.decDigits, dif_pos (by omega)]; rfl
        rw [this]; rfl
      · left
        rw [beq_eq_false_iff_ne]
        exact fun h => hz (h3 h)
    unfold numberS
    rw [hv, if_neg (by simp [hdec]), if_pos ⟨by unfold fitB; simp; omega, k1, k2⟩]
end Go.Proofs.YtoeeodemimndlaaGreatDoor
