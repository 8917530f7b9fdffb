/- Plain laws: the reference's way through a decimal, digit by digit; decimals with leading zeros. -/
import Derived.Test.YtoeeodemimndlaaGreatDoorP30
import Derived.Lib.ItoaNum
set_option linter.unusedSimpArgs false
set_option linter.unusedVariables false
namespace Go.Proofs.YtoeeodemimndlaaGreatDoor

theorem valF_snoc (n : Nat) (l : List UInt8) (c : UInt8) : valF n (l ++ [c]) = valF n l * 10 + (c.toNat - 48) := by unfold valF; rw [List.foldl_append]; rfl
/-- How far the digits have been read: k of them, their value n if it is not too big. -/
def NumInv (d : List UInt8) (k : Nat) (n : Int) (big : Bool) : Prop :=
  (d.take k).all digB = true ∧ 0 ≤ n ∧ n < 18446744073709551616 ∧ (big = false → n = valF 0 (d.take k)) ∧ (big = true → 9223372036854775808 < (valF 0 (d.take k) : Int))
theorem NumInv.start (d : List UInt8) : NumInv d 0 0 false := ⟨rfl, by omega, by omega, fun _ => rfl, fun h => by cases h⟩
theorem NumInv.small {d : List UInt8} {k : Nat} {n : Int} (h : NumInv d k n false) : n = valF 0 (d.take k) := h.2.2.2.1 rfl
theorem take_succ_get {α : Type} {l : List α} {k : Nat} (h : k < l.length) : l.take (k + 1) = l.take k ++ [l[k]] := List.take_succ_eq_append_getElem h
theorem NumInv.next {d : List UInt8} {k : Nat} {n : Int} {big : Bool} (h : NumInv d k n big) (hk : k < d.length) (hd : digB d[k] = true) {n' : Int} {big' : Bool}
    (hn0 : 0 ≤ n') (hn1 : n' < 18446744073709551616) (hb : big' = true ↔ (big = true ∨ 1152921504606846976 < n)) (hn : n ≤ 1152921504606846976 → n' = n * 10 + ((d[k].toNat : Int) - 48)) : NumInv d (k + 1) n' big' := by
  obtain ⟨h1, h2, h3, h4, h5⟩ := h
  have hdd := (digB_iff _).1 hd
  have hv : valF 0 (d.take (k + 1)) = valF 0 (d.take k) * 10 + (d[k].toNat - 48) := by rw [take_succ_get hk, valF_snoc]
  refine ⟨by rw [take_succ_get hk, List.all_append, h1]; simp [hd], hn0, hn1, fun hbb => ?_, fun hbb => ?_⟩
  · have hnb : ¬ (big = true ∨ 1152921504606846976 < n) := fun hx => by rw [hb.2 hx] at hbb; cases hbb
    obtain ⟨x1, x2⟩ := not_or.1 hnb
    have hbf : big = false := by cases big <;> simp_all
    have e := h4 hbf
    rw [hn (by omega), hv, e]
    push_cast
    omega
  · rw [hv]
    rcases hb.1 hbb with hx | hx
    · have := h5 hx; push_cast; omega
    · cases big with
      | true => have := h5 rfl; push_cast; omega
      | false => have := h4 rfl; push_cast; omega
theorem NumInv.not_digit {d : List UInt8} {k : Nat} (hk : k < d.length) (hd : digB d[k] = false) : d.all digB = false := by
  rw [Bool.eq_false_iff]
  intro h
  have := List.all_eq_true.1 h _ (List.getElem_mem hk)
  rw [hd] at this; cases this
/-- What the reference's number comes to behind all digits. -/
theorem NumInv.fin {d : List UInt8} {n : Int} {big : Bool} (h : NumInv d d.length n big) : d.all digB = true ∧ (big = true → 9223372036854775808 < (valF 0 d : Int)) ∧ (big = false → n = valF 0 d) := by
  obtain ⟨h1, _, _, h4, h5⟩ := h
  rw [List.take_of_length_le (Nat.le_refl _)] at h1 h4 h5
  exact ⟨h1, h5, h4⟩
/-- A decimal with leading zeros. -/
def padS (n width : Int) : List UInt8 := (if n < 0 then [45] else []) ++ (List.replicate ((max (min width 20) 0).toNat - (Lib.decDigits n.natAbs).length) 48 ++ Lib.decDigits n.natAbs)
/-- The digits in front of s, zeros in front of them up to M bytes. -/
def padR (M u : Nat) (s : List UInt8) : List UInt8 :=
  if u = 0 then List.replicate (M - s.length) 48 ++ s else List.replicate (M - (s.length + (Lib.decDigits u).length)) 48 ++ (Lib.decDigits u ++ s)
theorem padR_step {M u : Nat} {s : List UInt8} (h : 0 < u ∨ s.length < M) : padR M u s = padR M (u / 10) (UInt8.ofNat (48 + u % 10) :: s) := by
  unfold padR
  by_cases hu : u = 0
  · subst hu
    have hs : s.length < M := h.resolve_left (by omega)
    rw [if_pos rfl, if_pos rfl]
    have e : M - s.length = (M - (s.length + 1)) + 1 := by omega
    rw [List.length_cons, e, List.replicate_succ']
    simp
  · rw [if_neg hu]
    by_cases h10 : u < 10
    · have e0 : u / 10 = 0 := by omega
      have e1 : u % 10 = u := by omega
      rw [e0, if_pos rfl, Lib.decDigits, dif_pos h10, e1]
      simp
    · rw [if_neg (by omega), Lib.decDigits, dif_neg h10]
      simp only [List.length_append, List.length_cons, List.length_nil, List.append_assoc, List.singleton_append]
      congr 2
      omega
theorem padR_end {M : Nat} {s : List UInt8} (h : M ≤ s.length) : padR M 0 s = s := by
  unfold padR; rw [if_pos rfl, show M - s.length = 0 by omega]; rfl
theorem decDigits_pos (u : Nat) : 1 ≤ (Lib.decDigits u).length := by
  rw [Lib.decDigits]; split <;> simp
/-- The reference's digits are the decimal ones. -/
theorem padR_all (u : Nat) (width : Int) : padR (max 1 (min width 20)).toNat u [] = List.replicate ((max (min width 20) 0).toNat - (Lib.decDigits u).length) 48 ++ Lib.decDigits u := by
  have hp := decDigits_pos u
  unfold padR
  by_cases hu : u = 0
  · subst hu
    rw [if_pos rfl]
    have e : Lib.decDigits 0 = [48] := by rw [Lib.decDigits, dif_pos (by omega)]; rfl
    rw [e]
    have e2 : (max 1 (min width 20)).toNat - ([] : List UInt8).length = ((max (min width 20) 0).toNat - [(48 : UInt8)].length) + 1 := by simp; omega
    rw [e2, List.replicate_succ']
    simp
  · rw [if_neg hu]
    simp only [List.length_nil, Nat.zero_add, List.append_nil]
    congr 2
    omega
theorem padS_one (n : Int) : padS n 1 = Lib.itoa n := by
  unfold padS Lib.itoa
  have hp := decDigits_pos n.natAbs
  have e : (max (min (1 : Int) 20) 0).toNat - (Lib.decDigits n.natAbs).length = 0 := by omega
  rw [e]
  by_cases h : n < 0
  · simp [h]
  · rw [if_neg h, if_neg h]
    have : n.natAbs = n.toNat := by omega
    rw [this]; simp
end Go.Proofs.YtoeeodemimndlaaGreatDoor
