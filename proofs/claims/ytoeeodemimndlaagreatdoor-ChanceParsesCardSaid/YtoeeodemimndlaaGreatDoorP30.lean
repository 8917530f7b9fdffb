/- Plain specifications of numbers: decimals, and what strconv.ParseInt gives for them. -/
import Derived.Test.YtoeeodemimndlaaGreatDoorP1
import Derived.Lib.AtoiAllCases
import Derived.Lib.ParseIntBTie
import Derived.Lib.SlTrimSet
set_option linter.unusedSimpArgs false
set_option linter.unusedVariables false
namespace Go.Proofs.YtoeeodemimndlaaGreatDoor

def digB (c : UInt8) : Bool := 48 ≤ c && c ≤ 57
/-- The value of digits behind a value. -/
def valF (n : Nat) (l : List UInt8) : Nat := l.foldl (fun (n : Nat) (c : UInt8) => n * 10 + (c.toNat - 48)) n
def negB (l : List UInt8) : Bool := l.head? == some 45
/-- What stands behind the sign. -/
def bodyD (l : List UInt8) : List UInt8 := if negB l = true then l.drop 1 else l
def decB (l : List UInt8) : Bool := !(bodyD l).isEmpty && !((bodyD l).head? == some 48 && !(l == [48])) && (bodyD l).all digB
def valI (l : List UInt8) : Int := if negB l = true then -(valF 0 (bodyD l) : Int) else valF 0 (bodyD l)
/-- Does a number fit an int64? -/
def fitB (v : Int) : Bool := decide (-9223372036854775808 ≤ v) && decide (v ≤ 9223372036854775807)
/-- Number: the integer of a decimal from lo to hi; the error. -/
def numberS (l : List UInt8) (lo hi : Int) : Int × Int :=
  if decB l = false then (0, 4) else if fitB (valI l) = true ∧ lo ≤ valI l ∧ valI l ≤ hi then (valI l, 0) else (0, 2)
theorem digB_iff (c : UInt8) : digB c = true ↔ 48 ≤ c.toNat ∧ c.toNat ≤ 57 := by
  unfold digB; simp [UInt8.le_iff_toNat_le]
theorem valF_cons (n : Nat) (c : UInt8) (r : List UInt8) : valF n (c :: r) = valF (n * 10 + (c.toNat - 48)) r := by unfold valF; rw [List.foldl_cons]
theorem valF_ge : ∀ (r : List UInt8) (n : Nat), n ≤ valF n r := by
  intro r
  induction r with
  | nil => intro n; exact Nat.le_refl _
  | cons c r ih => intro n; rw [valF_cons]; have := ih (n * 10 + (c.toNat - 48)); omega
theorem parseUint10_cons (n : Nat) (c : UInt8) (r : List UInt8) : Lib.parseUint10 n (c :: r) = if 48 ≤ c.toNat ∧ c.toNat ≤ 57 then (if 1844674407370955162 ≤ n then .range else if 18446744073709551616 ≤ n * 10 + (c.toNat - 48) then .range else Lib.parseUint10 (n * 10 + (c.toNat - 48)) r) else .syntax := by simp only [Lib.parseUint10]
theorem parseUint10_val : ∀ (r : List UInt8) (n : Nat), r.all digB = true → n < 18446744073709551616 →
    (valF n r < 18446744073709551616 → Lib.parseUint10 n r = .ok (valF n r)) ∧ (18446744073709551616 ≤ valF n r → Lib.parseUint10 n r = .range) := by
  intro r
  induction r with
  | nil => intro n _ h; exact ⟨fun _ => rfl, fun h' => absurd h (Nat.not_lt.2 h')⟩
  | cons c r ih =>
    intro n hd h
    simp only [List.all_cons, Bool.and_eq_true] at hd
    have hc := (digB_iff c).1 hd.1
    have hg := valF_ge r (n * 10 + (c.toNat - 48))
    rw [parseUint10_cons, if_pos hc, valF_cons]
    generalize hm : n * 10 + (c.toNat - 48) = m at *
    by_cases h1 : 1844674407370955162 ≤ n
    · rw [if_pos h1]
      exact ⟨fun h' => absurd h' (by omega), fun _ => rfl⟩
    · rw [if_neg h1]
      by_cases h2 : 18446744073709551616 ≤ m
      · rw [if_pos h2]
        exact ⟨fun h' => absurd h' (by omega), fun _ => rfl⟩
      · rw [if_neg h2]
        exact ih m hd.2 (Nat.not_le.1 h2)
theorem parse_dec {l : List UInt8} (h : decB l = true) : Lib.parseIntB 64 l = if fitB (valI l) = true then .ok (valI l) else .range := by
  rw [Lib.parseIntB_64]
  unfold decB at h
  simp only [Bool.and_eq_true, Bool.not_eq_true'] at h
  obtain ⟨⟨h1, _⟩, h3⟩ := h
  have hfit : ∀ v : Int, fitB v = true ↔ -9223372036854775808 ≤ v ∧ v ≤ 9223372036854775807 := fun v => by unfold fitB; simp
  cases hn : negB l with
  | true =>
    have hbd : bodyD l = l.drop 1 := by unfold bodyD; rw [if_pos hn]
    have hvi : valI l = -(valF 0 (l.drop 1) : Int) := by unfold valI; rw [if_pos hn, hbd]
    rw [hbd] at h1 h3
    rw [hvi]
    clear hbd hvi
    match l, hn with
    | c :: r, hn =>
      have hc : c = 45 := by unfold negB at hn; simpa using hn
      subst hc
      simp only [List.drop_succ_cons, List.drop_zero] at h1 h3 ⊢
      have hr : r ≠ [] := by intro e; rw [e] at h1; simp at h1
      have hu := parseUint10_val r 0 h3 (by omega)
      rw [Lib.atoiAll_minus, Lib.parseMag, if_neg hr]
      by_cases hv : valF 0 r < 18446744073709551616
      · rw [hu.1 hv]
        unfold Lib.signed
        simp only
        by_cases h4 : 9223372036854775808 < valF 0 r
        · rw [if_pos h4, if_neg (by rw [hfit]; omega)]
        · rw [if_neg h4, if_pos (by rw [hfit]; omega)]
      · rw [hu.2 (Nat.not_lt.1 hv), if_neg (by rw [hfit]; omega)]
        rfl
  | false =>
    have hbd : bodyD l = l := by unfold bodyD; rw [if_neg (by simp [hn])]
    have hvi : valI l = valF 0 l := by unfold valI; rw [if_neg (by simp [hn]), hbd]
    rw [hbd] at h1 h3
    rw [hvi]
    match l, hn with
    | [], _ => simp at h1
    | c :: r, hn =>
      have hc : c ≠ 45 := by unfold negB at hn; simpa using hn
      have hcd := (digB_iff c).1 (by simp only [List.all_cons, Bool.and_eq_true] at h3; exact h3.1)
      have hu := parseUint10_val (c :: r) 0 h3 (by omega)
      have h45 : c.toNat ≠ 45 := fun h => hc (UInt8.toNat_inj.1 h)
      rw [Lib.atoiAll_plain c r (by omega) h45, Lib.parseMag, if_neg (by simp)]
      by_cases hv : valF 0 (c :: r) < 18446744073709551616
      · rw [hu.1 hv]
        unfold Lib.signless
        simp only
        by_cases h4 : 9223372036854775808 ≤ valF 0 (c :: r)
        · rw [if_pos h4, if_neg (by rw [hfit]; omega)]
        · rw [if_neg h4, if_pos (by rw [hfit]; omega)]
      · rw [hu.2 (Nat.not_lt.1 hv), if_neg (by rw [hfit]; omega)]
        rfl
/-- The cutset of the digits. -/
def digits10 : List UInt8 := [48, 49, 50, 51, 52, 53, 54, 55, 56, 57]
theorem digits10_has (c : UInt8) : digits10.contains c = digB c := by
  rw [Bool.eq_iff_iff, digB_iff]
  unfold digits10
  simp only [List.contains_eq_mem, List.mem_cons, List.not_mem_nil, or_false, decide_eq_true_eq, ← UInt8.toNat_inj]
  simp only [UInt8.toNat_ofNat]
  omega
theorem dropWhile_nil {α : Type} {p : α → Bool} : ∀ (l : List α), l.dropWhile p = [] ↔ l.all p = true := by
  intro l
  induction l with
  | nil => simp
  | cons a l ih => cases h : p a <;> simp [List.dropWhile, h, ih]
theorem trim_digits (l : List UInt8) : Lib.trimS l digits10 = [] ↔ l.all digB = true := by
  unfold Lib.trimS Lib.trimLeftS Lib.trimRightS
  simp only [digits10_has]
  rw [dropWhile_nil]
  constructor
  · intro h
    rw [List.all_reverse] at h
    have h2 : (l.reverse.dropWhile digB) = [] := by
      match hm : l.reverse.dropWhile digB with
      | [] => rfl
      | a :: r =>
        have : digB a = false := by
          have := List.head_dropWhile_not digB (l := l.reverse) (by rw [hm]; simp)
          simpa [hm] using this
        rw [hm] at h
        simp [this] at h
    rw [dropWhile_nil] at h2
    simpa using h2
  · intro h
    have h2 : (l.reverse.dropWhile digB) = [] := by rw [dropWhile_nil]; simpa using h
    rw [h2]; rfl
end Go.Proofs.YtoeeodemimndlaaGreatDoor
