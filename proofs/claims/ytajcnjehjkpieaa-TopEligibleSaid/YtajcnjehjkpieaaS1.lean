/- The contract of slices.Index over slices that read as texts: the shelf's, in this family's words. -/
import Derived.Test.YtajcnjehjkpieaaPP
import Derived.Test.YtajcnjehjkpieaaG
set_option linter.unusedSimpArgs false
set_option linter.unusedVariables false
namespace Go.Proofs.Ytajcnjehjkpieaa
open Go.RowKit

theorem idxFromS_eq (x : ByteArray) : ∀ (l : List (List UInt8)) (i : Nat), Lib.idxFromS (l.map S) x i = indexF x.data.toList l i := by
  intro l
  induction l with
  | nil => intro i; rfl
  | cons a l ih =>
    intro i
    rw [List.map_cons, Lib.idxFromS, indexF, ih]
    have : (S a = x) = (a = x.data.toList) := by
      apply propext
      constructor
      · rintro rfl; simp
      · rintro rfl; rfl
    simp only [this]
theorem strs_cells {w : World} {F : Nat → Prop} {b o n c : Nat} {l : List (List UInt8)} (h : Sl 1 elStr w F (.slice (some ⟨b, o, none⟩) n c) l) : ∀ j, j < (l.map S).length → w.cell? ⟨b, o + j, none⟩ = some (.string ((l.map S).getD j ByteArray.empty)) := by
  intro j hj
  have hj' : j < l.length := by simpa using hj
  obtain ⟨b', o', h1, _, h2⟩ := h.str_at hj'
  simp only [Option.some.injEq, Addr.mk.injEq] at h1
  obtain ⟨rfl, rfl, _⟩ := h1
  rw [h2]
  simp [List.getD, List.getElem?_map, List.getElem?_eq_getElem hj']
theorem Sl.empty_or {α : Type} {size : Nat} {R : World → (Nat → Prop) → List Value → α → Prop} {w : World} {F : Nat → Prop} {v : Value} {l : List α} (h : Sl size R w F v l) :
    (l = [] ∧ ∃ A c, v = .slice A 0 c) ∨ ∃ b o c, v = .slice (some ⟨b, o, none⟩) l.length c ∧ l.length ≤ 9223372036854775807 ∧ 0 < l.length := by
  obtain ⟨A, c, rfl, hl, hc, hA⟩ := h
  by_cases h0 : 0 < l.length
  · obtain ⟨b, o, rfl, _⟩ := hA h0
    exact .inr ⟨b, o, c, rfl, by unfold maxLen at hc; omega, h0⟩
  · have : l = [] := List.eq_nil_of_length_eq_zero (by omega)
    subst this
    exact .inl ⟨rfl, A, c, rfl⟩
theorem str_Index (v : Value) (l : List (List UInt8)) (x : ByteArray) (F : Nat → Prop) (w : World) (h : Sl 1 elStr w F v l) :
    Calls Try.prog 27 #[v, .string x] w fun e w' => e = .returned (.int .i64 (indexS l x.data.toList)) ∧ w = w' := by
  rcases h.empty_or with ⟨rfl, A, c, rfl⟩ | ⟨b, o, c, rfl, hn, h0⟩
  · refine (Try.slices_Index_string_empty A c x w).mono ?_
    rintro e w' ⟨rfl, rfl⟩
    exact ⟨rfl, rfl⟩
  · refine (Try.slices_Index_string b o l.length c (l.map S) x w (by simp) hn (strs_cells h)).mono ?_
    rintro e w' ⟨rfl, rfl⟩
    refine ⟨?_, rfl⟩
    rw [List.take_of_length_le (by simp), Lib.idxOfS, idxFromS_eq]; rfl
theorem indexF_pos (s : List UInt8) : ∀ (l : List (List UInt8)) (i : Nat), (0 ≤ indexF s l i) ↔ s ∈ l := by
  intro l
  induction l with
  | nil => intro i; simp [indexF]
  | cons a l ih =>
    intro i
    rw [indexF]
    by_cases h : a = s
    · subst h; simp <;> omega
    · rw [if_neg h, ih]; simp [Ne.symm h]
end Go.Proofs.Ytajcnjehjkpieaa
