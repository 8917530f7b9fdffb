/- Contracts of slices.Index, Contains and Equal over slices that read as texts: the shelf's, in this family's words. -/
import Derived.Test.YtfljohhocgaheaaDoorP5
import Derived.Test.YtfljohhocgaheaaDoorG
set_option linter.unusedSimpArgs false
set_option linter.unusedVariables false
namespace Go.Proofs.YtfljohhocgaheaaDoor
open Go.RowKit

theorem idxFromS_eq (x : ByteArray) : ∀ (l : List (List UInt8)) (i : Nat), Lib.idxFromS (l.map S) x i = indexF x.data.toList l i := by
  intro l
  induction l with
  | nil => intro i; rfl
  | cons a l ih =>
    intro i
    rw [List.map_cons, Lib.idxFromS, indexF, ih]
    have : (S a = x) = (a = x.data.toList) := by
      apply propext
      constructor
      · rintro rfl; simp
      · rintro rfl; rfl
    simp only [this]
theorem strs_cells {w : World} {F : Nat → Prop} {b o n c : Nat} {l : List (List UInt8)} (h : Sl 1 elStr w F (.slice (some ⟨b, o, none⟩) n c) l) : ∀ j, j < (l.map S).length → w.cell? ⟨b, o + j, none⟩ = some (.string ((l.map S).getD j ByteArray.empty)) := by
  intro j hj
  have hj' : j < l.length := by simpa using hj
  obtain ⟨b', o', h1, _, h2⟩ := h.str_at hj'
  simp only [Option.some.injEq, Addr.mk.injEq] at h1
  obtain ⟨rfl, rfl, _⟩ := h1
  rw [h2]
  simp [List.getD, List.getElem?_map, List.getElem?_eq_getElem hj']
theorem Sl.empty_or {α : Type} {size : Nat} {R : World → (Nat → Prop) → List Value → α → Prop} {w : World} {F : Nat → Prop} {v : Value} {l : List α} (h : Sl size R w F v l) :
    (l = [] ∧ ∃ A c, v = .slice A 0 c) ∨ ∃ b o c, v = .slice (some ⟨b, o, none⟩) l.length c ∧ l.length ≤ 9223372036854775807 ∧ 0 < l.length := by
  obtain ⟨A, c, rfl, hl, hc, hA⟩ := h
  by_cases h0 : 0 < l.length
  · obtain ⟨b, o, rfl, _⟩ := hA h0
    exact .inr ⟨b, o, c, rfl, by unfold maxLen at hc; omega, h0⟩
  · have : l = [] := List.eq_nil_of_length_eq_zero (by omega)
    subst this
    exact .inl ⟨rfl, A, c, rfl⟩
theorem str_Index (v : Value) (l : List (List UInt8)) (x : ByteArray) (F : Nat → Prop) (w : World) (h : Sl 1 elStr w F v l) :
    Calls Tryd.prog 48 #[v, .string x] w fun e w' => e = .returned (.int .i64 (indexS l x.data.toList)) ∧ w = w' := by
  rcases h.empty_or with ⟨rfl, A, c, rfl⟩ | ⟨b, o, c, rfl, hn, h0⟩
  · refine (Tryd.slices_Index_string_empty A c x w).mono ?_
    rintro e w' ⟨rfl, rfl⟩
    exact ⟨rfl, rfl⟩
  · refine (Tryd.slices_Index_string b o l.length c (l.map S) x w (by simp) hn (strs_cells h)).mono ?_
    rintro e w' ⟨rfl, rfl⟩
    refine ⟨?_, rfl⟩
    rw [List.take_of_length_le (by simp), Lib.idxOfS, idxFromS_eq]; rfl
theorem indexF_pos (s : List UInt8) : ∀ (l : List (List UInt8)) (i : Nat), (0 ≤ indexF s l i) ↔ s ∈ l := by
  intro l
  induction l with
  | nil => intro i; simp [indexF]
  | cons a l ih =>
    intro i
    rw [indexF]
    by_cases h : a = s
    · subst h; simp <;> omega
    · rw [if_neg h, ih]; simp [Ne.symm h]
theorem str_Contains (v : Value) (l : List (List UInt8)) (x : ByteArray) (F : Nat → Prop) (w : World) (h : Sl 1 elStr w F v l) :
    Calls Tryd.prog 45 #[v, .string x] w fun e w' => e = .returned (.bool (decide (x.data.toList ∈ l))) ∧ w = w' := by
  rcases h.empty_or with ⟨rfl, A, c, rfl⟩ | ⟨b, o, c, rfl, hn, h0⟩
  · refine (Tryd.slices_Contains_string_empty A c x w).mono ?_
    rintro e w' ⟨rfl, rfl⟩
    exact ⟨by simp, rfl⟩
  · refine (Tryd.slices_Contains_string b o l.length c (l.map S) x w (by simp) hn (strs_cells h)).mono ?_
    rintro e w' ⟨rfl, rfl⟩
    refine ⟨?_, rfl⟩
    rw [List.take_of_length_le (by simp), Lib.containsS, Lib.idxOfS, idxFromS_eq]
    refine ret_b ?_
    rw [Bool.eq_iff_iff, decide_eq_true_eq, decide_eq_true_eq]
    exact indexF_pos _ l 0
theorem str_Equal (v v' : Value) (l l' : List (List UInt8)) (F F' : Nat → Prop) (w : World) (h : Sl 1 elStr w F v l) (h' : Sl 1 elStr w F' v' l') :
    Calls Tryd.prog 46 #[v, v'] w fun e w' => e = .returned (.bool (decide (l = l'))) ∧ ∃ n, w' = w.drewN n := by
  by_cases hlen : l.length = l'.length
  · rcases h.empty_or with ⟨rfl, A, c, rfl⟩ | ⟨b, o, c, rfl, hn, h0⟩
    · obtain ⟨A', c', rfl, _⟩ := h'.shape
      refine (Tryd.slices_Equal_string_empty A A' c l'.length c' w (by simp at hlen; omega)).mono ?_
      rintro e w' ⟨rfl, rfl⟩
      have : l' = [] := List.eq_nil_of_length_eq_zero (by simpa using hlen.symm)
      subst this
      exact ⟨by simp, 0, rfl⟩
    · rcases h'.empty_or with ⟨rfl, A, c, rfl⟩ | ⟨b', o', c', rfl, hn', h0'⟩
      · rw [hlen] at h0; exact absurd h0 (by simp)
      · refine (Tryd.slices_Equal_string b o l.length c b' o' l'.length c' (l.map S) (l'.map S) w (by simp) (by simp) hn hn' (strs_cells h) (strs_cells h')).mono ?_
        rintro e w' ⟨rfl, q, rfl⟩
        refine ⟨?_, q, rfl⟩
        rw [List.take_of_length_le (by simp), List.take_of_length_le (by simp)]
        refine ret_b ?_
        rw [Bool.eq_iff_iff, decide_eq_true_eq, decide_eq_true_eq]
        constructor
        · intro he
          have := congrArg (List.map (·.data.toList)) he
          simpa [Function.comp_def] using this
        · rintro rfl; rfl
  · obtain ⟨A, c, rfl, _⟩ := h.shape
    obtain ⟨A', c', rfl, _⟩ := h'.shape
    refine (Tryd.slices_Equal_string_lens A A' l.length c l'.length c' w hlen).mono ?_
    rintro e w' ⟨rfl, rfl⟩
    exact ⟨ret_b (by symm; rw [decide_eq_false_iff_not]; rintro rfl; exact hlen rfl), 0, rfl⟩
end Go.Proofs.YtfljohhocgaheaaDoor
