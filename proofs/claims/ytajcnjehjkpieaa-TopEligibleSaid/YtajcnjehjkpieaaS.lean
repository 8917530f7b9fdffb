/- Contracts of slices.Contains and Equal over slices that read as texts: the shelf's, in this family's words. -/
import Derived.Test.YtajcnjehjkpieaaS1
set_option linter.unusedSimpArgs false
set_option linter.unusedVariables false
namespace Go.Proofs.Ytajcnjehjkpieaa
open Go.RowKit

theorem str_Contains (v : Value) (l : List (List UInt8)) (x : ByteArray) (F : Nat → Prop) (w : World) (h : Sl 1 elStr w F v l) :
    Calls Try.prog 10 #[v, .string x] w fun e w' => e = .returned (.bool (decide (x.data.toList ∈ l))) ∧ w = w' := by
  rcases h.empty_or with ⟨rfl, A, c, rfl⟩ | ⟨b, o, c, rfl, hn, h0⟩
  · refine (Try.slices_Contains_string_empty A c x w).mono ?_
    rintro e w' ⟨rfl, rfl⟩
    exact ⟨by simp, rfl⟩
  · refine (Try.slices_Contains_string b o l.length c (l.map S) x w (by simp) hn (strs_cells h)).mono ?_
    rintro e w' ⟨rfl, rfl⟩
    refine ⟨?_, rfl⟩
    rw [List.take_of_length_le (by simp), Lib.containsS, Lib.idxOfS, idxFromS_eq]
    refine ret_b ?_
    rw [Bool.eq_iff_iff, decide_eq_true_eq, decide_eq_true_eq]
    exact indexF_pos _ l 0
theorem str_Equal (v v' : Value) (l l' : List (List UInt8)) (F F' : Nat → Prop) (w : World) (h : Sl 1 elStr w F v l) (h' : Sl 1 elStr w F' v' l') :
    Calls Try.prog 14 #[v, v'] w fun e w' => e = .returned (.bool (decide (l = l'))) ∧ ∃ n, w' = w.drewN n := by
  by_cases hlen : l.length = l'.length
  · rcases h.empty_or with ⟨rfl, A, c, rfl⟩ | ⟨b, o, c, rfl, hn, h0⟩
    · obtain ⟨A', c', rfl, _⟩ := h'.shape
      refine (Try.slices_Equal_string_empty A A' c l'.length c' w (by simp at hlen; omega)).mono ?_
      rintro e w' ⟨rfl, rfl⟩
      have : l' = [] := List.eq_nil_of_length_eq_zero (by simpa using hlen.symm)
      subst this
      exact ⟨by simp, 0, rfl⟩
    · rcases h'.empty_or with ⟨rfl, A, c, rfl⟩ | ⟨b', o', c', rfl, hn', h0'⟩
      · rw [hlen] at h0; exact absurd h0 (by simp)
      · refine (Try.slices_Equal_string b o l.length c b' o' l'.length c' (l.map S) (l'.map S) w (by simp) (by simp) hn hn' (strs_cells h) (strs_cells h')).mono ?_
        rintro e w' ⟨rfl, q, rfl⟩
        refine ⟨?_, q, rfl⟩
        rw [List.take_of_length_le (by simp), List.take_of_length_le (by simp)]
        refine ret_b ?_
        rw [Bool.eq_iff_iff, decide_eq_true_eq, decide_eq_true_eq]
        constructor
        · intro he
          have := congrArg (List.map (·.data.toList)) he
          simpa [Function.comp_def] using this
        · rintro rfl; rfl
  · obtain ⟨A, c, rfl, _⟩ := h.shape
    obtain ⟨A', c', rfl, _⟩ := h'.shape
    refine (Try.slices_Equal_string_lens A A' l.length c l'.length c' w hlen).mono ?_
    rintro e w' ⟨rfl, rfl⟩
    exact ⟨ret_b (by symm; rw [decide_eq_false_iff_not]; rintro rfl; exact hlen rfl), 0, rfl⟩
end Go.Proofs.Ytajcnjehjkpieaa
