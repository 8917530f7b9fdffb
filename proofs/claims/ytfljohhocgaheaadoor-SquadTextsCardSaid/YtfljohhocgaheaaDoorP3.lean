/- Plain specifications of package text: the lines of a source. -/
import Derived.Test.YtfljohhocgaheaaDoorP2
import Derived.Lib.Split
import Derived.Lib.SplitLaws
set_option linter.unusedSimpArgs false
set_option linter.unusedVariables false
namespace Go.Proofs.YtfljohhocgaheaaDoor

/-- The pieces between the bytes c. -/
def pieces (c : UInt8) : List UInt8 → List (List UInt8)
  | [] => [[]]
  | b :: l => if b = c then [] :: pieces c l else match pieces c l with | [] => [[b]] | p :: ps => (b :: p) :: ps
theorem pieces_ne (c : UInt8) (l : List UInt8) : pieces c l ≠ [] := by
  cases l with
  | nil => simp [pieces]
  | cons b l => rw [pieces]; split; · simp
                · split <;> simp
theorem pieces_miss (c : UInt8) (l : List UInt8) (h : Lib.index l [c] = -1) : pieces c l = [l] := by
  induction l with
  | nil => rfl
  | cons b l ih =>
    rw [Lib.index] at h
    by_cases hb : b = c
    · subst hb; simp at h
    · have hp : [c].isPrefixOf (b :: l) = false := by
        have : (c == b) = false := beq_eq_false_iff_ne.2 (Ne.symm hb)
        simp [List.isPrefixOf, this]
      rw [hp] at h
      simp only [Bool.false_eq_true, if_false] at h
      split at h
      · rename_i hm
        rw [pieces, if_neg hb, ih (by simpa using hm)]
      · have := Lib.index_ge l [c]; omega
theorem pieces_hit (c : UInt8) (l : List UInt8) (i : Nat) (h : Lib.index l [c] = i) : pieces c l = l.take i :: pieces c (l.drop (i + 1)) := by
  induction l generalizing i with
  | nil => simp [Lib.index] at h
  | cons b l ih =>
    rw [Lib.index] at h
    by_cases hb : b = c
    · subst hb
      have : i = 0 := by simp at h; omega
      subst this
      simp [pieces]
    · have hp : [c].isPrefixOf (b :: l) = false := by
        have : (c == b) = false := beq_eq_false_iff_ne.2 (Ne.symm hb)
        simp [List.isPrefixOf, this]
      rw [hp] at h
      simp only [Bool.false_eq_true, if_false] at h
      split at h
      · omega
      · rename_i hm
        have hge := Lib.index_ge l [c]
        have hne : Lib.index l [c] ≠ -1 := by simpa using hm
        obtain ⟨j, hj⟩ : ∃ j : Nat, Lib.index l [c] = j := ⟨(Lib.index l [c]).toNat, by omega⟩
        have : i = j + 1 := by omega
        subst this
        rw [pieces, if_neg hb, ih j hj]
        simp
theorem splitB_pieces (c : UInt8) : ∀ (k : Nat) (s : ByteArray), Lib.countB s ⟨#[c]⟩ = k → (Lib.splitB ⟨#[c]⟩ 0 k s).map (·.data.toList) = pieces c s.data.toList := by
  intro k
  induction k with
  | zero =>
    intro s hk
    have hi : Lib.index s.data.toList [c] = -1 := by
      have hge := Lib.index_ge s.data.toList [c]
      rcases Int.lt_or_le (Lib.index s.data.toList [c]) 0 with h | h
      · omega
      · obtain ⟨i, hi⟩ : ∃ i : Nat, Lib.index s.data.toList [c] = i := ⟨(Lib.index s.data.toList [c]).toNat, by omega⟩
        have := Lib.countB_hit s ⟨#[c]⟩ i (Nat.le_refl 1) hi
        omega
    rw [Lib.splitB_zero, pieces_miss c _ hi]; rfl
  | succ k ih =>
    intro s hk
    have hge := Lib.index_ge s.data.toList [c]
    by_cases hm : Lib.index s.data.toList [c] = -1
    · have := Lib.countB_miss s ⟨#[c]⟩ hm; omega
    · obtain ⟨i, hi⟩ : ∃ i : Nat, Lib.index s.data.toList [c] = i := ⟨(Lib.index s.data.toList [c]).toNat, by omega⟩
      have hc := Lib.countB_hit s ⟨#[c]⟩ i (Nat.le_refl 1) hi
      have h1 : (⟨#[c]⟩ : ByteArray).size = 1 := rfl
      rw [h1] at hc
      rw [Lib.splitB_hit ⟨#[c]⟩ 0 k s i hi, pieces_hit c _ i hi, List.map_cons, h1, ih _ (by omega)]
      congr 1
      · rw [Lib.extract_data]; simp
      · rw [Lib.extract_data]
        congr 1
        rw [List.take_of_length_le (by simp)]

/-- The lines of the pieces: their number, the lines and the diagnostics so far. -/
def splitF : List (List UInt8) → Int → List Lin → List Dia → List Lin × List Dia
  | [], _, out, ds => (out, ds)
  | p :: ps, n, out, ds =>
    if 1000 < p.length then splitF ps (n + 1) out (if ds.length < 50 then ds ++ [⟨n, 1001, 9⟩] else ds)
    else if (fieldsS p).2 ≠ 0 then splitF ps (n + 1) out (if ds.length < 50 then ds ++ [⟨n, (fieldsS p).2, 4⟩] else ds)
    else if (fieldsS p).1 ≠ [] then splitF ps (n + 1) (out ++ [⟨n, (fieldsS p).1⟩]) ds
    else splitF ps (n + 1) out ds
def splitS (src : List UInt8) : List Lin × List Dia := if 262144 < src.length then ([], [⟨1, 1, 9⟩]) else splitF (pieces 10 src) 1 [] []
theorem pieces_len (c : UInt8) (l : List UInt8) : (pieces c l).length ≤ l.length + 1 := by
  induction l with
  | nil => simp [pieces]
  | cons b l ih =>
    rw [pieces]
    split
    · simp; omega
    · split
      · simp
      · rename_i h; rw [h] at ih; simp at ih ⊢; omega
end Go.Proofs.YtfljohhocgaheaaDoor
