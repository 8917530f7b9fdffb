/- Plain specifications of package text: quoting and writing. -/
import Derived.Test.YtfljohhocgaheaaDoorP3
import Derived.Lib.Replace
import Derived.Lib.CountLaws
set_option linter.unusedSimpArgs false
set_option linter.unusedVariables false
namespace Go.Proofs.YtfljohhocgaheaaDoor

def wordS (l : List UInt8) : Bool := l.all wordB && !l.isEmpty
/-- The bytes c of l, each replaced by n. -/
def subst1 (c : UInt8) (n : List UInt8) (l : List UInt8) : List UInt8 := l.flatMap fun b => if b = c then n else [b]
theorem subst1_miss (c : UInt8) (n l : List UInt8) (h : Lib.index l [c] = -1) : subst1 c n l = l := by
  have hp := pieces_miss c l h
  clear h
  have : ∀ b ∈ l, b ≠ c := by
    induction l with
    | nil => simp
    | cons b l ih =>
      rw [pieces] at hp
      split at hp
      · simp at hp
      · rename_i hb
        split at hp
        · rename_i he; exact absurd he (pieces_ne c l)
        · rename_i p ps he
          simp only [List.cons.injEq, true_and] at hp
          obtain ⟨rfl, rfl⟩ := hp
          intro x hx
          rcases List.mem_cons.1 hx with rfl | hx
          · exact hb
          · exact ih he x hx
  induction l with
  | nil => rfl
  | cons b l ih =>
    have hb := this b (by simp)
    unfold subst1 at *
    rw [List.flatMap_cons, if_neg hb]
    have := ih (by
      rw [pieces, if_neg hb] at hp
      split at hp
      · rename_i he; exact absurd he (pieces_ne c l)
      · rename_i p ps he
        simp only [List.cons.injEq, true_and] at hp
        obtain ⟨rfl, rfl⟩ := hp
        exact he) (fun x hx => this x (by simp [hx]))
    rw [this]; rfl
theorem subst1_hit (c : UInt8) (n l : List UInt8) (i : Nat) (h : Lib.index l [c] = i) : subst1 c n l = l.take i ++ n ++ subst1 c n (l.drop (i + 1)) := by
  induction l generalizing i with
  | nil => simp [Lib.index] at h
  | cons b l ih =>
    rw [Lib.index] at h
    by_cases hb : b = c
    · subst hb
      have : i = 0 := by simp at h; omega
      subst this
      simp [subst1]
    · have hp : [c].isPrefixOf (b :: l) = false := by
        have : (c == b) = false := beq_eq_false_iff_ne.2 (Ne.symm hb)
        simp [List.isPrefixOf, this]
      rw [hp] at h
      simp only [Bool.false_eq_true, if_false] at h
      split at h
      · omega
      · rename_i hm
        have hge := Lib.index_ge l [c]
        have hne : Lib.index l [c] ≠ -1 := by simpa using hm
        obtain ⟨j, hj⟩ : ∃ j : Nat, Lib.index l [c] = j := ⟨(Lib.index l [c]).toNat, by omega⟩
        have : i = j + 1 := by omega
        subst this
        have := ih j hj
        unfold subst1 at *
        rw [List.flatMap_cons, if_neg hb, this]
        simp
theorem replaceK_subst1 (c : UInt8) (n : List UInt8) : ∀ (k : Nat) (l : List UInt8), Lib.count l [c] = k → Lib.replaceK [c] n k l = subst1 c n l := by
  intro k
  induction k with
  | zero =>
    intro l hk
    have hge := Lib.index_ge l [c]
    by_cases hm : Lib.index l [c] = -1
    · rw [subst1_miss c n l hm]; rfl
    · obtain ⟨i, hi⟩ : ∃ i : Nat, Lib.index l [c] = i := ⟨(Lib.index l [c]).toNat, by omega⟩
      have := Lib.count_hit (by simp) hi; omega
  | succ k ih =>
    intro l hk
    have hge := Lib.index_ge l [c]
    by_cases hm : Lib.index l [c] = -1
    · have := Lib.count_miss hm; omega
    · obtain ⟨i, hi⟩ : ∃ i : Nat, Lib.index l [c] = i := ⟨(Lib.index l [c]).toNat, by omega⟩
      have hc := Lib.count_hit (by simp) hi
      have h1 : [c].length = 1 := rfl
      rw [h1] at hc
      rw [Lib.replaceK_hit [c] n k l i hi, subst1_hit c n l i hi, h1, ih _ (by omega)]
theorem replaceAll_subst1 (c : UInt8) (n l : List UInt8) (hn : [c] ≠ n) : Lib.replaceAll l [c] n = subst1 c n l := by
  unfold Lib.replaceAll Lib.replace
  rw [if_neg (by simpa using hn)]
  have : Lib.replaceNum l [c] (-1) = Lib.count l [c] := by unfold Lib.replaceNum; rw [if_pos (.inl (by decide))]
  rw [this]
  exact replaceK_subst1 c n _ l rfl
/-- A string as a quoted field. -/
def quoteS (l : List UInt8) : List UInt8 := 34 :: subst1 34 [34, 34] l ++ [34]
def fieldW (f : Fld) : List UInt8 := if f.quoted || !wordS f.text then quoteS f.text else f.text
def lineW : List Fld → Bool → List UInt8
  | [], _ => []
  | f :: fs, first => (if first then [] else [32]) ++ fieldW f ++ lineW fs false
def endW (fs : List Fld) : List UInt8 := if fs.isEmpty then [] else [10]
def writeS : List Lin → List UInt8
  | [] => []
  | x :: ls => lineW x.fields true ++ endW x.fields ++ writeS ls
theorem subst1_len (l : List UInt8) : l.length ≤ (subst1 34 [34, 34] l).length := by
  induction l with
  | nil => simp
  | cons b l ih =>
    unfold subst1 at *
    rw [List.flatMap_cons, List.length_append, List.length_cons]
    split
    · have : [34, 34].length = 2 := rfl
      omega
    · have : [b].length = 1 := rfl
      omega
theorem subst1_le (l : List UInt8) : (subst1 34 [34, 34] l).length ≤ 2 * l.length := by
  induction l with
  | nil => simp [subst1]
  | cons b l ih =>
    unfold subst1 at *
    rw [List.flatMap_cons, List.length_append, List.length_cons]
    split
    · have : [34, 34].length = 2 := rfl
      omega
    · have : [b].length = 1 := rfl
      omega
theorem quoteS_len (l : List UInt8) : l.length ≤ (quoteS l).length := by
  have := subst1_len l; unfold quoteS; rw [List.length_append, List.length_cons]; omega
theorem quoteS_le (l : List UInt8) : (quoteS l).length ≤ 2 * l.length + 2 := by
  have := subst1_le l; unfold quoteS; rw [List.length_append, List.length_cons]; simp only [List.length_cons, List.length_nil]; omega
theorem fieldW_len (f : Fld) : f.text.length ≤ (fieldW f).length := by
  unfold fieldW; split
  · exact quoteS_len _
  · exact Nat.le_refl _
end Go.Proofs.YtfljohhocgaheaaDoor
