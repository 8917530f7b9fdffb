/- Plain specifications of package text: the fields of a line. -/
import Derived.Test.YtfljohhocgaheaaDoorP1
import Derived.Lib.Strings
set_option linter.unusedSimpArgs false
set_option linter.unusedVariables false
namespace Go.Proofs.YtfljohhocgaheaaDoor

structure Fld where
  text : List UInt8
  col : Int
  quoted : Bool
deriving DecidableEq
structure Lin where
  num : Int
  fields : List Fld
deriving DecidableEq
structure Dia where
  line : Int
  col : Int
  code : Int
deriving DecidableEq

/-- What is left of a line (its first byte has index i), whether a quoted string has just ended, the fields so far; the fields, and the column of the byte that cannot be accepted (0: none). -/
def fieldsF : Nat → List UInt8 → Nat → Bool → List Fld → List Fld × Nat
  | 0, _, _, _, out => (out, 0)
  | _, [], _, _, out => (out, 0)
  | n + 1, c :: l, i, after, out =>
    if whiteB c then fieldsF n l (i + 1) false out
    else if c = 59 then (out, 0)
    else if after then ([], i + 1)
    else if c = 34 then
      if (quotedS l (i + 1) []).2.2 then fieldsF n (l.drop ((quotedS l (i + 1) []).2.1 - (i + 1))) (quotedS l (i + 1) []).2.1 true (out ++ [⟨(quotedS l (i + 1) []).1, (i : Int) + 1, true⟩])
      else ([], (quotedS l (i + 1) []).2.1 + 1)
    else if ((c :: l).takeWhile wordB).length = 0 ∨ ((c :: l).dropWhile wordB).head? = some 34 then ([], i + ((c :: l).takeWhile wordB).length + 1)
    else fieldsF n ((c :: l).dropWhile wordB) (i + ((c :: l).takeWhile wordB).length) false (out ++ [⟨(c :: l).takeWhile wordB, (i : Int) + 1, false⟩])

theorem quotedS_len (n : Nat) : ∀ (l : List UInt8), l.length ≤ n → ∀ (j : Nat) (acc : List UInt8),
    j ≤ (quotedS l j acc).2.1 ∧ (quotedS l j acc).2.1 ≤ j + l.length ∧ ((quotedS l j acc).2.2 = true → j + 1 ≤ (quotedS l j acc).2.1) := by
  induction n with
  | zero => intro l hl j acc; have : l = [] := List.eq_nil_of_length_eq_zero (by omega); subst this; simp [quotedS]
  | succ n ih =>
    intro l hl j acc
    cases l with
    | nil => simp [quotedS]
    | cons c l =>
      simp only [List.length_cons] at hl ⊢
      rw [quotedS.eq_def]; dsimp only
      split
      · cases l with
        | nil => simp
        | cons d l' =>
          simp only [List.length_cons] at hl ⊢
          split
          · have := ih l' (by omega) (j + 2) (acc ++ [34]); omega
          · exact ⟨by simp, by simp, by simp⟩
      · split
        · have := ih l (by omega) (j + 1) (acc ++ [c]); omega
        · simp

theorem quotedAt_len (s : ByteArray) (j : Nat) (acc : List UInt8) (h : j ≤ s.size) : j ≤ (quotedAt s j acc).2.1 ∧ (quotedAt s j acc).2.1 ≤ s.size ∧ ((quotedAt s j acc).2.2 = true → j + 1 ≤ (quotedAt s j acc).2.1) := by
  have h1 := quotedS_len _ (s.data.toList.drop j) (Nat.le_refl _) j acc
  have h2 : (s.data.toList.drop j).length = s.size - j := by simp
  rw [h2] at h1
  obtain ⟨a, b, c⟩ := h1
  exact ⟨a, Nat.le_trans b (by omega), c⟩
theorem drop_len {α : Type} (p : α → Bool) (l : List α) : (l.takeWhile p).length + (l.dropWhile p).length = l.length := by
  rw [← List.length_append, List.takeWhile_append_dropWhile]

/-- More fuel changes nothing. -/
theorem fieldsF_fuel (n : Nat) : ∀ (m : Nat) (l : List UInt8), l.length ≤ n → l.length ≤ m → ∀ (i : Nat) (after : Bool) (out : List Fld), fieldsF n l i after out = fieldsF m l i after out := by
  induction n with
  | zero =>
    intro m l hn hm i after out
    have : l = [] := List.eq_nil_of_length_eq_zero (by omega)
    subst this
    cases m <;> simp [fieldsF]
  | succ n ih =>
    intro m l hn hm i after out
    cases l with
    | nil => cases m <;> simp [fieldsF]
    | cons c l =>
      simp only [List.length_cons] at hn hm
      obtain ⟨m, rfl⟩ : ∃ k, m = k + 1 := ⟨m - 1, by omega⟩
      rw [fieldsF, fieldsF]
      have hq := quotedS_len l.length l (Nat.le_refl _) (i + 1) []
      have hd := drop_len wordB (c :: l)
      simp only [List.length_cons] at hd
      split
      · exact ih _ _ (by omega) (by omega) _ _ _
      · split
        · rfl
        · split
          · rfl
          · split
            · split
              · exact ih _ _ (by simp; omega) (by simp; omega) _ _ _
              · rfl
            · split
              · rfl
              · rename_i hne
                exact ih _ _ (by omega) (by omega) _ _ _

/-- The fields from index i on. -/
def fieldsAt (s : ByteArray) (i : Nat) (after : Bool) (out : List Fld) : List Fld × Nat := fieldsF (s.size - i) (s.data.toList.drop i) i after out
def fieldsS (l : List UInt8) : List Fld × Nat := fieldsF l.length l 0 false []
theorem fieldsAt_zero (s : ByteArray) : fieldsAt s 0 false [] = fieldsS s.data.toList := by
  unfold fieldsAt fieldsS; simp

section
variable (s : ByteArray) (i : Nat) (after : Bool) (out : List Fld)
theorem fieldsAt_end (h : s.size ≤ i) : fieldsAt s i after out = (out, 0) := by
  unfold fieldsAt; rw [drop_end s i h]; cases s.size - i <;> simp [fieldsF]
theorem fieldsAt_cons (h : i < s.size) : fieldsAt s i after out =
    if whiteB s[i] then fieldsAt s (i + 1) false out
    else if s[i] = 59 then (out, 0)
    else if after then ([], i + 1)
    else if s[i] = 34 then
      if (quotedAt s (i + 1) []).2.2 then fieldsAt s (quotedAt s (i + 1) []).2.1 true (out ++ [⟨(quotedAt s (i + 1) []).1, (i : Int) + 1, true⟩])
      else ([], (quotedAt s (i + 1) []).2.1 + 1)
    else if ((s.data.toList.drop i).takeWhile wordB).length = 0 ∨ (s.data.toList.drop (i + ((s.data.toList.drop i).takeWhile wordB).length)).head? = some 34 then ([], i + ((s.data.toList.drop i).takeWhile wordB).length + 1)
    else fieldsAt s (i + ((s.data.toList.drop i).takeWhile wordB).length) false (out ++ [⟨(s.data.toList.drop i).takeWhile wordB, (i : Int) + 1, false⟩]) := by
  have hl : (s.data.toList.drop i).length = s.size - i := by simp
  have hq := quotedS_len _ (s.data.toList.drop (i + 1)) (Nat.le_refl _) (i + 1) []
  have hql : (s.data.toList.drop (i + 1)).length = s.size - (i + 1) := by simp
  have hd := drop_len wordB (s.data.toList.drop i)
  have hdw : (s.data.toList.drop i).dropWhile wordB = s.data.toList.drop (i + ((s.data.toList.drop i).takeWhile wordB).length) := by
    rw [← List.drop_drop]
    conv => rhs; arg 2; rw [← List.takeWhile_append_dropWhile (p := wordB) (l := s.data.toList.drop i)]
    rw [List.drop_left]
  have hc := drop_cons s i h
  show fieldsF (s.size - i) (s.data.toList.drop i) i after out = _
  obtain ⟨n, hn⟩ : ∃ n, s.size - i = n + 1 := ⟨s.size - i - 1, by omega⟩
  rw [hn]
  conv => lhs; rw [hc]
  rw [fieldsF, ← hc]
  simp only [hdw]
  have hfuel : ∀ (k : Nat) (a : Bool) (o : List Fld), i + 1 ≤ k → fieldsF n (s.data.toList.drop k) k a o = fieldsAt s k a o := fun k a o hk =>
    fieldsF_fuel n (s.size - k) _ (by simp; omega) (by simp) _ _ _
  rw [hfuel (i + 1) _ _ (Nat.le_refl _)]
  split
  · rfl
  · split
    · rfl
    · split
      · rfl
      · split
        · show (if (quotedAt s (i + 1) []).2.2 = true then _ else _) = _
          split
          · have e : (s.data.toList.drop (i + 1)).drop ((quotedS (s.data.toList.drop (i + 1)) (i + 1) []).2.1 - (i + 1)) = s.data.toList.drop (quotedAt s (i + 1) []).2.1 := by
              rw [List.drop_drop]; congr 1; unfold quotedAt; omega
            rw [e]
            exact hfuel _ _ _ (by unfold quotedAt; omega)
          · rfl
        · split
          · rfl
          · rename_i hne
            exact hfuel _ _ _ (by omega)
end

section
variable (s : ByteArray) (k : Nat) (out : List Fld)
theorem fieldsAt_word_bad (j : Nat) (h : k < s.size) (h1 : whiteB s[k] = false) (h2 : s[k] ≠ 59) (h3 : s[k] ≠ 34) (hj : j = k + ((s.data.toList.drop k).takeWhile wordB).length) (hb : j = k ∨ (s.data.toList.drop j).head? = some 34) :
    fieldsAt s k false out = ([], j + 1) := by
  rw [fieldsAt_cons s k false out h, if_neg (by rw [h1]; simp), if_neg h2, if_neg (by simp), if_neg h3, ← hj, if_pos]
  rcases hb with hb | hb
  · exact .inl (by omega)
  · exact .inr hb
theorem fieldsAt_word (j : Nat) (h : k < s.size) (h1 : whiteB s[k] = false) (h2 : s[k] ≠ 59) (h3 : s[k] ≠ 34) (hj : j = k + ((s.data.toList.drop k).takeWhile wordB).length) (hb : j ≠ k) (hb' : (s.data.toList.drop j).head? ≠ some 34) :
    fieldsAt s k false out = fieldsAt s j false (out ++ [⟨(s.data.toList.drop k).takeWhile wordB, (k : Int) + 1, false⟩]) := by
  rw [fieldsAt_cons s k false out h, if_neg (by rw [h1]; simp), if_neg h2, if_neg (by simp), if_neg h3, ← hj, if_neg]
  rintro (h4 | h4)
  · omega
  · exact hb' h4
end

theorem fieldsF_len (n : Nat) : ∀ (l : List UInt8) (i : Nat) (after : Bool) (out : List Fld), ((fieldsF n l i after out).1).length ≤ out.length + l.length ∧ (fieldsF n l i after out).2 ≤ i + l.length + 1 := by
  induction n with
  | zero => intro l i after out; simp [fieldsF]
  | succ n ih =>
    intro l i after out
    cases l with
    | nil => simp [fieldsF]
    | cons c l =>
      have hq := quotedS_len l.length l (Nat.le_refl _) (i + 1) []
      have hd := drop_len wordB (c :: l)
      simp only [List.length_cons] at hd
      rw [fieldsF]
      simp only [List.length_cons]
      split
      · have := ih l (i + 1) false out; omega
      · split
        · simp <;> omega
        · split
          · simp <;> omega
          · split
            · split
              · rename_i hok
                have h3 := hq.2.2 hok
                have := ih (l.drop ((quotedS l (i + 1) []).2.1 - (i + 1))) (quotedS l (i + 1) []).2.1 true (out ++ [⟨(quotedS l (i + 1) []).1, (i : Int) + 1, true⟩])
                simp only [List.length_append, List.length_cons, List.length_nil, List.length_drop] at this
                omega
              · simp <;> omega
            · split
              · simp <;> omega
              · rename_i hne
                have := ih ((c :: l).dropWhile wordB) (i + ((c :: l).takeWhile wordB).length) false (out ++ [⟨(c :: l).takeWhile wordB, (i : Int) + 1, false⟩])
                simp only [List.length_append, List.length_cons, List.length_nil] at this
                omega
theorem fieldsS_len (l : List UInt8) : ((fieldsS l).1).length ≤ l.length ∧ (fieldsS l).2 ≤ l.length + 1 := by
  have := fieldsF_len l.length l 0 false []
  unfold fieldsS; simpa using this
/-- How many bytes of a word stand from index k on. -/
def wordLen (s : ByteArray) (k : Nat) : Nat := ((s.data.toList.drop k).takeWhile wordB).length
theorem takeWhile_len {α : Type} (p : α → Bool) (l : List α) (m : Nat) (x : α) (hm : m ≤ (l.takeWhile p).length) (hx : l[m]? = some x) : (p x = true → m + 1 ≤ (l.takeWhile p).length) ∧ (p x = false → m = (l.takeWhile p).length) := by
  induction l generalizing m with
  | nil => simp at hx
  | cons c l ih =>
    cases m with
    | zero =>
      simp at hx; subst hx
      cases h : p c <;> simp [List.takeWhile_cons, h]
    | succ m =>
      cases h : p c
      · simp [List.takeWhile_cons, h] at hm
      · simp [List.takeWhile_cons, h] at hm ⊢
        exact ih m hm (by simpa using hx)
theorem at_drop (s : ByteArray) (k j : Nat) (hk : k ≤ j) (hj : j < s.size) : (s.data.toList.drop k)[j - k]? = some s[j] := by
  rw [List.getElem?_drop, show k + (j - k) = j from by omega, List.getElem?_eq_getElem (by simpa using hj)]; rfl
theorem word_next (s : ByteArray) (k j : Nat) (hk : k ≤ j) (hj : j < s.size) (hm : j - k ≤ wordLen s k) (hw : wordB s[j] = true) : j + 1 - k ≤ wordLen s k := by
  have := (takeWhile_len wordB _ (j - k) s[j] hm (at_drop s k j hk hj)).1 hw
  unfold wordLen; omega
theorem word_stop (s : ByteArray) (k j : Nat) (hk : k ≤ j) (hj : j < s.size) (hm : j - k ≤ wordLen s k) (hw : wordB s[j] = false) : j = k + wordLen s k := by
  have := (takeWhile_len wordB _ (j - k) s[j] hm (at_drop s k j hk hj)).2 hw
  unfold wordLen; omega
theorem word_full (s : ByteArray) (k : Nat) (hk : k ≤ s.size) (hm : s.size - k ≤ wordLen s k) : s.size = k + wordLen s k := by
  have := drop_len wordB (s.data.toList.drop k)
  have h2 : (s.data.toList.drop k).length = s.size - k := by simp
  unfold wordLen at *; omega
theorem word_text (s : ByteArray) (k j : Nat) (hj : j = k + wordLen s k) : (s.extract k j).data.toList = (s.data.toList.drop k).takeWhile wordB := by
  rw [Lib.extract_data, hj, show k + wordLen s k - k = wordLen s k from by omega]
  unfold wordLen
  conv => lhs; arg 2; rw [← List.takeWhile_append_dropWhile (p := wordB) (l := s.data.toList.drop k)]
  rw [List.take_left]
theorem head_drop (s : ByteArray) (j : Nat) : (s.data.toList.drop j).head? = if h : j < s.size then some s[j] else none := by
  split
  · rename_i h; rw [drop_cons s j h]; rfl
  · rename_i h; rw [drop_end s j (by omega)]; rfl
end Go.Proofs.YtfljohhocgaheaaDoor
