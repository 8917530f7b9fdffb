/- The plain specifications and their laws: bytes, fields, lines, cursors, numbers, rules (once fifteen texts). No program is named here. -/
import Derived.Test.YtajcnjehjkpieaaR
import Derived.Lib.Strings
import Derived.Lib.Split
import Derived.Lib.SplitLaws
import Derived.Lib.Replace
import Derived.Lib.CountLaws
import Derived.Lib.AtoiAllCases
import Derived.Lib.ParseIntBTie
import Derived.Lib.SlTrimSet
import Derived.Lib.ItoaNum
set_option linter.unusedSimpArgs false
set_option linter.unusedVariables false
namespace Go.Proofs.Ytajcnjehjkpieaa
section
/-! part P1 -/
def whiteB (c : UInt8) : Bool := c == 9 || c == 32
def printedB (c : UInt8) : Bool := 32 ≤ c && c ≤ 126
def wordB (c : UInt8) : Bool := 32 < c && c ≤ 126 && c != 34 && c != 59

theorem drop_get {α : Type} {l : List α} {k : Nat} (h : k < l.length) : l.drop k = l[k] :: l.drop (k + 1) := List.drop_eq_getElem_cons h
theorem drop_cons (s : ByteArray) (k : Nat) (h : k < s.size) : s.data.toList.drop k = s[k] :: s.data.toList.drop (k + 1) := by
  rw [List.drop_eq_getElem_cons (by simpa using h)]; rfl
theorem drop_end (s : ByteArray) (k : Nat) (h : s.size ≤ k) : s.data.toList.drop k = [] := List.drop_of_length_le (by simpa using h)
theorem take_snoc (s : ByteArray) (k : Nat) (h : k < s.size) : s.data.toList.take (k + 1) = s.data.toList.take k ++ [s[k]] := by
  rw [List.take_succ_eq_append_getElem (by simpa using h)]; rfl

/-- The rest of a quoted string: what is left of the line, the index of its first byte, what was read; the text, the index behind it, true; or the index of the wrong byte, false. -/
def quotedS : List UInt8 → Nat → List UInt8 → List UInt8 × Nat × Bool
  | [], j, _ => ([], j, false)
  | c :: l, j, acc =>
    if c = 34 then
      match l with
      | [] => (acc, j + 1, true)
      | d :: l' => if d = 34 then quotedS l' (j + 2) (acc ++ [34]) else (acc, j + 1, true)
    else if printedB c then quotedS l (j + 1) (acc ++ [c]) else ([], j, false)

section
variable (s : ByteArray) (j : Nat) (acc : List UInt8)
def quotedAt : List UInt8 × Nat × Bool := quotedS (s.data.toList.drop j) j acc
theorem quoted_end (h : s.size = j) : quotedAt s j acc = ([], s.size, false) := by
  unfold quotedAt; rw [drop_end s j (by omega), h]; rfl
theorem quoted_last (h : j < s.size) (hc : s[j] = 34) (h2 : j + 1 = s.size) : quotedAt s j acc = (acc, j + 1, true) := by
  unfold quotedAt; rw [drop_cons s j h, drop_end s (j + 1) (by omega), quotedS, if_pos hc]
theorem quoted_close (h : j < s.size) (hc : s[j] = 34) (h2 : j + 1 < s.size) (hd : s[j + 1] ≠ 34) : quotedAt s j acc = (acc, j + 1, true) := by
  unfold quotedAt; rw [drop_cons s j h, drop_cons s (j + 1) h2, quotedS, if_pos hc]; simp only [if_neg hd]
theorem quoted_two (h : j < s.size) (hc : s[j] = 34) (h2 : j + 1 < s.size) (hd : s[j + 1] = 34) : quotedAt s j acc = quotedAt s (j + 2) (acc ++ [34]) := by
  unfold quotedAt; rw [drop_cons s j h, drop_cons s (j + 1) h2, quotedS, if_pos hc]; simp only [if_pos hd]
theorem quoted_bad (h : j < s.size) (hc : s[j] ≠ 34) (hp : printedB s[j] = false) : quotedAt s j acc = ([], j, false) := by
  unfold quotedAt; rw [drop_cons s j h, quotedS.eq_def]; simp only [if_neg hc, hp]; rfl
theorem quoted_step (h : j < s.size) (hc : s[j] ≠ 34) (hp : printedB s[j] = true) : quotedAt s j acc = quotedAt s (j + 1) (acc ++ [s[j]]) := by
  unfold quotedAt; rw [drop_cons s j h, quotedS.eq_def]; simp only [if_neg hc, hp, if_true]
end

structure Fld where
  text : List UInt8
  col : Int
  quoted : Bool
deriving DecidableEq
structure Lin where
  num : Int
  fields : List Fld
deriving DecidableEq
structure Dia where
  line : Int
  col : Int
  code : Int
deriving DecidableEq

/-- What is left of a line (its first byte has index i), whether a quoted string has just ended, the fields so far; the fields, and the column of the byte that cannot be accepted (0: none). -/
def fieldsF : Nat → List UInt8 → Nat → Bool → List Fld → List Fld × Nat
  | 0, _, _, _, out => (out, 0)
  | _, [], _, _, out => (out, 0)
  | n + 1, c :: l, i, after, out =>
    if whiteB c then fieldsF n l (i + 1) false out
    else if c = 59 then (out, 0)
    else if after then ([], i + 1)
    else if c = 34 then
      if (quotedS l (i + 1) []).2.2 then fieldsF n (l.drop ((quotedS l (i + 1) []).2.1 - (i + 1))) (quotedS l (i + 1) []).2.1 true (out ++ [⟨(quotedS l (i + 1) []).1, (i : Int) + 1, true⟩])
      else ([], (quotedS l (i + 1) []).2.1 + 1)
    else if ((c :: l).takeWhile wordB).length = 0 ∨ ((c :: l).dropWhile wordB).head? = some 34 then ([], i + ((c :: l).takeWhile wordB).length + 1)
    else fieldsF n ((c :: l).dropWhile wordB) (i + ((c :: l).takeWhile wordB).length) false (out ++ [⟨(c :: l).takeWhile wordB, (i : Int) + 1, false⟩])

theorem quotedS_len (n : Nat) : ∀ (l : List UInt8), l.length ≤ n → ∀ (j : Nat) (acc : List UInt8),
    j ≤ (quotedS l j acc).2.1 ∧ (quotedS l j acc).2.1 ≤ j + l.length ∧ ((quotedS l j acc).2.2 = true → j + 1 ≤ (quotedS l j acc).2.1) := by
  induction n with
  | zero => intro l hl j acc; have : l = [] := List.eq_nil_of_length_eq_zero (by omega); subst this; simp [quotedS]
  | succ n ih =>
    intro l hl j acc
    cases l with
    | nil => simp [quotedS]
    | cons c l =>
      simp only [List.length_cons] at hl ⊢
      rw [quotedS.eq_def]; dsimp only
      split
      · cases l with
        | nil => simp
        | cons d l' =>
          simp only [List.length_cons] at hl ⊢
          split
          · have := ih l' (by omega) (j + 2) (acc ++ [34]); omega
          · exact ⟨by simp, by simp, by simp⟩
      · split
        · have := ih l (by omega) (j + 1) (acc ++ [c]); omega
        · simp

theorem quotedAt_len (s : ByteArray) (j : Nat) (acc : List UInt8) (h : j ≤ s.size) : j ≤ (quotedAt s j acc).2.1 ∧ (quotedAt s j acc).2.1 ≤ s.size ∧ ((quotedAt s j acc).2.2 = true → j + 1 ≤ (quotedAt s j acc).2.1) := by
  have h1 := quotedS_len _ (s.data.toList.drop j) (Nat.le_refl _) j acc
  have h2 : (s.data.toList.drop j).length = s.size - j := by simp
  rw [h2] at h1
  obtain ⟨a, b, c⟩ := h1
  exact ⟨a, Nat.le_trans b (by omega), c⟩
theorem drop_len {α : Type} (p : α → Bool) (l : List α) : (l.takeWhile p).length + (l.dropWhile p).length = l.length := by
  rw [← List.length_append, List.takeWhile_append_dropWhile]

/-- More fuel changes nothing. -/
theorem fieldsF_fuel (n : Nat) : ∀ (m : Nat) (l : List UInt8), l.length ≤ n → l.length ≤ m → ∀ (i : Nat) (after : Bool) (out : List Fld), fieldsF n l i after out = fieldsF m l i after out := by
  induction n with
  | zero =>
    intro m l hn hm i after out
    have : l = [] := List.eq_nil_of_length_eq_zero (by omega)
    subst this
    cases m <;> simp [fieldsF]
  | succ n ih =>
    intro m l hn hm i after out
    cases l with
    | nil => cases m <;> simp [fieldsF]
    | cons c l =>
      simp only [List.length_cons] at hn hm
      obtain ⟨m, rfl⟩ : ∃ k, m = k + 1 := ⟨m - 1, by omega⟩
      rw [fieldsF, fieldsF]
      have hq := quotedS_len l.length l (Nat.le_refl _) (i + 1) []
      have hd := drop_len wordB (c :: l)
      simp only [List.length_cons] at hd
      split
      · exact ih _ _ (by omega) (by omega) _ _ _
      · split
        · rfl
        · split
          · rfl
          · split
            · split
              · exact ih _ _ (by simp; omega) (by simp; omega) _ _ _
              · rfl
            · split
              · rfl
              · rename_i hne
                exact ih _ _ (by omega) (by omega) _ _ _

/-- The fields from index i on. -/
def fieldsAt (s : ByteArray) (i : Nat) (after : Bool) (out : List Fld) : List Fld × Nat := fieldsF (s.size - i) (s.data.toList.drop i) i after out
def fieldsS (l : List UInt8) : List Fld × Nat := fieldsF l.length l 0 false []
theorem fieldsAt_zero (s : ByteArray) : fieldsAt s 0 false [] = fieldsS s.data.toList := by
  unfold fieldsAt fieldsS; simp

section
variable (s : ByteArray) (i : Nat) (after : Bool) (out : List Fld)
theorem fieldsAt_end (h : s.size ≤ i) : fieldsAt s i after out = (out, 0) := by
  unfold fieldsAt; rw [drop_end s i h]; cases s.size - i <;> simp [fieldsF]
theorem fieldsAt_cons (h : i < s.size) : fieldsAt s i after out =
    if whiteB s[i] then fieldsAt s (i + 1) false out
    else if s[i] = 59 then (out, 0)
    else if after then ([], i + 1)
    else if s[i] = 34 then
      if (quotedAt s (i + 1) []).2.2 then fieldsAt s (quotedAt s (i + 1) []).2.1 true (out ++ [⟨(quotedAt s (i + 1) []).1, (i : Int) + 1, true⟩])
      else ([], (quotedAt s (i + 1) []).2.1 + 1)
    else if ((s.data.toList.drop i).takeWhile wordB).length = 0 ∨ (s.data.toList.drop (i + ((s.data.toList.drop i).takeWhile wordB).length)).head? = some 34 then ([], i + ((s.data.toList.drop i).takeWhile wordB).length + 1)
    else fieldsAt s (i + ((s.data.toList.drop i).takeWhile wordB).length) false (out ++ [⟨(s.data.toList.drop i).takeWhile wordB, (i : Int) + 1, false⟩]) := by
  have hl : (s.data.toList.drop i).length = s.size - i := by simp
  have hq := quotedS_len _ (s.data.toList.drop (i + 1)) (Nat.le_refl _) (i + 1) []
  have hql : (s.data.toList.drop (i + 1)).length = s.size - (i + 1) := by simp
  have hd := drop_len wordB (s.data.toList.drop i)
  have hdw : (s.data.toList.drop i).dropWhile wordB = s.data.toList.drop (i + ((s.data.toList.drop i).takeWhile wordB).length) := by
    rw [← List.drop_drop]
    conv => rhs; arg 2; rw [← List.takeWhile_append_dropWhile (p := wordB) (l := s.data.toList.drop i)]
    rw [List.drop_left]
  have hc := drop_cons s i h
  show fieldsF (s.size - i) (s.data.toList.drop i) i after out = _
  obtain ⟨n, hn⟩ : ∃ n, s.size - i = n + 1 := ⟨s.size - i - 1, by omega⟩
  rw [hn]
  conv => lhs; rw [hc]
  rw [fieldsF, ← hc]
  simp only [hdw]
  have hfuel : ∀ (k : Nat) (a : Bool) (o : List Fld), i + 1 ≤ k → fieldsF n (s.data.toList.drop k) k a o = fieldsAt s k a o := fun k a o hk =>
    fieldsF_fuel n (s.size - k) _ (by simp; omega) (by simp) _ _ _
  rw [hfuel (i + 1) _ _ (Nat.le_refl _)]
  split
  · rfl
  · split
    · rfl
    · split
      · rfl
      · split
        · show (if (quotedAt s (i + 1) []).2.2 = true then _ else _) = _
          split
          · have e : (s.data.toList.drop (i + 1)).drop ((quotedS (s.data.toList.drop (i + 1)) (i + 1) []).2.1 - (i + 1)) = s.data.toList.drop (quotedAt s (i + 1) []).2.1 := by
              rw [List.drop_drop]; congr 1; unfold quotedAt; omega
            rw [e]
            exact hfuel _ _ _ (by unfold quotedAt; omega)
          · rfl
        · split
          · rfl
          · rename_i hne
            exact hfuel _ _ _ (by omega)
end

section
variable (s : ByteArray) (k : Nat) (out : List Fld)
theorem fieldsAt_word_bad (j : Nat) (h : k < s.size) (h1 : whiteB s[k] = false) (h2 : s[k] ≠ 59) (h3 : s[k] ≠ 34) (hj : j = k + ((s.data.toList.drop k).takeWhile wordB).length) (hb : j = k ∨ (s.data.toList.drop j).head? = some 34) :
    fieldsAt s k false out = ([], j + 1) := by
  rw [fieldsAt_cons s k false out h, if_neg (by rw [h1]; simp), if_neg h2, if_neg (by simp), if_neg h3, ← hj, if_pos]
  rcases hb with hb | hb
  · exact .inl (by omega)
  · exact .inr hb
theorem fieldsAt_word (j : Nat) (h : k < s.size) (h1 : whiteB s[k] = false) (h2 : s[k] ≠ 59) (h3 : s[k] ≠ 34) (hj : j = k + ((s.data.toList.drop k).takeWhile wordB).length) (hb : j ≠ k) (hb' : (s.data.toList.drop j).head? ≠ some 34) :
    fieldsAt s k false out = fieldsAt s j false (out ++ [⟨(s.data.toList.drop k).takeWhile wordB, (k : Int) + 1, false⟩]) := by
  rw [fieldsAt_cons s k false out h, if_neg (by rw [h1]; simp), if_neg h2, if_neg (by simp), if_neg h3, ← hj, if_neg]
  rintro (h4 | h4)
  · omega
  · exact hb' h4
end

theorem fieldsF_len (n : Nat) : ∀ (l : List UInt8) (i : Nat) (after : Bool) (out : List Fld), ((fieldsF n l i after out).1).length ≤ out.length + l.length ∧ (fieldsF n l i after out).2 ≤ i + l.length + 1 := by
  induction n with
  | zero => intro l i after out; simp [fieldsF]
  | succ n ih =>
    intro l i after out
    cases l with
    | nil => simp [fieldsF]
    | cons c l =>
      have hq := quotedS_len l.length l (Nat.le_refl _) (i + 1) []
      have hd := drop_len wordB (c :: l)
      simp only [List.length_cons] at hd
      rw [fieldsF]
      simp only [List.length_cons]
      split
      · have := ih l (i + 1) false out; omega
      · split
        · simp <;> omega
        · split
          · simp <;> omega
          · split
            · split
              · rename_i hok
                have h3 := hq.2.2 hok
                have := ih (l.drop ((quotedS l (i + 1) []).2.1 - (i + 1))) (quotedS l (i + 1) []).2.1 true (out ++ [⟨(quotedS l (i + 1) []).1, (i : Int) + 1, true⟩])
                simp only [List.length_append, List.length_cons, List.length_nil, List.length_drop] at this
                omega
              · simp <;> omega
            · split
              · simp <;> omega
              · rename_i hne
                have := ih ((c :: l).dropWhile wordB) (i + ((c :: l).takeWhile wordB).length) false (out ++ [⟨(c :: l).takeWhile wordB, (i : Int) + 1, false⟩])
                simp only [List.length_append, List.length_cons, List.length_nil] at this
                omega
theorem fieldsS_len (l : List UInt8) : ((fieldsS l).1).length ≤ l.length ∧ (fieldsS l).2 ≤ l.length + 1 := by
  have := fieldsF_len l.length l 0 false []
  unfold fieldsS; simpa using this
/-- How many bytes of a word stand from index k on. -/
def wordLen (s : ByteArray) (k : Nat) : Nat := ((s.data.toList.drop k).takeWhile wordB).length
theorem takeWhile_len {α : Type} (p : α → Bool) (l : List α) (m : Nat) (x : α) (hm : m ≤ (l.takeWhile p).length) (hx : l[m]? = some x) : (p x = true → m + 1 ≤ (l.takeWhile p).length) ∧ (p x = false → m = (l.takeWhile p).length) := by
  induction l generalizing m with
  | nil => simp at hx
  | cons c l ih =>
    cases m with
    | zero =>
      simp at hx; subst hx
      cases h : p c <;> simp [List.takeWhile_cons, h]
    | succ m =>
      cases h : p c
      · simp [List.takeWhile_cons, h] at hm
      · simp [List.takeWhile_cons, h] at hm ⊢
        exact ih m hm (by simpa using hx)
theorem at_drop (s : ByteArray) (k j : Nat) (hk : k ≤ j) (hj : j < s.size) : (s.data.toList.drop k)[j - k]? = some s[j] := by
  rw [List.getElem?_drop, show k + (j - k) = j from by omega, List.getElem?_eq_getElem (by simpa using hj)]; rfl
theorem word_next (s : ByteArray) (k j : Nat) (hk : k ≤ j) (hj : j < s.size) (hm : j - k ≤ wordLen s k) (hw : wordB s[j] = true) : j + 1 - k ≤ wordLen s k := by
  have := (takeWhile_len wordB _ (j - k) s[j] hm (at_drop s k j hk hj)).1 hw
  unfold wordLen; omega
theorem word_stop (s : ByteArray) (k j : Nat) (hk : k ≤ j) (hj : j < s.size) (hm : j - k ≤ wordLen s k) (hw : wordB s[j] = false) : j = k + wordLen s k := by
  have := (takeWhile_len wordB _ (j - k) s[j] hm (at_drop s k j hk hj)).2 hw
  unfold wordLen; omega
theorem word_full (s : ByteArray) (k : Nat) (hk : k ≤ s.size) (hm : s.size - k ≤ wordLen s k) : s.size = k + wordLen s k := by
  have := drop_len wordB (s.data.toList.drop k)
  have h2 : (s.data.toList.drop k).length = s.size - k := by simp
  unfold wordLen at *; omega
theorem word_text (s : ByteArray) (k j : Nat) (hj : j = k + wordLen s k) : (s.extract k j).data.toList = (s.data.toList.drop k).takeWhile wordB := by
  rw [Lib.extract_data, hj, show k + wordLen s k - k = wordLen s k from by omega]
  unfold wordLen
  conv => lhs; arg 2; rw [← List.takeWhile_append_dropWhile (p := wordB) (l := s.data.toList.drop k)]
  rw [List.take_left]
theorem head_drop (s : ByteArray) (j : Nat) : (s.data.toList.drop j).head? = if h : j < s.size then some s[j] else none := by
  split
  · rename_i h; rw [drop_cons s j h]; rfl
  · rename_i h; rw [drop_end s j (by omega)]; rfl

/-- The pieces between the bytes c. -/
def pieces (c : UInt8) : List UInt8 → List (List UInt8)
  | [] => [[]]
  | b :: l => if b = c then [] :: pieces c l else match pieces c l with | [] => [[b]] | p :: ps => (b :: p) :: ps
theorem pieces_ne (c : UInt8) (l : List UInt8) : pieces c l ≠ [] := by
  cases l with
  | nil => simp [pieces]
  | cons b l => rw [pieces]; split; · simp
                · split <;> simp
theorem pieces_miss (c : UInt8) (l : List UInt8) (h : Lib.index l [c] = -1) : pieces c l = [l] := by
  induction l with
  | nil => rfl
  | cons b l ih =>
    rw [Lib.index] at h
    by_cases hb : b = c
    · subst hb; simp at h
    · have hp : [c].isPrefixOf (b :: l) = false := by
        have : (c == b) = false := beq_eq_false_iff_ne.2 (Ne.symm hb)
        simp [List.isPrefixOf, this]
      rw [hp] at h
      simp only [Bool.false_eq_true, if_false] at h
      split at h
      · rename_i hm
        rw [pieces, if_neg hb, ih (by simpa using hm)]
      · have := Lib.index_ge l [c]; omega
theorem pieces_hit (c : UInt8) (l : List UInt8) (i : Nat) (h : Lib.index l [c] = i) : pieces c l = l.take i :: pieces c (l.drop (i + 1)) := by
  induction l generalizing i with
  | nil => simp [Lib.index] at h
  | cons b l ih =>
    rw [Lib.index] at h
    by_cases hb : b = c
    · subst hb
      have : i = 0 := by simp at h; omega
      subst this
      simp [pieces]
    · have hp : [c].isPrefixOf (b :: l) = false := by
        have : (c == b) = false := beq_eq_false_iff_ne.2 (Ne.symm hb)
        simp [List.isPrefixOf, this]
      rw [hp] at h
      simp only [Bool.false_eq_true, if_false] at h
      split at h
      · omega
      · rename_i hm
        have hge := Lib.index_ge l [c]
        have hne : Lib.index l [c] ≠ -1 := by simpa using hm
        obtain ⟨j, hj⟩ : ∃ j : Nat, Lib.index l [c] = j := ⟨(Lib.index l [c]).toNat, by omega⟩
        have : i = j + 1 := by omega
        subst this
        rw [pieces, if_neg hb, ih j hj]
        simp
theorem splitB_pieces (c : UInt8) : ∀ (k : Nat) (s : ByteArray), Lib.countB s ⟨#[c]⟩ = k → (Lib.splitB ⟨#[c]⟩ 0 k s).map (·.data.toList) = pieces c s.data.toList := by
  intro k
  induction k with
  | zero =>
    intro s hk
    have hi : Lib.index s.data.toList [c] = -1 := by
      have hge := Lib.index_ge s.data.toList [c]
      rcases Int.lt_or_le (Lib.index s.data.toList [c]) 0 with h | h
      · omega
      · obtain ⟨i, hi⟩ : ∃ i : Nat, Lib.index s.data.toList [c] = i := ⟨(Lib.index s.data.toList [c]).toNat, by omega⟩
        have := Lib.countB_hit s ⟨#[c]⟩ i (Nat.le_refl 1) hi
        omega
    rw [Lib.splitB_zero, pieces_miss c _ hi]; rfl
  | succ k ih =>
    intro s hk
    have hge := Lib.index_ge s.data.toList [c]
    by_cases hm : Lib.index s.data.toList [c] = -1
    · have := Lib.countB_miss s ⟨#[c]⟩ hm; omega
    · obtain ⟨i, hi⟩ : ∃ i : Nat, Lib.index s.data.toList [c] = i := ⟨(Lib.index s.data.toList [c]).toNat, by omega⟩
      have hc := Lib.countB_hit s ⟨#[c]⟩ i (Nat.le_refl 1) hi
      have h1 : (⟨#[c]⟩ : ByteArray).size = 1 := rfl
      rw [h1] at hc
      rw [Lib.splitB_hit ⟨#[c]⟩ 0 k s i hi, pieces_hit c _ i hi, List.map_cons, h1, ih _ (by omega)]
      congr 1
      · rw [Lib.extract_data]; simp
      · rw [Lib.extract_data]
        congr 1
        rw [List.take_of_length_le (by simp)]

/-- The lines of the pieces: their number, the lines and the diagnostics so far. -/
def splitF : List (List UInt8) → Int → List Lin → List Dia → List Lin × List Dia
  | [], _, out, ds => (out, ds)
  | p :: ps, n, out, ds =>
    if 1000 < p.length then splitF ps (n + 1) out (if ds.length < 50 then ds ++ [⟨n, 1001, 9⟩] else ds)
    else if (fieldsS p).2 ≠ 0 then splitF ps (n + 1) out (if ds.length < 50 then ds ++ [⟨n, (fieldsS p).2, 4⟩] else ds)
    else if (fieldsS p).1 ≠ [] then splitF ps (n + 1) (out ++ [⟨n, (fieldsS p).1⟩]) ds
    else splitF ps (n + 1) out ds
def splitS (src : List UInt8) : List Lin × List Dia := if 262144 < src.length then ([], [⟨1, 1, 9⟩]) else splitF (pieces 10 src) 1 [] []
theorem pieces_len (c : UInt8) (l : List UInt8) : (pieces c l).length ≤ l.length + 1 := by
  induction l with
  | nil => simp [pieces]
  | cons b l ih =>
    rw [pieces]
    split
    · simp; omega
    · split
      · simp
      · rename_i h; rw [h] at ih; simp at ih ⊢; omega

def wordS (l : List UInt8) : Bool := l.all wordB && !l.isEmpty
/-- The bytes c of l, each replaced by n. -/
def subst1 (c : UInt8) (n : List UInt8) (l : List UInt8) : List UInt8 := l.flatMap fun b => if b = c then n else [b]
theorem subst1_miss (c : UInt8) (n l : List UInt8) (h : Lib.index l [c] = -1) : subst1 c n l = l := by
  have hp := pieces_miss c l h
  clear h
  have : ∀ b ∈ l, b ≠ c := by
    induction l with
    | nil => simp
    | cons b l ih =>
      rw [pieces] at hp
      split at hp
      · simp at hp
      · rename_i hb
        split at hp
        · rename_i he; exact absurd he (pieces_ne c l)
        · rename_i p ps he
          simp only [List.cons.injEq, true_and] at hp
          obtain ⟨rfl, rfl⟩ := hp
          intro x hx
          rcases List.mem_cons.1 hx with rfl | hx
          · exact hb
          · exact ih he x hx
  induction l with
  | nil => rfl
  | cons b l ih =>
    have hb := this b (by simp)
    unfold subst1 at *
    rw [List.flatMap_cons, if_neg hb]
    have := ih (by
      rw [pieces, if_neg hb] at hp
      split at hp
      · rename_i he; exact absurd he (pieces_ne c l)
      · rename_i p ps he
        simp only [List.cons.injEq, true_and] at hp
        obtain ⟨rfl, rfl⟩ := hp
        exact he) (fun x hx => this x (by simp [hx]))
    rw [this]; rfl
theorem subst1_hit (c : UInt8) (n l : List UInt8) (i : Nat) (h : Lib.index l [c] = i) : subst1 c n l = l.take i ++ n ++ subst1 c n (l.drop (i + 1)) := by
  induction l generalizing i with
  | nil => simp [Lib.index] at h
  | cons b l ih =>
    rw [Lib.index] at h
    by_cases hb : b = c
    · subst hb
      have : i = 0 := by simp at h; omega
      subst this
      simp [subst1]
    · have hp : [c].isPrefixOf (b :: l) = false := by
        have : (c == b) = false := beq_eq_false_iff_ne.2 (Ne.symm hb)
        simp [List.isPrefixOf, this]
      rw [hp] at h
      simp only [Bool.false_eq_true, if_false] at h
      split at h
      · omega
      · rename_i hm
        have hge := Lib.index_ge l [c]
        have hne : Lib.index l [c] ≠ -1 := by simpa using hm
        obtain ⟨j, hj⟩ : ∃ j : Nat, Lib.index l [c] = j := ⟨(Lib.index l [c]).toNat, by omega⟩
        have : i = j + 1 := by omega
        subst this
        have := ih j hj
        unfold subst1 at *
        rw [List.flatMap_cons, if_neg hb, this]
        simp
theorem replaceK_subst1 (c : UInt8) (n : List UInt8) : ∀ (k : Nat) (l : List UInt8), Lib.count l [c] = k → Lib.replaceK [c] n k l = subst1 c n l := by
  intro k
  induction k with
  | zero =>
    intro l hk
    have hge := Lib.index_ge l [c]
    by_cases hm : Lib.index l [c] = -1
    · rw [subst1_miss c n l hm]; rfl
    · obtain ⟨i, hi⟩ : ∃ i : Nat, Lib.index l [c] = i := ⟨(Lib.index l [c]).toNat, by omega⟩
      have := Lib.count_hit (by simp) hi; omega
  | succ k ih =>
    intro l hk
    have hge := Lib.index_ge l [c]
    by_cases hm : Lib.index l [c] = -1
    · have := Lib.count_miss hm; omega
    · obtain ⟨i, hi⟩ : ∃ i : Nat, Lib.index l [c] = i := ⟨(Lib.index l [c]).toNat, by omega⟩
      have hc := Lib.count_hit (by simp) hi
      have h1 : [c].length = 1 := rfl
      rw [h1] at hc
      rw [Lib.replaceK_hit [c] n k l i hi, subst1_hit c n l i hi, h1, ih _ (by omega)]
theorem replaceAll_subst1 (c : UInt8) (n l : List UInt8) (hn : [c] ≠ n) : Lib.replaceAll l [c] n = subst1 c n l := by
  unfold Lib.replaceAll Lib.replace
  rw [if_neg (by simpa using hn)]
  have : Lib.replaceNum l [c] (-1) = Lib.count l [c] := by unfold Lib.replaceNum; rw [if_pos (.inl (by decide))]
  rw [this]
  exact replaceK_subst1 c n _ l rfl
/-- A string as a quoted field. -/
def quoteS (l : List UInt8) : List UInt8 := 34 :: subst1 34 [34, 34] l ++ [34]
def fieldW (f : Fld) : List UInt8 := if f.quoted || !wordS f.text then quoteS f.text else f.text
def lineW : List Fld → Bool → List UInt8
  | [], _ => []
  | f :: fs, first => (if first then [] else [32]) ++ fieldW f ++ lineW fs false
def endW (fs : List Fld) : List UInt8 := if fs.isEmpty then [] else [10]
def writeS : List Lin → List UInt8
  | [] => []
  | x :: ls => lineW x.fields true ++ endW x.fields ++ writeS ls
theorem subst1_len (l : List UInt8) : l.length ≤ (subst1 34 [34, 34] l).length := by
  induction l with
  | nil => simp
  | cons b l ih =>
    unfold subst1 at *
    rw [List.flatMap_cons, List.length_append, List.length_cons]
    split
    · have : [34, 34].length = 2 := rfl
      omega
    · have : [b].length = 1 := rfl
      omega
theorem subst1_le (l : List UInt8) : (subst1 34 [34, 34] l).length ≤ 2 * l.length := by
  induction l with
  | nil => simp [subst1]
  | cons b l ih =>
    unfold subst1 at *
    rw [List.flatMap_cons, List.length_append, List.length_cons]
    split
    · have : [34, 34].length = 2 := rfl
      omega
    · have : [b].length = 1 := rfl
      omega
theorem quoteS_len (l : List UInt8) : l.length ≤ (quoteS l).length := by
  have := subst1_len l; unfold quoteS; rw [List.length_append, List.length_cons]; omega
theorem quoteS_le (l : List UInt8) : (quoteS l).length ≤ 2 * l.length + 2 := by
  have := subst1_le l; unfold quoteS; rw [List.length_append, List.length_cons]; simp only [List.length_cons, List.length_nil]; omega
theorem fieldW_len (f : Fld) : f.text.length ≤ (fieldW f).length := by
  unfold fieldW; split
  · exact quoteS_len _
  · exact Nat.le_refl _
end

section
/-! part P5 -/
/-- A cursor: the line, the index of the next field, the column of the field read last, the first error and its column. -/
structure Cur where
  num : Int
  fields : List Fld
  next : Nat
  last : Int
  err : Int
  pos : Int
def Cur.start (x : Lin) : Cur := ⟨x.num, x.fields, 0, 0, 0, 0⟩
def Cur.fail (c : Cur) (e col : Int) : Cur := if c.err = 0 then { c with err := e, pos := col } else c
def Cur.read (c : Cur) (q : Bool) : Cur × List UInt8 × Bool :=
  if c.err = 0 then
    match c.fields[c.next]? with
    | none => (c.fail 4 0, [], false)
    | some f => if f.quoted = q then ({ c with next := c.next + 1, last := f.col }, f.text, true) else (c.fail 4 f.col, [], false)
  else (c, [], false)
def Cur.more (c : Cur) : Bool := decide (c.err = 0) && decide (c.next < c.fields.length)
def Cur.ok (c : Cur) : Prop := c.next ≤ c.fields.length
theorem Cur.fail_ok {c : Cur} (h : c.ok) (e col : Int) : (c.fail e col).ok := by unfold Cur.fail; split <;> exact h
theorem Cur.read_ok {c : Cur} (h : c.ok) (q : Bool) : (c.read q).1.ok := by
  unfold Cur.read
  split
  · split
    · exact Cur.fail_ok h _ _
    · rename_i f hf
      have := (List.getElem?_eq_some_iff.1 hf).1
      split
      · unfold Cur.ok; exact this
      · exact Cur.fail_ok h _ _
  · exact h
theorem Cur.read_fields (c : Cur) (q : Bool) : (c.read q).1.fields = c.fields := by
  unfold Cur.read Cur.fail; repeat' split
  all_goals rfl
theorem Cur.read_text (c : Cur) (q : Bool) {n : Nat} (h : ∀ f ∈ c.fields, f.text.length ≤ n) : (c.read q).2.1.length ≤ n := by
  unfold Cur.read
  split
  · split
    · simp
    · rename_i f hf
      split
      · exact h f (List.mem_of_getElem? hf)
      · simp
  · simp
/-- The text of the next word, read as a name. -/
def letterB (c : UInt8) : Bool := 65 ≤ c && c ≤ 90
def tailB (c : UInt8) : Bool := letterB c || c == 95 || c == 45 || (48 ≤ c && c ≤ 57)
/-- A name: a letter, then letters, digits and two signs; at most 16 bytes. -/
def nameS : List UInt8 → Bool
  | [] => false
  | c :: l => letterB c && l.all tailB && decide (l.length ≤ 15)
def Cur.keyword (c : Cur) (kw : List UInt8) : Cur × Bool :=
  ((if (c.read false).2.2 = true ∧ (c.read false).2.1 ≠ kw then (c.read false).1.fail 4 (c.read false).1.last else (c.read false).1), (c.read false).2.2 && decide ((c.read false).2.1 = kw))
def Cur.ident (c : Cur) : Cur × List UInt8 :=
  if (c.read false).2.2 = true ∧ nameS (c.read false).2.1 = false then ((c.read false).1.fail 5 (c.read false).1.last, []) else ((c.read false).1, (c.read false).2.1)
/-- Where a text stands in a list: -1 if it does not. -/
def indexF (s : List UInt8) : List (List UInt8) → Nat → Int
  | [], _ => -1
  | a :: l, i => if a = s then i else indexF s l (i + 1)
def indexS (l : List (List UInt8)) (s : List UInt8) : Int := indexF s l 0
theorem indexF_le (s : List UInt8) : ∀ (l : List (List UInt8)) (i : Nat), -1 ≤ indexF s l i ∧ indexF s l i + 1 ≤ i + l.length := by
  intro l
  induction l with
  | nil => intro i; simp [indexF] <;> omega
  | cons a l ih =>
    intro i
    rw [indexF]
    have := ih (i + 1)
    split
    · simp; omega
    · simp; omega
theorem indexS_le (l : List (List UInt8)) (s : List UInt8) : -1 ≤ indexS l s ∧ indexS l s + 1 ≤ l.length := by
  have := indexF_le s l 0
  unfold indexS; simpa using this
def Cur.oneOf (c : Cur) (l : List (List UInt8)) : Cur × Int :=
  if (c.read false).2.2 = true then ((if indexS l (c.read false).2.1 < 0 then (c.read false).1.fail 4 (c.read false).1.last else (c.read false).1), indexS l (c.read false).2.1) else ((c.read false).1, -1)
def Cur.reject (c : Cur) (e : Int) : Cur := if e = 0 then c else c.fail e c.last
def Cur.close (c : Cur) : Option Dia :=
  if c.err ≠ 0 then some ⟨c.num, c.pos, c.err⟩ else match c.fields[c.next]? with | some f => some ⟨c.num, f.col, 4⟩ | none => none

structure Sqd where
  name : List UInt8
  players : List (List UInt8)
  cap : Int
  kee : Int
def titleS (q : Sqd) (n : Int) : List UInt8 :=
  if n < 1 ∨ (q.players.length : Int) < n then [] else
    (q.players.getD (n - 1).toNat []) ++ (if n = q.cap then [32, 40, 99, 41] else []) ++ (if n = q.kee then [32, 40, 107, 41] else [])
/-- The first error of the players; those before them. -/
def playersErr : List (List UInt8) → List (List UInt8) → Int
  | [], _ => 0
  | p :: ps, pre => if nameS p = false then 5 else if p ∈ pre then 7 else playersErr ps (pre ++ [p])
def checkS (q : Sqd) : Int :=
  if nameS q.name = false then 5
  else if q.players.length < 2 ∨ 11 < q.players.length then 9
  else if playersErr q.players [] ≠ 0 then playersErr q.players []
  else if titleS q q.cap = [] ∨ titleS q q.kee = [] then 6 else 0

def Cur.left (c : Cur) : Nat := c.fields.length - c.next + (if c.err = 0 then 1 else 0)
theorem Cur.fail_left (c : Cur) (e col : Int) : (c.fail e col).left ≤ c.left ∧ (c.fail e col).fields = c.fields := by
  unfold Cur.fail
  split
  · rename_i h
    refine ⟨?_, rfl⟩
    unfold Cur.left
    rw [if_pos h]
    show c.fields.length - c.next + (if e = 0 then 1 else 0) ≤ _
    split <;> omega
  · exact ⟨Nat.le_refl _, rfl⟩
theorem Cur.reject_left (c : Cur) (e : Int) : (c.reject e).left ≤ c.left ∧ (c.reject e).fields = c.fields := by
  unfold Cur.reject; split
  · exact ⟨Nat.le_refl _, rfl⟩
  · exact Cur.fail_left c e c.last
theorem Cur.read_left (c : Cur) (q : Bool) : (c.read q).1.left ≤ c.left ∧ (c.more = true → (c.read q).1.left < c.left) := by
  unfold Cur.read Cur.more
  by_cases h : c.err = 0
  · rw [if_pos h]
    split
    · rename_i hn
      have := List.getElem?_eq_none_iff.1 hn
      refine ⟨(Cur.fail_left c 4 0).1, fun hm => ?_⟩
      simp [h] at hm; omega
    · rename_i f hf
      have hlt := (List.getElem?_eq_some_iff.1 hf).1
      split
      · have : ({ c with next := c.next + 1, last := f.col } : Cur).left < c.left := by unfold Cur.left; simp only; omega
        exact ⟨Nat.le_of_lt this, fun _ => this⟩
      · have : (c.fail 4 f.col).left < c.left := by unfold Cur.fail Cur.left; rw [if_pos h]; simp [h]
        exact ⟨Nat.le_of_lt this, fun _ => this⟩
  · rw [if_neg h]
    exact ⟨Nat.le_refl _, fun hm => by simp [h] at hm⟩
theorem Cur.oneOf_left (c : Cur) (l : List (List UInt8)) : (c.oneOf l).1.left ≤ c.left ∧ (c.more = true → (c.oneOf l).1.left < c.left) ∧ (c.oneOf l).1.fields = c.fields := by
  have h := Cur.read_left c false
  have hf := Cur.read_fields c false
  unfold Cur.oneOf
  split
  · simp only
    split
    · have k := Cur.fail_left (c.read false).1 4 (c.read false).1.last
      exact ⟨by omega, fun hm => by have := h.2 hm; omega, k.2.trans hf⟩
    · exact ⟨h.1, h.2, hf⟩
  · exact ⟨h.1, h.2, hf⟩
theorem Cur.keyword_fields (c : Cur) (kw : List UInt8) : (c.keyword kw).1.fields = c.fields := by
  unfold Cur.keyword; simp only; split
  · exact (Cur.fail_left _ _ _).2.trans (Cur.read_fields c false)
  · exact Cur.read_fields c false
theorem Cur.ident_fields (c : Cur) : c.ident.1.fields = c.fields := by
  unfold Cur.ident; split
  · exact (Cur.fail_left _ _ _).2.trans (Cur.read_fields c false)
  · exact Cur.read_fields c false
theorem Cur.ident_text (c : Cur) {n : Nat} (h : ∀ f ∈ c.fields, f.text.length ≤ n) : c.ident.2.length ≤ n := by
  unfold Cur.ident; split
  · simp
  · exact Cur.read_text c false h
theorem Cur.keyword_left (c : Cur) (kw : List UInt8) : (c.keyword kw).1.left ≤ c.left := by
  have := (Cur.read_left c false).1
  unfold Cur.keyword; simp only; split
  · have := (Cur.fail_left (c.read false).1 4 (c.read false).1.last).1; omega
  · exact this
theorem Cur.ident_left (c : Cur) : c.ident.1.left ≤ c.left := by
  have := (Cur.read_left c false).1
  unfold Cur.ident; split
  · have := (Cur.fail_left (c.read false).1 5 (c.read false).1.last).1; simp only; omega
  · exact this

def sCAPTAIN : List UInt8 := [67, 65, 80, 84, 65, 73, 78]
def sKEEPER : List UInt8 := [75, 69, 69, 80, 69, 82]
def sPLAYER : List UInt8 := [80, 76, 65, 89, 69, 82]
def sSIDE : List UInt8 := [83, 73, 68, 69]
/-- One duty of the player n. -/
def dutyS (n : Int) (q : Sqd) (c : Cur) : Sqd × Cur :=
  if (c.oneOf [sCAPTAIN, sKEEPER]).2 = 0 then
    ({ q with cap := n }, if q.cap ≠ 0 then (c.oneOf [sCAPTAIN, sKEEPER]).1.reject 7 else if q.kee = n then (c.oneOf [sCAPTAIN, sKEEPER]).1.reject 8 else (c.oneOf [sCAPTAIN, sKEEPER]).1)
  else if (c.oneOf [sCAPTAIN, sKEEPER]).2 = 1 then
    ({ q with kee := n }, if q.kee ≠ 0 then (c.oneOf [sCAPTAIN, sKEEPER]).1.reject 7 else (c.oneOf [sCAPTAIN, sKEEPER]).1)
  else (q, (c.oneOf [sCAPTAIN, sKEEPER]).1)
def dutiesF : Nat → Int → Sqd → Cur → Sqd × Cur
  | 0, _, q, c => (q, c)
  | k + 1, n, q, c => if c.more = true then dutiesF k n (dutyS n q c).1 (dutyS n q c).2 else (q, c)
theorem dutyS_left (n : Int) (q : Sqd) (c : Cur) : (c.more = true → (dutyS n q c).2.left < c.left) ∧ (dutyS n q c).2.fields = c.fields ∧ (dutyS n q c).1.players = q.players ∧ (dutyS n q c).1.name = q.name := by
  obtain ⟨_, h2, h3⟩ := Cur.oneOf_left c [sCAPTAIN, sKEEPER]
  have r := fun e => Cur.reject_left (c.oneOf [sCAPTAIN, sKEEPER]).1 e
  unfold dutyS
  split
  · refine ⟨fun hm => ?_, ?_, rfl, rfl⟩
    · have := h2 hm; simp only; split
      · have := (r 7).1; omega
      · split
        · have := (r 8).1; omega
        · exact this
    · simp only; split
      · exact (r 7).2.trans h3
      · split
        · exact (r 8).2.trans h3
        · exact h3
  · split
    · refine ⟨fun hm => ?_, ?_, rfl, rfl⟩
      · have := h2 hm; simp only; split
        · have := (r 7).1; omega
        · exact this
      · simp only; split
        · exact (r 7).2.trans h3
        · exact h3
    · exact ⟨h2, h3, rfl, rfl⟩
theorem dutiesF_enough (n : Int) : ∀ (k m : Nat) (q : Sqd) (c : Cur), c.left < k → c.left < m → dutiesF k n q c = dutiesF m n q c := by
  intro k
  induction k with
  | zero => intro m q c h; omega
  | succ k ih =>
    intro m q c hk hm
    cases m with
    | zero => omega
    | succ m =>
      rw [dutiesF, dutiesF]
      split
      · rename_i h
        have := (dutyS_left n q c).1 h
        exact ih m _ _ (by omega) (by omega)
      · rfl
/-- The duties that a line names behind the player n. -/
def dutiesS (n : Int) (q : Sqd) (c : Cur) : Sqd × Cur := dutiesF (c.left + 1) n q c
theorem dutiesS_more {n : Int} {q : Sqd} {c : Cur} (h : c.more = true) : dutiesS n q c = dutiesS n (dutyS n q c).1 (dutyS n q c).2 := by
  have := (dutyS_left n q c).1 h
  unfold dutiesS
  rw [dutiesF, if_pos h]
  exact dutiesF_enough n _ _ _ _ (by omega) (by omega)
theorem dutiesS_end {n : Int} {q : Sqd} {c : Cur} (h : c.more = false) : dutiesS n q c = (q, c) := by
  unfold dutiesS
  rw [dutiesF, if_neg (by simp [h])]
def playerS (q : Sqd) (c : Cur) : Sqd × Cur :=
  dutiesS ((q.players.length : Int) + 1) { q with players := q.players ++ [(c.keyword sPLAYER).1.ident.2] } (c.keyword sPLAYER).1.ident.1
/-- The lines behind the first i. -/
def linesF : List Lin → Nat → Sqd → Sqd ⊕ Dia
  | [], _, q => .inl q
  | x :: l, i, q =>
    match (if i = 0 then ({ q with name := ((Cur.start x).keyword sSIDE).1.ident.2 }, ((Cur.start x).keyword sSIDE).1.ident.1) else playerS q (Cur.start x)) with
    | (q', c) => match c.close with
      | some d => .inr d
      | none => linesF l (i + 1) q'
def noSqd : Sqd := ⟨[], [], 0, 0⟩
def parseS (s : List UInt8) : Sqd × List Dia :=
  if (splitS s).2 ≠ [] then (noSqd, (splitS s).2)
  else if (splitS s).1 = [] then (noSqd, [⟨1, 1, 4⟩])
  else match linesF (splitS s).1 0 noSqd with
    | .inr d => (noSqd, [d])
    | .inl q => if checkS q ≠ 0 then (noSqd, [⟨1, 1, checkS q⟩]) else (q, [])
/-- The lines of a side. -/
def wordF (t : List UInt8) : Fld := ⟨t, 0, false⟩
def playerLine (q : Sqd) (i : Nat) (p : List UInt8) : Lin :=
  ⟨0, [wordF sPLAYER, wordF p] ++ (if (i : Int) + 1 = q.cap then [wordF sCAPTAIN] else []) ++ (if (i : Int) + 1 = q.kee then [wordF sKEEPER] else [])⟩
def playerLines (q : Sqd) : List (List UInt8) → Nat → List Lin
  | [], _ => []
  | p :: ps, i => playerLine q i p :: playerLines q ps (i + 1)
def sqLines (q : Sqd) : List Lin := ⟨0, [wordF sSIDE, wordF q.name]⟩ :: playerLines q q.players 0
def textS (q : Sqd) : List UInt8 × Int := if checkS q ≠ 0 then ([], checkS q) else (writeS (sqLines q), 0)
end

section
/-! part P8 -/
theorem quotedS_text (n : Nat) : ∀ (l : List UInt8), l.length ≤ n → ∀ (j : Nat) (acc : List UInt8), (quotedS l j acc).1.length ≤ acc.length + l.length := by
  induction n with
  | zero => intro l hl j acc; have : l = [] := List.eq_nil_of_length_eq_zero (by omega); subst this; simp [quotedS]
  | succ n ih =>
    intro l hl j acc
    cases l with
    | nil => simp [quotedS]
    | cons c l =>
      simp only [List.length_cons] at hl ⊢
      rw [quotedS.eq_def]; dsimp only
      split
      · cases l with
        | nil => simp
        | cons d l' =>
          simp only [List.length_cons] at hl ⊢
          split
          · have := ih l' (by omega) (j + 2) (acc ++ [34]); simp at this; omega
          · simp
      · split
        · have := ih l (by omega) (j + 1) (acc ++ [c]); simp at this; omega
        · simp
theorem takeWhile_le {α : Type} (p : α → Bool) (l : List α) : (l.takeWhile p).length ≤ l.length := by
  have := drop_len p l; omega
theorem dropWhile_le {α : Type} (p : α → Bool) (l : List α) : (l.dropWhile p).length ≤ l.length := by
  have := drop_len p l; omega
theorem fieldsF_text (N : Nat) (n : Nat) : ∀ (l : List UInt8) (i : Nat) (after : Bool) (out : List Fld), l.length ≤ N → (∀ f ∈ out, f.text.length ≤ N) → ∀ f ∈ (fieldsF n l i after out).1, f.text.length ≤ N := by
  induction n with
  | zero => intro l i after out _ h; rw [fieldsF]; exact h
  | succ n ih =>
    intro l i after out hl h
    cases l with
    | nil => rw [fieldsF]; exact h; simp
    | cons c l =>
      have hl' : l.length ≤ N := by simp at hl; omega
      rw [fieldsF]
      split
      · exact ih _ _ _ _ hl' h
      · split
        · exact h
        · split
          · simp
          · split
            · split
              · refine ih _ _ _ _ (by rw [List.length_drop]; omega) fun f hf => ?_
                rcases List.mem_append.1 hf with hf | hf
                · exact h f hf
                · simp at hf; subst hf
                  have := quotedS_text _ l (Nat.le_refl _) (i + 1) []
                  simp at this ⊢; omega
              · simp
            · split
              · simp
              · refine ih _ _ _ _ (Nat.le_trans (dropWhile_le _ _) hl) fun f hf => ?_
                rcases List.mem_append.1 hf with hf | hf
                · exact h f hf
                · simp only [List.mem_singleton] at hf; subst hf
                  exact Nat.le_trans (takeWhile_le _ _) hl
theorem fieldsS_text (l : List UInt8) : ∀ f ∈ (fieldsS l).1, f.text.length ≤ l.length := fieldsF_text _ _ _ _ _ _ (Nat.le_refl _) (by simp)
def OkLin (x : Lin) : Prop := x.fields.length ≤ 1000 ∧ ∀ f ∈ x.fields, f.text.length ≤ 1000
theorem splitF_ok : ∀ (ps : List (List UInt8)) (n : Int) (out : List Lin) (ds : List Dia), (∀ x ∈ out, OkLin x) → ds.length ≤ 50 → (∀ x ∈ (splitF ps n out ds).1, OkLin x) ∧ (splitF ps n out ds).1.length ≤ out.length + ps.length ∧ (splitF ps n out ds).2.length ≤ 50 := by
  intro ps
  induction ps with
  | nil => intro n out ds h hd; rw [splitF]; exact ⟨h, by simp, hd⟩
  | cons p ps ih =>
    intro n out ds h hd
    have hd2 : ∀ x : Dia, (if ds.length < 50 then ds ++ [x] else ds).length ≤ 50 := by
      intro x; split
      · simp; omega
      · exact hd
    rw [splitF]
    split
    · have := ih (n + 1) out _ h (hd2 ⟨n, 1001, 9⟩); exact ⟨this.1, by simp; omega, this.2.2⟩
    · split
      · have := ih (n + 1) out _ h (hd2 ⟨n, (fieldsS p).2, 4⟩); exact ⟨this.1, by simp; omega, this.2.2⟩
      · split
        · rename_i hp _ _
          have := ih (n + 1) (out ++ [⟨n, (fieldsS p).1⟩]) ds (fun x hx => by
            rcases List.mem_append.1 hx with hx | hx
            · exact h x hx
            · simp only [List.mem_singleton] at hx; subst hx
              exact ⟨by have := (fieldsS_len p).1; show (fieldsS p).1.length ≤ 1000; omega, fun f hf => by have := fieldsS_text p f hf; omega⟩) hd
          exact ⟨this.1, by have := this.2.1; simp at this ⊢; omega, this.2.2⟩
        · have := ih (n + 1) out ds h hd; exact ⟨this.1, by simp; omega, this.2.2⟩
theorem splitS_ok (s : List UInt8) : (∀ x ∈ (splitS s).1, OkLin x) ∧ (splitS s).1.length ≤ 262145 ∧ (splitS s).2.length ≤ 50 := by
  unfold splitS
  split
  · simp
  · have h1 := splitF_ok (pieces 10 s) 1 [] [] (by simp) (by simp)
    have h2 := pieces_len 10 s
    exact ⟨h1.1, by have := h1.2.1; simp at this; omega, h1.2.2⟩

/-- One line of a side, with index i. -/
def stepS (x : Lin) (i : Nat) (q : Sqd) : Sqd × Cur :=
  if i = 0 then ({ q with name := ((Cur.start x).keyword sSIDE).1.ident.2 }, ((Cur.start x).keyword sSIDE).1.ident.1) else playerS q (Cur.start x)
theorem linesF_cons (x : Lin) (l : List Lin) (i : Nat) (q : Sqd) : linesF (x :: l) i q = match (stepS x i q).2.close with | some d => .inr d | none => linesF l (i + 1) (stepS x i q).1 := by
  rfl
theorem linesF_bad {x : Lin} {l : List Lin} {i : Nat} {q q' : Sqd} {c : Cur} {d : Dia} (h : stepS x i q = (q', c)) (hc : c.close = some d) : linesF (x :: l) i q = .inr d := by
  rw [linesF_cons, h]; simp only [hc]
theorem linesF_ok {x : Lin} {l : List Lin} {i : Nat} {q q' : Sqd} {c : Cur} (h : stepS x i q = (q', c)) (hc : c.close = none) : linesF (x :: l) i q = linesF l (i + 1) q' := by
  rw [linesF_cons, h]; simp only [hc]
theorem dutiesF_players (n : Int) : ∀ (k : Nat) (q : Sqd) (c : Cur), (dutiesF k n q c).1.players = q.players ∧ (dutiesF k n q c).1.name = q.name := by
  intro k
  induction k with
  | zero => intro q c; exact ⟨rfl, rfl⟩
  | succ k ih =>
    intro q c
    rw [dutiesF]
    split
    · have h1 := ih (dutyS n q c).1 (dutyS n q c).2
      have h2 := dutyS_left n q c
      exact ⟨h1.1.trans h2.2.2.1, h1.2.trans h2.2.2.2⟩
    · exact ⟨rfl, rfl⟩
theorem playerS_players (q : Sqd) (c : Cur) : (playerS q c).1.players = q.players ++ [(c.keyword sPLAYER).1.ident.2] ∧ (playerS q c).1.name = q.name := by
  unfold playerS dutiesS
  exact dutiesF_players _ _ _ _
theorem stepS_players (x : Lin) (i : Nat) (q : Sqd) (hx : OkLin x) (hq : q.players.length ≤ i) (hl : ∀ p ∈ q.players, p.length ≤ 1000) (hn : q.name.length ≤ 1000) :
    (stepS x i q).1.players.length ≤ i + 1 ∧ (∀ p ∈ (stepS x i q).1.players, p.length ≤ 1000) ∧ (stepS x i q).1.name.length ≤ 1000 := by
  have hk : ∀ kw, ((Cur.start x).keyword kw).1.ident.2.length ≤ 1000 := fun kw => by
    refine Cur.ident_text _ fun f hf => ?_
    rw [Cur.keyword_fields] at hf
    exact hx.2 f hf
  unfold stepS
  split
  · exact ⟨by simp; omega, hl, hk _⟩
  · have hp := playerS_players q (Cur.start x)
    rw [hp.1, hp.2]
    exact ⟨by simp; omega, fun p hp => by
      rcases List.mem_append.1 hp with hp | hp
      · exact hl p hp
      · simp only [List.mem_singleton] at hp; subst hp; exact hk _, hn⟩
end

section
/-! part P9 -/
theorem playersErr_ok : ∀ (l pre : List (List UInt8)), playersErr l pre = 0 → (∀ p ∈ l, nameS p = true ∧ p ∉ pre) ∧ l.Nodup := by
  intro l
  induction l with
  | nil => intro pre _; exact ⟨by simp, by simp⟩
  | cons a l ih =>
    intro pre h
    rw [playersErr] at h
    split at h
    · simp at h
    · split at h
      · simp at h
      · rename_i h1 h2
        obtain ⟨h3, h4⟩ := ih _ h
        refine ⟨fun p hp => ?_, List.nodup_cons.2 ⟨fun ha => (h3 a ha).2 (by simp), h4⟩⟩
        rcases List.mem_cons.1 hp with rfl | hp
        · exact ⟨by simpa using h1, h2⟩
        · exact ⟨(h3 p hp).1, fun hpre => (h3 p hp).2 (by simp [hpre])⟩
theorem indexF_nodup : ∀ (l : List (List UInt8)) (m i : Nat) (h : m < l.length), l.Nodup → indexF l[m] l i = i + m := by
  intro l
  induction l with
  | nil => intro m i h; simp at h
  | cons a l ih =>
    intro m i h hn
    rw [indexF]
    cases m with
    | zero => simp
    | succ m =>
      obtain ⟨h1, h2⟩ := List.nodup_cons.1 hn
      have hm : m < l.length := by simp at h; omega
      rw [List.getElem_cons_succ, if_neg (fun e => h1 (by rw [e]; exact List.getElem_mem hm)), ih m (i + 1) hm h2]
      omega
theorem indexF_none (s : List UInt8) : ∀ (l : List (List UInt8)) (i : Nat), s ∉ l → indexF s l i = -1 := by
  intro l
  induction l with
  | nil => intro i _; rfl
  | cons a l ih =>
    intro i h
    rw [indexF, if_neg (fun e => h (by simp [e]))]
    exact ih _ fun hm => h (by simp [hm])
theorem nameS_ne {l : List UInt8} (h : nameS l = true) : l ≠ [] ∧ l.length ≤ 16 := by
  cases l with
  | nil => simp [nameS] at h
  | cons c l =>
    simp only [nameS, Bool.and_eq_true, decide_eq_true_eq] at h
    exact ⟨by simp, by simp; omega⟩
theorem checkS_ok {q : Sqd} (h : checkS q = 0) : nameS q.name = true ∧ 2 ≤ q.players.length ∧ q.players.length ≤ 11 ∧ (∀ p ∈ q.players, nameS p = true) ∧ q.players.Nodup ∧ titleS q q.cap ≠ [] ∧ titleS q q.kee ≠ [] := by
  unfold checkS at h
  split at h
  · simp at h
  · split at h
    · simp at h
    · split at h
      · rename_i h1; exact absurd h h1
      · split at h
        · simp at h
        · rename_i h1 h2 h3 h4
          have h3' := playersErr_ok _ _ (Classical.byContradiction h3)
          exact ⟨by simpa using h1, by omega, by omega, fun p hp => (h3'.1 p hp).1, h3'.2, fun e => h4 (.inl e), fun e => h4 (.inr e)⟩
theorem titleS_in {q : Sqd} {n : Int} (h : titleS q n ≠ []) : 1 ≤ n ∧ n ≤ q.players.length := by
  unfold titleS at h
  split at h
  · exact absurd rfl h
  · omega
/-- What SquadFinds asks of an accepted side. -/
theorem finds {q : Sqd} (h : checkS q = 0) {m : Nat} (hm : m < q.players.length) :
    indexS q.players q.players[m] + 1 = (m : Int) + 1 ∧ titleS q ((m : Int) + 1) ≠ [] ∧ titleS q ((q.players.length : Int) + 1) = [] ∧ indexS q.players [] + 1 = 0 := by
  obtain ⟨h1, h2, h3, h4, h5, h6, h7⟩ := checkS_ok h
  refine ⟨by unfold indexS; rw [indexF_nodup _ m 0 hm h5]; simp, ?_, by unfold titleS; rw [if_pos (by omega)], by unfold indexS; rw [indexF_none]; rfl; exact fun hn => (nameS_ne (h4 _ hn)).1 rfl⟩
  unfold titleS
  rw [if_neg (by omega)]
  have : q.players.getD ((m : Int) + 1 - 1).toNat [] = q.players[m] := by
    rw [show ((m : Int) + 1 - 1).toNat = m from by omega, List.getD_eq_getElem?_getD, List.getElem?_eq_getElem hm]; rfl
  rw [this]
  intro e
  have := (nameS_ne (h4 _ (List.getElem_mem hm))).1
  simp at e
  exact this e.1
def fewS (q : Sqd) : Sqd := { q with name := q.name.take 20, players := (q.players.take 13).map (·.take 20) }
theorem fewS_len (q : Sqd) : (fewS q).name.length ≤ 20 ∧ (∀ p ∈ (fewS q).players, p.length ≤ 20) ∧ (fewS q).players.length ≤ 13 := by
  refine ⟨by simp [fewS]; omega, fun p hp => ?_, by simp [fewS]; omega⟩
  simp only [fewS, List.mem_map] at hp
  obtain ⟨a, _, rfl⟩ := hp
  simp; omega
end

section
/-! part P10 -/
/-- A field that can be written and read back as it is. -/
def okF (f : Fld) : Bool := if f.quoted then f.text.all printedB else wordS f.text
/-- Where the fields stand when they are written from column i + 1 on. -/
def placeF : List Fld → Nat → List Fld
  | [], _ => []
  | f :: fs, i => ⟨f.text, (i : Int) + 1, f.quoted⟩ :: placeF fs (i + (fieldW f).length + 1)
/-- All the fuel that is wanted. -/
def fieldsL (l : List UInt8) (i : Nat) (after : Bool) (out : List Fld) : List Fld × Nat := fieldsF l.length l i after out
theorem fieldsF_L {n : Nat} {l : List UInt8} (h : l.length ≤ n) (i : Nat) (after : Bool) (out : List Fld) : fieldsF n l i after out = fieldsL l i after out := fieldsF_fuel _ _ _ h (Nat.le_refl _) _ _ _

theorem quotedS_back (rest : List UInt8) (hr : rest.head? ≠ some 34) : ∀ (t : List UInt8) (j : Nat) (acc : List UInt8), t.all printedB = true →
    quotedS (subst1 34 [34, 34] t ++ 34 :: rest) j acc = (acc ++ t, j + (subst1 34 [34, 34] t).length + 1, true) := by
  intro t
  induction t with
  | nil =>
    intro j acc _
    show quotedS (34 :: rest) j acc = _
    rw [quotedS.eq_def]; dsimp only
    rw [if_pos rfl]
    cases rest with
    | nil => simp [subst1]
    | cons d r =>
      have : d ≠ 34 := fun e => hr (by simp [e])
      simp [this, subst1]
  | cons b t ih =>
    intro j acc h
    simp only [List.all_cons, Bool.and_eq_true] at h
    have hs : subst1 34 [34, 34] (b :: t) = (if b = 34 then [34, 34] else [b]) ++ subst1 34 [34, 34] t := by simp [subst1]
    rw [hs]
    by_cases hb : b = 34
    · subst hb
      rw [if_pos rfl]
      show quotedS (34 :: 34 :: (subst1 34 [34, 34] t ++ 34 :: rest)) j acc = _
      rw [quotedS.eq_def]; dsimp only
      rw [if_pos rfl, if_pos rfl, ih _ _ h.2]
      simp; omega
    · rw [if_neg hb]
      show quotedS (b :: (subst1 34 [34, 34] t ++ 34 :: rest)) j acc = _
      rw [quotedS.eq_def]; dsimp only
      rw [if_neg hb, if_pos h.1, ih _ _ h.2]
      simp; omega
theorem wordB_not {c : UInt8} (h : wordB c = true) : whiteB c = false ∧ c ≠ 59 ∧ c ≠ 34 ∧ c ≠ 10 := by
  unfold wordB at h
  simp only [Bool.and_eq_true, decide_eq_true_eq, bne_iff_ne, ne_eq] at h
  obtain ⟨⟨⟨h1, h2⟩, h3⟩, h4⟩ := h
  rw [UInt8.lt_iff_toNat_lt] at h1
  have h1' : 32 < c.toNat := h1
  refine ⟨?_, h4, h3, fun e => by subst e; revert h1'; decide⟩
  unfold whiteB
  rw [Bool.or_eq_false_iff]
  exact ⟨beq_eq_false_iff_ne.2 fun e => (by subst e; revert h1'; decide), beq_eq_false_iff_ne.2 fun e => (by subst e; revert h1'; decide)⟩
theorem takeWhile_all {α : Type} (p : α → Bool) (a b : List α) (ha : a.all p = true) (hb : ∀ x, b.head? = some x → p x = false) : (a ++ b).takeWhile p = a ∧ (a ++ b).dropWhile p = b := by
  induction a with
  | nil =>
    cases b with
    | nil => simp
    | cons x b => simp [hb x rfl]
  | cons x a ih =>
    simp only [List.all_cons, Bool.and_eq_true] at ha
    have := ih ha.2
    simp [ha.1, this.1, this.2]
/-- One field. -/
theorem fieldsL_field (f : Fld) (rest : List UInt8) (i : Nat) (out : List Fld) (hf : okF f = true) (hr : ∀ x, rest.head? = some x → x = 32) :
    fieldsL (fieldW f ++ rest) i false out = fieldsL rest (i + (fieldW f).length) f.quoted (out ++ [⟨f.text, (i : Int) + 1, f.quoted⟩]) := by
  unfold okF at hf
  have hr34 : rest.head? ≠ some 34 := fun e => by have := hr _ e; revert this; decide
  cases hq : f.quoted
  · rw [hq] at hf
    simp only [Bool.false_eq_true, if_false] at hf
    have hw : fieldW f = f.text := by unfold fieldW; rw [hq, hf]; rfl
    rw [hw]
    unfold wordS at hf
    simp only [Bool.and_eq_true, Bool.not_eq_true', List.isEmpty_eq_false_iff] at hf
    obtain ⟨h1, h2⟩ := hf
    obtain ⟨c, t, ht⟩ : ∃ c t, f.text = c :: t := by
      cases hx : f.text with
      | nil => exact absurd hx h2
      | cons c t => exact ⟨c, t, rfl⟩
    have hc : wordB c = true := by rw [ht] at h1; simp at h1; exact h1.1
    obtain ⟨n1, n2, n3, _⟩ := wordB_not hc
    have hrw : ∀ x, rest.head? = some x → wordB x = false := fun x hx => by rw [hr x hx]; decide
    obtain ⟨k1, k2⟩ := takeWhile_all wordB f.text rest h1 hrw
    unfold fieldsL
    rw [ht] at k1 k2 ⊢
    rw [List.cons_append] at k1 k2 ⊢
    rw [List.length_cons, fieldsF, if_neg (by rw [n1]; simp), if_neg n2, if_neg (by simp), if_neg n3, k1, k2, if_neg (by simp; exact hr34)]
    rw [fieldsF_L (by simp <;> omega)]
    rfl
  · rw [hq] at hf
    simp only [if_true] at hf
    have hw : fieldW f = quoteS f.text := by unfold fieldW; rw [hq]; rfl
    rw [hw]
    have hl : quoteS f.text ++ rest = 34 :: (subst1 34 [34, 34] f.text ++ 34 :: rest) := by unfold quoteS; simp
    have hb := quotedS_back rest hr34 f.text (i + 1) [] hf
    unfold fieldsL
    rw [hl, List.length_cons, fieldsF, if_neg (by decide), if_neg (by decide), if_neg (by simp), if_pos rfl, hb, if_pos rfl]
    simp only [List.nil_append]
    have hd : (subst1 34 [34, 34] f.text ++ 34 :: rest).drop (i + 1 + (subst1 34 [34, 34] f.text).length + 1 - (i + 1)) = rest := by
      rw [show i + 1 + (subst1 34 [34, 34] f.text).length + 1 - (i + 1) = (subst1 34 [34, 34] f.text).length + 1 from by omega]
      rw [List.drop_append, List.drop_of_length_le (by omega), show (subst1 34 [34, 34] f.text).length + 1 - (subst1 34 [34, 34] f.text).length = 1 from by omega]
      rfl
    rw [hd, fieldsF_L (by simp <;> omega)]
    have hq2 : (quoteS f.text).length = (subst1 34 [34, 34] f.text).length + 2 := by unfold quoteS; simp
    rw [hq2, show i + 1 + (subst1 34 [34, 34] f.text).length + 1 = i + ((subst1 34 [34, 34] f.text).length + 2) from by omega]
    rfl
theorem lineW_head (fs : List Fld) : ∀ x, (lineW fs false).head? = some x → x = 32 := by
  intro x h
  cases fs with
  | nil => simp [lineW] at h
  | cons f fs => rw [lineW] at h; simp at h; exact h.symm
theorem fieldsL_rest : ∀ (fs : List Fld) (i : Nat) (after : Bool) (out : List Fld), (∀ f ∈ fs, okF f = true) → fieldsL (lineW fs false) i after out = (out ++ placeF fs (i + 1), 0) := by
  intro fs
  induction fs with
  | nil => intro i after out _; simp [lineW, fieldsL, fieldsF, placeF]
  | cons f fs ih =>
    intro i after out h
    have hl : lineW (f :: fs) false = 32 :: (fieldW f ++ lineW fs false) := by rw [lineW]; simp
    have hstep : fieldsL (lineW (f :: fs) false) i after out = fieldsL (fieldW f ++ lineW fs false) (i + 1) false out := by
      unfold fieldsL
      rw [hl, List.length_cons, fieldsF, if_pos (by decide)]
    rw [hstep, fieldsL_field f _ _ _ (h f (by simp)) (lineW_head fs), ih _ _ _ fun g hg => h g (by simp [hg])]
    rw [placeF]
    simp [Nat.add_assoc]
/-- A written line. -/
theorem fieldsS_line (fs : List Fld) (h : ∀ f ∈ fs, okF f = true) : fieldsS (lineW fs true) = (placeF fs 0, 0) := by
  show fieldsL (lineW fs true) 0 false [] = _
  cases fs with
  | nil => rfl
  | cons f fs =>
    have hl : lineW (f :: fs) true = fieldW f ++ lineW fs false := by rw [lineW]; simp
    rw [hl, fieldsL_field f _ _ _ (h f (by simp)) (lineW_head fs), fieldsL_rest _ _ _ _ fun g hg => h g (by simp [hg])]
    rw [placeF]
    simp
theorem placeF_len : ∀ (fs : List Fld) (i : Nat), (placeF fs i).length = fs.length := by
  intro fs
  induction fs with
  | nil => intro i; rfl
  | cons f fs ih => intro i; rw [placeF, List.length_cons, ih, List.length_cons]

theorem subst1_no10 (t : List UInt8) (h : t.all printedB = true) : (10 : UInt8) ∉ subst1 34 [34, 34] t := by
  intro hm
  unfold subst1 at hm
  obtain ⟨b, hb, hx⟩ := List.mem_flatMap.1 hm
  have hp := List.all_eq_true.1 h b hb
  split at hx
  · simp at hx
  · simp at hx; subst hx; revert hp; decide
theorem fieldW_no10 {f : Fld} (h : okF f = true) : (10 : UInt8) ∉ fieldW f := by
  unfold okF at h
  cases hq : f.quoted
  · rw [hq] at h
    simp only [Bool.false_eq_true, if_false] at h
    have hw : fieldW f = f.text := by unfold fieldW; rw [hq, h]; rfl
    rw [hw]
    intro hm
    unfold wordS at h
    simp only [Bool.and_eq_true] at h
    exact (wordB_not (List.all_eq_true.1 h.1 _ hm)).2.2.2 rfl
  · rw [hq] at h
    simp only [if_true] at h
    have hw : fieldW f = quoteS f.text := by unfold fieldW; rw [hq]; rfl
    rw [hw]
    unfold quoteS
    have := subst1_no10 f.text h
    simp [this]
theorem lineW_no10 : ∀ (fs : List Fld) (b : Bool), (∀ f ∈ fs, okF f = true) → (10 : UInt8) ∉ lineW fs b := by
  intro fs
  induction fs with
  | nil => intro b _; simp [lineW]
  | cons f fs ih =>
    intro b h hm
    rw [lineW] at hm
    rcases List.mem_append.1 hm with hm | hm
    · rcases List.mem_append.1 hm with hm | hm
      · split at hm
        · simp at hm
        · simp at hm
      · exact fieldW_no10 (h f (by simp)) hm
    · exact ih false (fun g hg => h g (by simp [hg])) hm
theorem pieces_line (l r : List UInt8) (h : (10 : UInt8) ∉ l) : pieces 10 (l ++ 10 :: r) = l :: pieces 10 r := by
  induction l with
  | nil => simp [pieces]
  | cons b l ih =>
    have hb : b ≠ 10 := fun e => h (by simp [e])
    rw [List.cons_append, pieces, if_neg hb, ih fun hm => h (by simp [hm])]
def okL (x : Lin) : Prop := x.fields ≠ [] ∧ (∀ f ∈ x.fields, okF f = true) ∧ (lineW x.fields true).length ≤ 1000
/-- The lines as they are read back: numbered from n on, each field in its place. -/
def backF : List Lin → Int → List Lin
  | [], _ => []
  | x :: ls, n => ⟨n, placeF x.fields 0⟩ :: backF ls (n + 1)
theorem splitF_back : ∀ (ls : List Lin) (n : Int) (out : List Lin) (ds : List Dia), (∀ x ∈ ls, okL x) → splitF (pieces 10 (writeS ls)) n out ds = (out ++ backF ls n, ds) := by
  intro ls
  induction ls with
  | nil =>
    intro n out ds _
    have : (fieldsS []) = ([], 0) := rfl
    simp [writeS, pieces, splitF, this, backF]
  | cons x ls ih =>
    intro n out ds h
    obtain ⟨h1, h2, h3⟩ := h x (by simp)
    have hw : writeS (x :: ls) = lineW x.fields true ++ 10 :: writeS ls := by
      rw [writeS]; unfold endW
      have : x.fields.isEmpty = false := by simpa using h1
      rw [this]; simp
    rw [hw, pieces_line _ _ (lineW_no10 _ _ h2), splitF, if_neg (by omega), fieldsS_line _ h2]
    have hne : placeF x.fields 0 ≠ [] := fun e => h1 (List.eq_nil_of_length_eq_zero (by rw [← placeF_len x.fields 0, e]; rfl))
    simp only [ne_eq, not_true, if_false, hne, not_false_eq_true, if_true]
    rw [ih _ _ _ fun y hy => h y (by simp [hy]), backF]
    simp
theorem splitS_back (ls : List Lin) (h : ∀ x ∈ ls, okL x) (hl : (writeS ls).length ≤ 262144) : splitS (writeS ls) = (backF ls 1, []) := by
  unfold splitS
  rw [if_neg (by omega), splitF_back _ _ _ _ h]
  simp

theorem indexS_cap : indexS [sCAPTAIN, sKEEPER] sCAPTAIN = 0 := by decide
theorem indexS_kee : indexS [sCAPTAIN, sKEEPER] sKEEPER = 1 := by decide
theorem read_some {n c : Int} {fs : List Fld} {k : Nat} {t : List UInt8} {cc : Int} (h : fs[k]? = some ⟨t, cc, false⟩) :
    (⟨n, fs, k, c, 0, 0⟩ : Cur).read false = (⟨n, fs, k + 1, cc, 0, 0⟩, t, true) := by
  unfold Cur.read
  simp [h]
theorem more_some {n c : Int} {fs : List Fld} {k : Nat} {f : Fld} (h : fs[k]? = some f) : (⟨n, fs, k, c, 0, 0⟩ : Cur).more = true := by
  have := (List.getElem?_eq_some_iff.1 h).1
  unfold Cur.more
  simp [this]
theorem duties_end {m n c : Int} {q : Sqd} {fs : List Fld} {k : Nat} (h : fs[k]? = none) : dutiesS m q ⟨n, fs, k, c, 0, 0⟩ = (q, ⟨n, fs, k, c, 0, 0⟩) := by
  refine dutiesS_end ?_
  have := List.getElem?_eq_none_iff.1 h
  unfold Cur.more
  simp [this]
theorem duties_cap {m n c cc : Int} {q : Sqd} {fs : List Fld} {k : Nat} (h : fs[k]? = some ⟨sCAPTAIN, cc, false⟩) (h0 : q.cap = 0) (h1 : q.kee ≠ m) :
    dutiesS m q ⟨n, fs, k, c, 0, 0⟩ = dutiesS m { q with cap := m } ⟨n, fs, k + 1, cc, 0, 0⟩ := by
  rw [dutiesS_more (more_some h)]
  unfold dutyS Cur.oneOf
  rw [read_some h]
  simp only [if_true, indexS_cap]
  simp [h0, h1]
theorem duties_kee {m n c cc : Int} {q : Sqd} {fs : List Fld} {k : Nat} (h : fs[k]? = some ⟨sKEEPER, cc, false⟩) (h0 : q.kee = 0) :
    dutiesS m q ⟨n, fs, k, c, 0, 0⟩ = dutiesS m { q with kee := m } ⟨n, fs, k + 1, cc, 0, 0⟩ := by
  rw [dutiesS_more (more_some h)]
  unfold dutyS Cur.oneOf
  rw [read_some h]
  simp only [if_true, indexS_kee]
  simp [h0]
theorem close_none {n c : Int} {fs : List Fld} {k : Nat} (h : fs[k]? = none) : (⟨n, fs, k, c, 0, 0⟩ : Cur).close = none := by
  unfold Cur.close
  simp [h]
theorem head_two {n c1 c2 : Int} {kw t : List UInt8} {F : List Fld} (ht : nameS t = true) :
    ((Cur.start ⟨n, ⟨kw, c1, false⟩ :: ⟨t, c2, false⟩ :: F⟩).keyword kw).1.ident = (⟨n, ⟨kw, c1, false⟩ :: ⟨t, c2, false⟩ :: F, 2, c2, 0, 0⟩, t) := by
  have h1 : (Cur.start ⟨n, ⟨kw, c1, false⟩ :: ⟨t, c2, false⟩ :: F⟩).read false = (⟨n, ⟨kw, c1, false⟩ :: ⟨t, c2, false⟩ :: F, 1, c1, 0, 0⟩, kw, true) := read_some (k := 0) rfl
  have h2 : (⟨n, ⟨kw, c1, false⟩ :: ⟨t, c2, false⟩ :: F, 1, c1, 0, 0⟩ : Cur).read false = (⟨n, ⟨kw, c1, false⟩ :: ⟨t, c2, false⟩ :: F, 2, c2, 0, 0⟩, t, true) := read_some (k := 1) rfl
  unfold Cur.keyword
  rw [h1]
  simp only [true_and, ne_eq, not_true, if_false]
  unfold Cur.ident
  rw [h2]
  simp [ht]
theorem side_line {n c1 c2 : Int} {t : List UInt8} (q : Sqd) (ht : nameS t = true) :
    stepS ⟨n, [⟨sSIDE, c1, false⟩, ⟨t, c2, false⟩]⟩ 0 q = ({ q with name := t }, ⟨n, [⟨sSIDE, c1, false⟩, ⟨t, c2, false⟩], 2, c2, 0, 0⟩) := by
  unfold stepS
  rw [if_pos rfl, head_two ht]
theorem player_line {n c1 c2 : Int} {p : List UInt8} {F : List Fld} {i : Nat} (q : Sqd) (hi : i ≠ 0) (hp : nameS p = true) :
    stepS ⟨n, ⟨sPLAYER, c1, false⟩ :: ⟨p, c2, false⟩ :: F⟩ i q = dutiesS ((q.players.length : Int) + 1) { q with players := q.players ++ [p] } ⟨n, ⟨sPLAYER, c1, false⟩ :: ⟨p, c2, false⟩ :: F, 2, c2, 0, 0⟩ := by
  unfold stepS
  rw [if_neg hi]
  unfold playerS
  rw [head_two hp]
/-- What has been read of the side behind the first players. -/
def halfS (q : Sqd) (pre : List (List UInt8)) : Sqd := ⟨q.name, pre, if q.cap ≤ pre.length then q.cap else 0, if q.kee ≤ pre.length then q.kee else 0⟩
theorem players_back (q : Sqd) (hc : 1 ≤ q.cap) (hk : 1 ≤ q.kee) (hc2 : q.cap ≤ q.players.length) (hk2 : q.kee ≤ q.players.length) (hn : ∀ p ∈ q.players, nameS p = true) :
    ∀ (ps pre : List (List UInt8)) (n : Int), q.players = pre ++ ps → linesF (backF (playerLines q ps pre.length) n) (pre.length + 1) (halfS q pre) = .inl q := by
  intro ps
  induction ps with
  | nil =>
    intro pre n hq
    rw [List.append_nil] at hq
    rw [playerLines, backF, linesF]
    unfold halfS
    rw [← hq, if_pos hc2, if_pos hk2]
  | cons p ps ih =>
    intro pre n hq
    have hp : nameS p = true := hn p (by rw [hq]; simp)
    have hih := ih (pre ++ [p]) (n + 1) (by rw [hq]; simp)
    rw [List.length_append, List.length_singleton] at hih
    rw [playerLines, backF]
    have key : ∃ c, stepS ⟨n, placeF (playerLine q pre.length p).fields 0⟩ (pre.length + 1) (halfS q pre) = (halfS q (pre ++ [p]), c) ∧ c.close = none := by
      have hl : ((halfS q pre).players.length : Int) = pre.length := rfl
      unfold playerLine
      by_cases h1 : (pre.length : Int) + 1 = q.cap <;> by_cases h2 : (pre.length : Int) + 1 = q.kee
      · rw [if_pos h1, if_pos h2]
        simp only [List.append_assoc, List.cons_append, List.nil_append, wordF, placeF]
        rw [player_line _ (by omega) hp, hl, duties_cap rfl (by show (if _ then _ else _) = _; rw [if_neg (by omega)]) (by show (if _ then _ else _) ≠ _; rw [if_neg (by omega)]; omega),
          duties_kee rfl (by show (if _ then _ else _) = _; rw [if_neg (by omega)]), duties_end rfl]
        refine ⟨_, Prod.ext ?_ rfl, close_none rfl⟩
        unfold halfS
        simp only [List.length_append, List.length_singleton, Sqd.mk.injEq, true_and]
        rw [if_pos (by omega), if_pos (by omega)]
        exact ⟨h1, h2⟩
      · rw [if_pos h1, if_neg h2]
        simp only [List.append_assoc, List.cons_append, List.nil_append, wordF, placeF]
        rw [player_line _ (by omega) hp, hl, duties_cap rfl (by show (if _ then _ else _) = _; rw [if_neg (by omega)]) (by show (if _ then _ else _) ≠ _; split <;> omega), duties_end rfl]
        refine ⟨_, Prod.ext ?_ rfl, close_none rfl⟩
        unfold halfS
        simp only [List.length_append, List.length_singleton, Sqd.mk.injEq, true_and]
        rw [if_pos (by omega)]
        refine ⟨h1, ?_⟩
        by_cases h3 : q.kee ≤ (pre.length : Int)
        · rw [if_pos h3, if_pos (by omega)]
        · rw [if_neg h3, if_neg (by omega)]
      · rw [if_neg h1, if_pos h2]
        simp only [List.append_assoc, List.cons_append, List.nil_append, wordF, placeF]
        rw [player_line _ (by omega) hp, hl, duties_kee rfl (by show (if _ then _ else _) = _; rw [if_neg (by omega)]), duties_end rfl]
        refine ⟨_, Prod.ext ?_ rfl, close_none rfl⟩
        unfold halfS
        simp only [List.length_append, List.length_singleton, Sqd.mk.injEq, true_and]
        rw [if_pos (show q.kee ≤ _ by omega)]
        refine ⟨?_, h2⟩
        by_cases h3 : q.cap ≤ (pre.length : Int)
        · rw [if_pos h3, if_pos (by omega)]
        · rw [if_neg h3, if_neg (by omega)]
      · rw [if_neg h1, if_neg h2]
        simp only [List.append_assoc, List.cons_append, List.nil_append, wordF, placeF]
        rw [player_line _ (by omega) hp, hl, duties_end rfl]
        refine ⟨_, Prod.ext ?_ rfl, close_none rfl⟩
        unfold halfS
        simp only [List.length_append, List.length_singleton, Sqd.mk.injEq, true_and]
        constructor
        · by_cases h3 : q.cap ≤ (pre.length : Int)
          · rw [if_pos h3, if_pos (by omega)]
          · rw [if_neg h3, if_neg (by omega)]
        · by_cases h3 : q.kee ≤ (pre.length : Int)
          · rw [if_pos h3, if_pos (by omega)]
          · rw [if_neg h3, if_neg (by omega)]
    obtain ⟨c, hs, hcl⟩ := key
    rw [linesF_ok hs hcl]
    exact hih
theorem word_of_name {t : List UInt8} (h : nameS t = true) : wordS t = true := by
  cases t with
  | nil => simp [nameS] at h
  | cons c l =>
    simp only [nameS, Bool.and_eq_true, decide_eq_true_eq] at h
    have hw : ∀ x, tailB x = true → wordB x = true := by
      intro x hx
      unfold tailB letterB at hx
      unfold wordB
      simp only [Bool.or_eq_true, Bool.and_eq_true, decide_eq_true_eq, beq_iff_eq, UInt8.le_iff_toNat_le, UInt8.lt_iff_toNat_lt, bne_iff_ne, ne_eq, ← UInt8.toNat_inj] at hx ⊢
      have e1 : (65 : UInt8).toNat = 65 := rfl
      have e2 : (90 : UInt8).toNat = 90 := rfl
      have e3 : (95 : UInt8).toNat = 95 := rfl
      have e4 : (45 : UInt8).toNat = 45 := rfl
      have e5 : (48 : UInt8).toNat = 48 := rfl
      have e6 : (57 : UInt8).toNat = 57 := rfl
      have e7 : (32 : UInt8).toNat = 32 := rfl
      have e8 : (126 : UInt8).toNat = 126 := rfl
      have e9 : (34 : UInt8).toNat = 34 := rfl
      have e10 : (59 : UInt8).toNat = 59 := rfl
      omega
    have hc : tailB c = true := by unfold tailB; rw [h.1.1]; rfl
    unfold wordS
    rw [List.all_cons, hw c hc, Bool.true_and, Bool.and_eq_true]
    exact ⟨List.all_eq_true.2 fun x hx => hw x (List.all_eq_true.1 h.1.2 x hx), by simp⟩
theorem okF_word {t : List UInt8} (h : wordS t = true) : okF (wordF t) = true := by unfold okF wordF; simpa using h
theorem fieldW_word {t : List UInt8} (h : wordS t = true) : fieldW (wordF t) = t := by unfold fieldW wordF; simp [h]
theorem playerLine_ok (q : Sqd) (i : Nat) {p : List UInt8} (h : nameS p = true) : okL (playerLine q i p) ∧ (lineW (playerLine q i p).fields true).length ≤ 39 := by
  have hw := word_of_name h
  have h16 := (nameS_ne h).2
  have e1 : wordS sPLAYER = true := by decide
  have e2 : wordS sCAPTAIN = true := by decide
  have e3 : wordS sKEEPER = true := by decide
  have l1 : sPLAYER.length = 6 := rfl
  have l2 : sCAPTAIN.length = 7 := rfl
  have l3 : sKEEPER.length = 6 := rfl
  have hlen : (lineW (playerLine q i p).fields true).length ≤ 39 := by
    unfold playerLine
    split <;> split
    all_goals simp only [List.append_assoc, List.cons_append, List.nil_append, lineW, fieldW_word hw, fieldW_word e1, fieldW_word e2, fieldW_word e3, if_true, Bool.false_eq_true, if_false, List.append_nil, List.length_append, List.length_cons, List.length_nil, l1, l2, l3]
    all_goals omega
  refine ⟨⟨by unfold playerLine; simp, fun f hf => ?_, by omega⟩, hlen⟩
  unfold playerLine at hf
  simp only [List.mem_append, List.mem_cons, List.not_mem_nil, or_false] at hf
  rcases hf with ((rfl | rfl) | hf) | hf
  · exact okF_word e1
  · exact okF_word hw
  · split at hf
    · simp only [List.mem_cons, List.not_mem_nil, or_false] at hf; subst hf; exact okF_word e2
    · simp at hf
  · split at hf
    · simp only [List.mem_cons, List.not_mem_nil, or_false] at hf; subst hf; exact okF_word e3
    · simp at hf
theorem playerLines_ok (q : Sqd) : ∀ (ps : List (List UInt8)) (i : Nat), (∀ p ∈ ps, nameS p = true) → (∀ x ∈ playerLines q ps i, okL x) ∧ (writeS (playerLines q ps i)).length ≤ 40 * ps.length := by
  intro ps
  induction ps with
  | nil => intro i _; simp [playerLines, writeS]
  | cons p ps ih =>
    intro i h
    obtain ⟨h1, h2⟩ := playerLine_ok q i (h p (by simp))
    obtain ⟨h3, h4⟩ := ih (i + 1) fun p hp => h p (by simp [hp])
    rw [playerLines]
    refine ⟨fun x hx => ?_, ?_⟩
    · rcases List.mem_cons.1 hx with rfl | hx
      · exact h1
      · exact h3 x hx
    · rw [writeS]
      have : (endW (playerLine q i p).fields).length ≤ 1 := by unfold endW; split <;> simp
      simp only [List.length_append, List.length_cons]
      omega
theorem sqLines_ok {q : Sqd} (h : checkS q = 0) : (∀ x ∈ sqLines q, okL x) ∧ (writeS (sqLines q)).length ≤ 462 := by
  obtain ⟨h1, h2, h3, h4, _⟩ := checkS_ok h
  obtain ⟨k1, k2⟩ := playerLines_ok q q.players 0 h4
  have hw := word_of_name h1
  have h16 := (nameS_ne h1).2
  have e1 : wordS sSIDE = true := by decide
  have l1 : sSIDE.length = 4 := rfl
  have hlen : (lineW [wordF sSIDE, wordF q.name] true).length ≤ 21 := by
    simp only [lineW, fieldW_word hw, fieldW_word e1, if_true, Bool.false_eq_true, if_false, List.append_nil, List.nil_append, List.length_append, List.length_cons, List.length_nil, l1]
    omega
  unfold sqLines
  refine ⟨fun x hx => ?_, ?_⟩
  · rcases List.mem_cons.1 hx with rfl | hx
    · refine ⟨by simp, fun f hf => ?_, by simp only; omega⟩
      simp only [List.mem_cons, List.not_mem_nil, or_false] at hf
      rcases hf with rfl | rfl
      · exact okF_word e1
      · exact okF_word hw
    · exact k1 x hx
  · rw [writeS]
    have : (endW [wordF sSIDE, wordF q.name]).length ≤ 1 := by unfold endW; split <;> simp
    simp only [List.length_append] at *
    omega
/-- A side that is accepted is read back from its text. -/
theorem parse_back {q : Sqd} (h : checkS q = 0) : parseS (writeS (sqLines q)) = (q, []) := by
  obtain ⟨k1, k2⟩ := sqLines_ok h
  obtain ⟨h1, h2, h3, h4, h5, h6, h7⟩ := checkS_ok h
  have hc := titleS_in h6
  have hk := titleS_in h7
  unfold parseS
  rw [splitS_back _ k1 (by omega)]
  have hl : linesF (backF (sqLines q) 1) 0 noSqd = .inl q := by
    unfold sqLines
    rw [backF]
    simp only [wordF, placeF]
    rw [linesF_ok (side_line noSqd h1) (close_none rfl)]
    have := players_back q hc.1 hk.1 hc.2 hk.2 h4 q.players [] (1 + 1) rfl
    have hh : halfS q [] = { noSqd with name := q.name } := by
      unfold halfS noSqd
      simp only [List.length_nil, Sqd.mk.injEq, true_and]
      exact ⟨by rw [if_neg (by simp; omega)], by rw [if_neg (by simp; omega)]⟩
    rw [hh] at this
    exact this
  have hne : backF (sqLines q) 1 ≠ [] := by unfold sqLines; rw [backF]; simp
  simp only [ne_eq, not_true, if_false, hne]
  rw [hl]
  simp [h]
theorem parseS_ok {s : List UInt8} (h : (parseS s).2 = []) : checkS (parseS s).1 = 0 := by
  unfold parseS at h ⊢
  split
  · rename_i h1; rw [if_pos h1] at h; exact absurd h h1
  · rename_i h1
    rw [if_neg h1] at h
    split
    · rename_i h2; rw [if_pos h2] at h; simp at h
    · rename_i h2
      rw [if_neg h2] at h
      split
      · rename_i d hd; rw [hd] at h; simp at h
      · rename_i q hq
        rw [hq] at h
        simp only at h
        split
        · rename_i h3; rw [if_pos h3] at h; simp at h
        · rename_i h3; exact Classical.byContradiction h3
theorem parseS_bad {s : List UInt8} (h : (parseS s).2 ≠ []) : (parseS s).1 = noSqd ∧ (parseS s).2.length ≤ 50 := by
  have hok := (splitS_ok s).2.2
  unfold parseS at h ⊢
  split
  · exact ⟨rfl, hok⟩
  · split
    · exact ⟨rfl, by simp⟩
    · split
      · exact ⟨rfl, by simp⟩
      · split
        · exact ⟨rfl, by simp⟩
        · rename_i h1 h2 _ q hq h3
          rw [if_neg h1, if_neg h2, hq] at h
          simp only at h
          rw [if_neg h3] at h
          simp at h
end

section
/-! part P30 -/
def digB (c : UInt8) : Bool := 48 ≤ c && c ≤ 57
/-- The value of digits behind a value. -/
def valF (n : Nat) (l : List UInt8) : Nat := l.foldl (fun (n : Nat) (c : UInt8) => n * 10 + (c.toNat - 48)) n
def negB (l : List UInt8) : Bool := l.head? == some 45
/-- What stands behind the sign. -/
def bodyD (l : List UInt8) : List UInt8 := if negB l = true then l.drop 1 else l
def decB (l : List UInt8) : Bool := !(bodyD l).isEmpty && !((bodyD l).head? == some 48 && !(l == [48])) && (bodyD l).all digB
def valI (l : List UInt8) : Int := if negB l = true then -(valF 0 (bodyD l) : Int) else valF 0 (bodyD l)
/-- Does a number fit an int64? -/
def fitB (v : Int) : Bool := decide (-9223372036854775808 ≤ v) && decide (v ≤ 9223372036854775807)
/-- Number: the integer of a decimal from lo to hi; the error. -/
def numberS (l : List UInt8) (lo hi : Int) : Int × Int :=
  if decB l = false then (0, 4) else if fitB (valI l) = true ∧ lo ≤ valI l ∧ valI l ≤ hi then (valI l, 0) else (0, 2)
theorem digB_iff (c : UInt8) : digB c = true ↔ 48 ≤ c.toNat ∧ c.toNat ≤ 57 := by
  unfold digB; simp [UInt8.le_iff_toNat_le]
theorem valF_cons (n : Nat) (c : UInt8) (r : List UInt8) : valF n (c :: r) = valF (n * 10 + (c.toNat - 48)) r := by unfold valF; rw [List.foldl_cons]
theorem valF_ge : ∀ (r : List UInt8) (n : Nat), n ≤ valF n r := by
  intro r
  induction r with
  | nil => intro n; exact Nat.le_refl _
  | cons c r ih => intro n; rw [valF_cons]; have := ih (n * 10 + (c.toNat - 48)); omega
theorem parseUint10_cons (n : Nat) (c : UInt8) (r : List UInt8) : Lib.parseUint10 n (c :: r) = if 48 ≤ c.toNat ∧ c.toNat ≤ 57 then (if 1844674407370955162 ≤ n then .range else if 18446744073709551616 ≤ n * 10 + (c.toNat - 48) then .range else Lib.parseUint10 (n * 10 + (c.toNat - 48)) r) else .syntax := by simp only [Lib.parseUint10]
theorem parseUint10_val : ∀ (r : List UInt8) (n : Nat), r.all digB = true → n < 18446744073709551616 →
    (valF n r < 18446744073709551616 → Lib.parseUint10 n r = .ok (valF n r)) ∧ (18446744073709551616 ≤ valF n r → Lib.parseUint10 n r = .range) := by
  intro r
  induction r with
  | nil => intro n _ h; exact ⟨fun _ => rfl, fun h' => absurd h (Nat.not_lt.2 h')⟩
  | cons c r ih =>
    intro n hd h
    simp only [List.all_cons, Bool.and_eq_true] at hd
    have hc := (digB_iff c).1 hd.1
    have hg := valF_ge r (n * 10 + (c.toNat - 48))
    rw [parseUint10_cons, if_pos hc, valF_cons]
    generalize hm : n * 10 + (c.toNat - 48) = m at *
    by_cases h1 : 1844674407370955162 ≤ n
    · rw [if_pos h1]
      exact ⟨fun h' => absurd h' (by omega), fun _ => rfl⟩
    · rw [if_neg h1]
      by_cases h2 : 18446744073709551616 ≤ m
      · rw [if_pos h2]
        exact ⟨fun h' => absurd h' (by omega), fun _ => rfl⟩
      · rw [if_neg h2]
        exact ih m hd.2 (Nat.not_le.1 h2)
theorem parse_dec {l : List UInt8} (h : decB l = true) : Lib.parseIntB 64 l = if fitB (valI l) = true then .ok (valI l) else .range := by
  rw [Lib.parseIntB_64]
  unfold decB at h
  simp only [Bool.and_eq_true, Bool.not_eq_true'] at h
  obtain ⟨⟨h1, _⟩, h3⟩ := h
  have hfit : ∀ v : Int, fitB v = true ↔ -9223372036854775808 ≤ v ∧ v ≤ 9223372036854775807 := fun v => by unfold fitB; simp
  cases hn : negB l with
  | true =>
    have hbd : bodyD l = l.drop 1 := by unfold bodyD; rw [if_pos hn]
    have hvi : valI l = -(valF 0 (l.drop 1) : Int) := by unfold valI; rw [if_pos hn, hbd]
    rw [hbd] at h1 h3
    rw [hvi]
    clear hbd hvi
    match l, hn with
    | c :: r, hn =>
      have hc : c = 45 := by unfold negB at hn; simpa using hn
      subst hc
      simp only [List.drop_succ_cons, List.drop_zero] at h1 h3 ⊢
      have hr : r ≠ [] := by intro e; rw [e] at h1; simp at h1
      have hu := parseUint10_val r 0 h3 (by omega)
      rw [Lib.atoiAll_minus, Lib.parseMag, if_neg hr]
      by_cases hv : valF 0 r < 18446744073709551616
      · rw [hu.1 hv]
        unfold Lib.signed
        simp only
        by_cases h4 : 9223372036854775808 < valF 0 r
        · rw [if_pos h4, if_neg (by rw [hfit]; omega)]
        · rw [if_neg h4, if_pos (by rw [hfit]; omega)]
      · rw [hu.2 (Nat.not_lt.1 hv), if_neg (by rw [hfit]; omega)]
        rfl
  | false =>
    have hbd : bodyD l = l := by unfold bodyD; rw [if_neg (by simp [hn])]
    have hvi : valI l = valF 0 l := by unfold valI; rw [if_neg (by simp [hn]), hbd]
    rw [hbd] at h1 h3
    rw [hvi]
    match l, hn with
    | [], _ => simp at h1
    | c :: r, hn =>
      have hc : c ≠ 45 := by unfold negB at hn; simpa using hn
      have hcd := (digB_iff c).1 (by simp only [List.all_cons, Bool.and_eq_true] at h3; exact h3.1)
      have hu := parseUint10_val (c :: r) 0 h3 (by omega)
      have h45 : c.toNat ≠ 45 := fun h => hc (UInt8.toNat_inj.1 h)
      rw [Lib.atoiAll_plain c r (by omega) h45, Lib.parseMag, if_neg (by simp)]
      by_cases hv : valF 0 (c :: r) < 18446744073709551616
      · rw [hu.1 hv]
        unfold Lib.signless
        simp only
        by_cases h4 : 9223372036854775808 ≤ valF 0 (c :: r)
        · rw [if_pos h4, if_neg (by rw [hfit]; omega)]
        · rw [if_neg h4, if_pos (by rw [hfit]; omega)]
      · rw [hu.2 (Nat.not_lt.1 hv), if_neg (by rw [hfit]; omega)]
        rfl
/-- The cutset of the digits. -/
def digits10 : List UInt8 := [48, 49, 50, 51, 52, 53, 54, 55, 56, 57]
theorem digits10_has (c : UInt8) : digits10.contains c = digB c := by
  rw [Bool.eq_iff_iff, digB_iff]
  unfold digits10
  simp only [List.contains_eq_mem, List.mem_cons, List.not_mem_nil, or_false, decide_eq_true_eq, ← UInt8.toNat_inj]
  simp only [UInt8.toNat_ofNat]
  omega
theorem dropWhile_nil {α : Type} {p : α → Bool} : ∀ (l : List α), l.dropWhile p = [] ↔ l.all p = true := by
  intro l
  induction l with
  | nil => simp
  | cons a l ih => cases h : p a <;> simp [List.dropWhile, h, ih]
theorem trim_digits (l : List UInt8) : Lib.trimS l digits10 = [] ↔ l.all digB = true := by
  unfold Lib.trimS Lib.trimLeftS Lib.trimRightS
  simp only [digits10_has]
  rw [dropWhile_nil]
  constructor
  · intro h
    rw [List.all_reverse] at h
    have h2 : (l.reverse.dropWhile digB) = [] := by
      match hm : l.reverse.dropWhile digB with
      | [] => rfl
      | a :: r =>
        have : digB a = false := by
          have := List.head_dropWhile_not digB (l := l.reverse) (by rw [hm]; simp)
          simpa [hm] using this
        rw [hm] at h
        simp [this] at h
    rw [dropWhile_nil] at h2
    simpa using h2
  · intro h
    have h2 : (l.reverse.dropWhile digB) = [] := by rw [dropWhile_nil]; simpa using h
    rw [h2]; rfl
end

section
/-! part P32 -/
theorem subst1_cons (b : UInt8) (t : List UInt8) : subst1 34 [34, 34] (b :: t) = (if b = 34 then [34, 34] else [b]) ++ subst1 34 [34, 34] t := by simp [subst1]
theorem subst1_snoc (t : List UInt8) (b : UInt8) : subst1 34 [34, 34] (t ++ [b]) = subst1 34 [34, 34] t ++ (if b = 34 then [34, 34] else [b]) := by simp [subst1]
/-- A quoted string that was read was written so. -/
theorem quotedS_fwd (n : Nat) : ∀ (l : List UInt8), l.length ≤ n → ∀ (j : Nat) (acc t : List UInt8) (q : Nat), quotedS l j acc = (t, q, true) →
    ∃ u rest, t = acc ++ u ∧ l = subst1 34 [34, 34] u ++ 34 :: rest ∧ u.all printedB = true ∧ q = j + (subst1 34 [34, 34] u).length + 1 ∧ rest.head? ≠ some 34 := by
  induction n with
  | zero =>
    intro l hl j acc t q h
    have : l = [] := List.eq_nil_of_length_eq_zero (by omega)
    subst this
    rw [quotedS] at h; simp at h
  | succ n ih =>
    intro l hl j acc t q h
    cases l with
    | nil => rw [quotedS] at h; simp at h
    | cons c l =>
      simp only [List.length_cons] at hl
      rw [quotedS.eq_def] at h; dsimp only at h
      by_cases hc : c = 34
      · subst hc
        rw [if_pos rfl] at h
        cases l with
        | nil =>
          simp only [Prod.mk.injEq] at h
          obtain ⟨rfl, rfl, _⟩ := h
          exact ⟨[], [], by simp, rfl, rfl, by simp [subst1], by simp⟩
        | cons d l' =>
          simp only [List.length_cons] at hl
          dsimp only at h
          by_cases hd : d = 34
          · subst hd
            rw [if_pos rfl] at h
            obtain ⟨u, rest, h1, h2, h3, h4, h5⟩ := ih l' (by omega) _ _ _ _ h
            refine ⟨34 :: u, rest, by simp [h1], ?_, by simp [h3]; decide, ?_, h5⟩
            · rw [subst1_cons, if_pos rfl, h2]; simp
            · rw [h4, subst1_cons, if_pos rfl]; simp; omega
          · rw [if_neg hd] at h
            simp only [Prod.mk.injEq] at h
            obtain ⟨rfl, rfl, _⟩ := h
            exact ⟨[], d :: l', by simp, rfl, rfl, by simp [subst1], by simp [hd]⟩
      · rw [if_neg hc] at h
        by_cases hp : printedB c = true
        · rw [if_pos hp] at h
          obtain ⟨u, rest, h1, h2, h3, h4, h5⟩ := ih l (by omega) _ _ _ _ h
          refine ⟨c :: u, rest, by simp [h1], ?_, by simp [h3, hp], ?_, h5⟩
          · rw [subst1_cons, if_neg hc, h2]; simp
          · rw [h4, subst1_cons, if_neg hc]; simp; omega
        · rw [if_neg hp] at h
          simp at h
/-- The fields lie in the line l, one behind the other from e on, with white space alone between them. -/
def LayF (l : List UInt8) : Nat → Bool → List Fld → Prop
  | _, _, [] => True
  | e, first, f :: fs => ∃ p : Nat, f.col = (p : Int) + 1 ∧ e ≤ p ∧ (first = false → e < p) ∧ (∀ (k : Nat) (c : UInt8), e ≤ k → k < p → l[k]? = some c → whiteB c = true) ∧
      (l.drop p).take (fieldW f).length = fieldW f ∧ p + (fieldW f).length ≤ l.length ∧ okF f = true ∧ LayF l (p + (fieldW f).length) false fs
theorem okF_word_of {w : List UInt8} (h1 : w.all wordB = true) (h2 : w ≠ []) (c : Int) : okF ⟨w, c, false⟩ = true ∧ fieldW ⟨w, c, false⟩ = w := by
  have hw : wordS w = true := by unfold wordS; simp only [Bool.and_eq_true, Bool.not_eq_true', List.isEmpty_eq_false_iff]; exact ⟨h1, h2⟩
  exact ⟨by unfold okF; simpa using hw, by unfold fieldW; simp [hw]⟩
theorem takeWhile_allB {α : Type} (p : α → Bool) : ∀ l : List α, (l.takeWhile p).all p = true := by
  intro l
  induction l with
  | nil => rfl
  | cons a l ih => cases h : p a <;> simp [List.takeWhile, h, ih]
theorem dropWhile_headB {α : Type} (p : α → Bool) : ∀ (l : List α) (c : α), (l.dropWhile p).head? = some c → p c = false := by
  intro l
  induction l with
  | nil => intro c h; simp at h
  | cons a l ih =>
    intro c h
    cases ha : p a
    · simp [List.dropWhile, ha] at h; subst h; exact ha
    · simp [List.dropWhile, ha] at h; exact ih c h
theorem dropWhile_drop {α : Type} (p : α → Bool) : ∀ l : List α, l.dropWhile p = l.drop (l.takeWhile p).length := by
  intro l
  induction l with
  | nil => rfl
  | cons a l ih => cases h : p a <;> simp [List.dropWhile, List.takeWhile, h, ih]
theorem takeWhile_take {α : Type} (p : α → Bool) : ∀ l : List α, l.take (l.takeWhile p).length = l.takeWhile p := by
  intro l
  induction l with
  | nil => rfl
  | cons a l ih => cases h : p a <;> simp [List.takeWhile, h, ih]
theorem fieldsF_lay (l : List UInt8) (n : Nat) : ∀ (r : List UInt8) (i : Nat) (after : Bool) (out fs : List Fld) (e : Nat) (first : Bool), r = l.drop i → r.length ≤ n → i ≤ l.length → e ≤ i →
    (∀ (k : Nat) (c : UInt8), e ≤ k → k < i → l[k]? = some c → whiteB c = true) → (first = false → e < i ∨ after = true ∨ ∀ c, r.head? = some c → wordB c = false ∧ c ≠ 34) →
    fieldsF n r i after out = (fs, 0) → ∃ new, fs = out ++ new ∧ LayF l e first new := by
  induction n with
  | zero =>
    intro r i after out fs e first hr hn hi he hw hc h
    rw [fieldsF] at h
    simp only [Prod.mk.injEq, and_true] at h
    exact ⟨[], by simp [h], trivial⟩
  | succ n ih =>
    intro r i after out fs e first hr hn hi he hw hc h
    cases r with
    | nil =>
      rw [fieldsF] at h
      · simp only [Prod.mk.injEq, and_true] at h
        exact ⟨[], by simp [h], trivial⟩
      · intro h'; cases h'
    | cons c r =>
      have hil : i < l.length := by
        rcases Nat.lt_or_ge i l.length with h' | h'
        · exact h'
        · rw [List.drop_of_length_le h'] at hr; cases hr
      have hci : l[i]? = some c := by
        have := congrArg (fun x => x[0]?) hr
        simp only [List.getElem?_cons_zero, List.getElem?_drop, Nat.add_zero] at this
        exact this.symm
      have hr1 : r = l.drop (i + 1) := by
        have := congrArg (List.drop 1) hr
        simpa [List.drop_drop] using this
      simp only [List.length_cons] at hn
      rw [fieldsF] at h
      by_cases h1 : whiteB c = true
      · rw [if_pos h1] at h
        exact ih r (i + 1) false out fs e first hr1 (by omega) hil (by omega) (fun k d hk1 hk2 hd => by
          by_cases hki : k = i
          · subst hki; rw [hci] at hd; injection hd with hd; subst hd; exact h1
          · exact hw k d hk1 (by omega) hd) (fun _ => .inl (by omega)) h
      · rw [if_neg h1] at h
        by_cases h2 : c = 59
        · rw [if_pos h2] at h
          simp only [Prod.mk.injEq, and_true] at h
          exact ⟨[], by simp [h], trivial⟩
        · rw [if_neg h2] at h
          cases after with
          | true => simp at h
          | false =>
            rw [if_neg (by simp)] at h
            have hfe : first = false → wordB c = true ∨ c = 34 → e < i := fun hf hcc => by
              rcases hc hf with h3 | h3 | h3
              · exact h3
              · cases h3
              · have := h3 c rfl
                rcases hcc with h4 | h4
                · rw [h4] at this; exact absurd this.1 (by simp)
                · exact absurd h4 this.2
            by_cases h3 : c = 34
            · rw [if_pos h3] at h
              obtain ⟨⟨t, q, ok⟩, hq⟩ : ∃ x, x = quotedS r (i + 1) [] := ⟨_, rfl⟩
              rw [← hq] at h
              cases ok with
              | false => simp at h
              | true =>
                simp only [if_true] at h
                obtain ⟨u, rest, g1, g2, g3, g4, g5⟩ := quotedS_fwd _ r (Nat.le_refl _) _ _ _ _ hq.symm
                rw [List.nil_append] at g1
                subst g1
                have hfw : fieldW ⟨t, (i : Int) + 1, true⟩ = quoteS t := by unfold fieldW; simp
                have hql : (quoteS t).length = (subst1 34 [34, 34] t).length + 2 := by unfold quoteS; simp
                have hqe : q = i + (quoteS t).length := by rw [g4, hql]; omega
                have hlq : l.drop i = quoteS t ++ rest := by rw [← hr, h3, g2]; unfold quoteS; simp
                have hlen : i + (quoteS t).length ≤ l.length := by
                  have := congrArg List.length hlq
                  simp only [List.length_drop, List.length_append] at this
                  omega
                have hrest : r.drop (q - (i + 1)) = l.drop q := by
                  rw [hr1, List.drop_drop]; congr 1; omega
                obtain ⟨new, k1, k2⟩ := ih (r.drop (q - (i + 1))) q true (out ++ [⟨t, (i : Int) + 1, true⟩]) fs q false hrest (by simp; omega) (by omega) (Nat.le_refl _) (fun k d hk1 hk2 _ => absurd hk1 (by omega)) (fun _ => .inr (.inl rfl)) h
                refine ⟨⟨t, (i : Int) + 1, true⟩ :: new, by rw [k1]; simp, i, rfl, he, fun hf => hfe hf (.inr h3), hw, ?_, by rw [hfw]; exact hlen, by unfold okF; simpa using g3, by rw [hfw, ← hqe]; exact k2⟩
                rw [hfw, hlq, List.take_left']
                rfl
            · rw [if_neg h3] at h
              by_cases h4 : ((c :: r).takeWhile wordB).length = 0 ∨ ((c :: r).dropWhile wordB).head? = some 34
              · rw [if_pos h4] at h
                simp at h
              · rw [if_neg h4] at h
                obtain ⟨h5, h6⟩ := not_or.1 h4
                obtain ⟨wd, hwd⟩ : ∃ x, x = (c :: r).takeWhile wordB := ⟨_, rfl⟩
                have hwb := takeWhile_allB wordB (c :: r)
                have hdw := dropWhile_drop wordB (c :: r)
                have htk := takeWhile_take wordB (c :: r)
                have hhd := dropWhile_headB wordB (c :: r)
                rw [← hwd] at hwb hdw htk h h5
                have hne : wd ≠ [] := fun e => h5 (by simp [e])
                have hcw : wordB c = true := by
                  cases hx : wordB c
                  · rw [hwd] at hne; simp [List.takeWhile, hx] at hne
                  · rfl
                obtain ⟨ok1, ok2⟩ := okF_word_of hwb hne ((i : Int) + 1)
                have hwl : wd.length ≤ (c :: r).length := by have := congrArg List.length htk; simp only [List.length_take] at this; omega
                have hlen : i + wd.length ≤ l.length := by
                  have := congrArg List.length hr
                  simp only [List.length_drop] at this
                  omega
                have hrest : (c :: r).dropWhile wordB = l.drop (i + wd.length) := by rw [hdw, hr, List.drop_drop]
                have hlr : ((c :: r).dropWhile wordB).length ≤ n := by
                  rw [hdw, List.length_drop]
                  have : 0 < wd.length := Nat.pos_of_ne_zero h5
                  simp only [List.length_cons]; omega
                obtain ⟨new, k1, k2⟩ := ih ((c :: r).dropWhile wordB) (i + wd.length) false (out ++ [⟨wd, (i : Int) + 1, false⟩]) fs (i + wd.length) false hrest hlr hlen (Nat.le_refl _) (fun k d hk1 hk2 _ => absurd hk1 (by omega))
                  (fun _ => .inr (.inr fun d hd => ⟨hhd d hd, fun e => h6 (by rw [hd, e])⟩)) h
                refine ⟨⟨wd, (i : Int) + 1, false⟩ :: new, by rw [k1]; simp, i, rfl, he, fun hf => hfe hf (.inl hcw), hw, ?_, by rw [ok2]; exact hlen, ok1, by rw [ok2]; exact k2⟩
                rw [ok2, ← hr]; exact htk
theorem fieldsS_lay {l : List UInt8} {fs : List Fld} (h : fieldsS l = (fs, 0)) : LayF l 0 true fs := by
  obtain ⟨new, h1, h2⟩ := fieldsF_lay l _ l 0 false [] fs 0 true rfl (Nat.le_refl _) (Nat.zero_le _) (Nat.le_refl _) (fun k c _ hk => absurd hk (by omega)) (fun h => by cases h) h
  rw [List.nil_append] at h1
  subst h1
  exact h2
theorem LayF.ok {l : List UInt8} : ∀ (fs : List Fld) (e : Nat) (first : Bool), LayF l e first fs → ∀ f ∈ fs, okF f = true := by
  intro fs
  induction fs with
  | nil => intro e first _ f hf; simp at hf
  | cons g fs ih =>
    intro e first h f hf
    obtain ⟨p, _, _, _, _, _, _, h1, h2⟩ := h
    rcases List.mem_cons.1 hf with rfl | hf
    · exact h1
    · exact ih _ _ h2 f hf
theorem LayF.len {l : List UInt8} : ∀ (fs : List Fld) (e : Nat) (first : Bool), e ≤ l.length → LayF l e first fs → e + (lineW fs first).length ≤ l.length := by
  intro fs
  induction fs with
  | nil => intro e first he _; simpa [lineW] using he
  | cons g fs ih =>
    intro e first he h
    obtain ⟨p, _, h1, h2, _, _, h3, _, h4⟩ := h
    have := ih _ _ h3 h4
    rw [lineW]
    cases first
    · have := h2 rfl
      simp; omega
    · simp; omega
end

section
/-! part P33 -/
/-- The string of a quoted field, and the error. -/
def unquoteS (l : List UInt8) : List UInt8 × Int :=
  if l.head? = some 34 then (if (quotedS (l.drop 1) 1 []).2.2 = true ∧ (quotedS (l.drop 1) 1 []).2.1 = l.length then ((quotedS (l.drop 1) 1 []).1, 0) else ([], 4)) else ([], 4)
theorem quotedS_bad (rest : List UInt8) : ∀ (t : List UInt8) (j : Nat) (acc : List UInt8), t.all printedB = false → (quotedS (subst1 34 [34, 34] t ++ rest) j acc).2.2 = false := by
  intro t
  induction t with
  | nil => intro j acc h; simp at h
  | cons b t ih =>
    intro j acc h
    rw [subst1_cons]
    by_cases hb : b = 34
    · subst hb
      rw [if_pos rfl]
      have h' : t.all printedB = false := by
        rw [List.all_cons] at h
        have : printedB 34 = true := by decide
        rw [this] at h; simpa using h
      show (quotedS (34 :: 34 :: (subst1 34 [34, 34] t ++ rest)) j acc).2.2 = false
      rw [quotedS.eq_def]; dsimp only
      rw [if_pos rfl, if_pos rfl]
      exact ih _ _ h'
    · rw [if_neg hb]
      show (quotedS (b :: (subst1 34 [34, 34] t ++ rest)) j acc).2.2 = false
      rw [quotedS.eq_def]; dsimp only
      rw [if_neg hb]
      by_cases hp : printedB b = true
      · rw [if_pos hp]
        refine ih _ _ ?_
        rw [List.all_cons, hp] at h; simpa using h
      · rw [if_neg hp]
theorem quoteS_head (t : List UInt8) : (quoteS t).head? = some 34 ∧ (quoteS t).drop 1 = subst1 34 [34, 34] t ++ [34] := by unfold quoteS; simp
theorem unquote_good {t : List UInt8} (h : t.all printedB = true) : unquoteS (quoteS t) = (t, 0) := by
  obtain ⟨h1, h2⟩ := quoteS_head t
  have hb := quotedS_back [] (by simp) t 1 [] h
  unfold unquoteS
  rw [if_pos h1, h2, hb, if_pos ⟨rfl, by unfold quoteS; simp; omega⟩]
  simp
theorem unquote_bad {t : List UInt8} (h : t.all printedB = false) : unquoteS (quoteS t) = ([], 4) := by
  obtain ⟨h1, h2⟩ := quoteS_head t
  have hb := quotedS_bad [34] t 1 [] h
  unfold unquoteS
  rw [if_pos h1, h2, if_neg (fun k => by rw [hb] at k; cases k.1)]
/-- A line that was split off: its number, its piece. -/
def LineOf (ps : List (List UInt8)) (n : Int) (x : Lin) : Prop :=
  ∃ (i : Nat) (p : List UInt8), ps[i]? = some p ∧ x.num = n + i ∧ fieldsS p = (x.fields, 0) ∧ x.fields ≠ [] ∧ p.length ≤ 1000
theorem LineOf.cons {p : List UInt8} {ps : List (List UInt8)} {n : Int} {x : Lin} (h : LineOf ps (n + 1) x) : LineOf (p :: ps) n x := by
  obtain ⟨i, q, h1, h2, h3, h4, h5⟩ := h
  exact ⟨i + 1, q, by simpa using h1, by rw [h2]; push_cast; omega, h3, h4, h5⟩
theorem splitF_lines : ∀ (ps : List (List UInt8)) (n : Int) (out : List Lin) (ds : List Dia), ∀ x ∈ (splitF ps n out ds).1, x ∈ out ∨ LineOf ps n x := by
  intro ps
  induction ps with
  | nil => intro n out ds x hx; rw [splitF] at hx; exact .inl hx
  | cons p ps ih =>
    intro n out ds x hx
    rw [splitF] at hx
    split at hx
    · exact (ih _ _ _ x hx).imp id LineOf.cons
    · rename_i h1
      split at hx
      · exact (ih _ _ _ x hx).imp id LineOf.cons
      · rename_i h2
        split at hx
        · rename_i h3
          rcases ih _ _ _ x hx with h | h
          · rcases List.mem_append.1 h with h | h
            · exact .inl h
            · simp only [List.mem_cons, List.not_mem_nil, or_false] at h
              subst h
              refine .inr ⟨0, p, rfl, by simp, ?_, h3, by omega⟩
              have : (fieldsS p).2 = 0 := by omega
              rw [← this]
          · exact .inr h.cons
        · exact (ih _ _ _ x hx).imp id LineOf.cons
theorem splitS_lines {s : List UInt8} {x : Lin} (h : x ∈ (splitS s).1) : LineOf (pieces 10 s) 1 x := by
  unfold splitS at h
  split at h
  · simp at h
  · rcases splitF_lines _ _ _ _ x h with h | h
    · simp at h
    · exact h
theorem LineOf.okL {ps : List (List UInt8)} {n : Int} {x : Lin} (h : LineOf ps n x) : okL x := by
  obtain ⟨i, p, h1, h2, h3, h4, h5⟩ := h
  have hl := fieldsS_lay h3
  have := hl.len _ _ _ (Nat.zero_le _)
  exact ⟨h4, hl.ok _ _ _, by omega⟩
/-- The whole text of lines that were split off is no longer than the source and one byte. -/
theorem splitF_write : ∀ (ps : List (List UInt8)) (n : Int) (out : List Lin) (ds : List Dia), (writeS (splitF ps n out ds).1).length ≤ (writeS out).length + (ps.map fun p => p.length + 1).sum := by
  have happ : ∀ (a : List Lin) (x : Lin), (writeS (a ++ [x])).length = (writeS a).length + (lineW x.fields true).length + (endW x.fields).length := by
    intro a x
    induction a with
    | nil => simp [writeS]
    | cons y a ih => rw [List.cons_append, writeS, writeS, List.length_append, List.length_append, List.length_append, List.length_append, ih]; omega
  intro ps
  induction ps with
  | nil => intro n out ds; simp [splitF]
  | cons p ps ih =>
    intro n out ds
    rw [splitF, List.map_cons, List.sum_cons]
    split
    · have := ih (n + 1) out (if ds.length < 50 then ds ++ [⟨n, 1001, 9⟩] else ds); omega
    · split
      · have := ih (n + 1) out (if ds.length < 50 then ds ++ [⟨n, (fieldsS p).2, 4⟩] else ds); omega
      · rename_i h2
        split
        · have h := ih (n + 1) (out ++ [⟨n, (fieldsS p).1⟩]) ds
          rw [happ] at h
          have h0 : (fieldsS p).2 = 0 := by omega
          have hl := (fieldsS_lay (l := p) (fs := (fieldsS p).1) (by rw [← h0])).len _ _ _ (Nat.zero_le _)
          have he : (endW (fieldsS p).1).length ≤ 1 := by unfold endW; split <;> simp
          simp only at h
          omega
        · have := ih (n + 1) out ds; omega
theorem pieces_sum : ∀ l : List UInt8, ((pieces 10 l).map fun p => p.length + 1).sum = l.length + 1 := by
  intro l
  induction l with
  | nil => rfl
  | cons b l ih =>
    rw [pieces]
    split
    · rw [List.map_cons, List.sum_cons, ih]; simp; omega
    · split
      · rename_i h; exact absurd h (pieces_ne 10 l)
      · rename_i p ps h
        rw [h] at ih
        rw [List.map_cons, List.sum_cons] at ih ⊢
        simp only [List.length_cons] at ih ⊢
        omega
theorem splitS_write (s : List UInt8) : (writeS (splitS s).1).length ≤ s.length + 1 := by
  unfold splitS
  split
  · simp [writeS]
  · have := splitF_write (pieces 10 s) 1 [] []
    rw [pieces_sum] at this
    simpa [writeS] using this
theorem split_again {s : List UInt8} (h : s.length ≤ 100000) : splitS (writeS (splitS s).1) = (backF (splitS s).1 1, []) := by
  refine splitS_back _ (fun x hx => (splitS_lines hx).okL) ?_
  have := splitS_write s
  omega
theorem backF_get : ∀ (ls : List Lin) (n : Int) (i : Nat), (backF ls n)[i]? = (ls[i]?).map fun x => (⟨n + i, placeF x.fields 0⟩ : Lin) := by
  intro ls
  induction ls with
  | nil => intro n i; simp [backF]
  | cons x ls ih =>
    intro n i
    rw [backF]
    cases i with
    | zero => simp
    | succ i => rw [List.getElem?_cons_succ, List.getElem?_cons_succ, ih]; congr 1; funext y; push_cast; congr 1; omega
theorem placeF_get : ∀ (fs : List Fld) (i k : Nat), ((placeF fs i)[k]?).map (fun f => (f.text, f.quoted)) = (fs[k]?).map fun f => (f.text, f.quoted) := by
  intro fs
  induction fs with
  | nil => intro i k; simp [placeF]
  | cons f fs ih =>
    intro i k
    rw [placeF]
    cases k with
    | zero => simp
    | succ k => rw [List.getElem?_cons_succ, List.getElem?_cons_succ, ih]
/-- Where lines begin behind the first. -/
def nlF : List UInt8 → Nat → List Nat
  | [], _ => []
  | c :: l, i => if c = 10 then (i + 1) :: nlF l (i + 1) else nlF l (i + 1)
theorem pieces_start : ∀ (l : List UInt8) (i0 : Nat), (i0 :: nlF l i0).length = (pieces 10 l).length ∧
    ∀ (i : Nat) (p : List UInt8), (pieces 10 l)[i]? = some p → ∃ s, (i0 :: nlF l i0)[i]? = some s ∧ i0 ≤ s ∧ p = (l.drop (s - i0)).take p.length ∧ s - i0 + p.length ≤ l.length := by
  intro l
  induction l with
  | nil =>
    intro i0
    refine ⟨rfl, fun i p h => ?_⟩
    rw [pieces] at h
    cases i with
    | zero => simp at h; subst h; exact ⟨i0, rfl, Nat.le_refl _, by simp, by simp⟩
    | succ i => simp at h
  | cons c l ih =>
    intro i0
    obtain ⟨h1, h2⟩ := ih (i0 + 1)
    rw [pieces, nlF]
    by_cases hc : c = 10
    · rw [if_pos hc, if_pos hc]
      refine ⟨by simp only [List.length_cons] at h1 ⊢; omega, fun i p h => ?_⟩
      cases i with
      | zero => simp at h; subst h; exact ⟨i0, rfl, Nat.le_refl _, by simp, by simp⟩
      | succ i =>
        rw [List.getElem?_cons_succ] at h
        obtain ⟨s, k1, k2, k3, k4⟩ := h2 i p h
        refine ⟨s, by rw [List.getElem?_cons_succ]; exact k1, by omega, ?_, ?_⟩
        · rw [show s - i0 = (s - (i0 + 1)) + 1 by omega, List.drop_succ_cons]; exact k3
        · simp only [List.length_cons]; omega
    · rw [if_neg hc, if_neg hc]
      cases hp : pieces 10 l with
      | nil => exact absurd hp (pieces_ne 10 l)
      | cons q qs =>
        rw [hp] at h1 h2
        dsimp only
        refine ⟨by simp only [List.length_cons] at h1 ⊢; omega, fun i p h => ?_⟩
        cases i with
        | zero =>
          simp at h; subst h
          obtain ⟨s, k1, k2, k3, k4⟩ := h2 0 q rfl
          simp at k1
          subst k1
          refine ⟨i0, rfl, Nat.le_refl _, ?_, ?_⟩
          · simp only [Nat.sub_self, List.drop_zero, List.length_cons, List.take_succ_cons] at k3 ⊢
            rw [← k3]
          · simp only [List.length_cons]; omega
        | succ i =>
          rw [List.getElem?_cons_succ] at h
          obtain ⟨s, k1, k2, k3, k4⟩ := h2 (i + 1) p (by rw [List.getElem?_cons_succ]; exact h)
          refine ⟨s, by rw [List.getElem?_cons_succ] at k1 ⊢; exact k1, by omega, ?_, ?_⟩
          · rw [show s - i0 = (s - (i0 + 1)) + 1 by omega, List.drop_succ_cons]; exact k3
          · simp only [List.length_cons]; omega
end

section
/-! part P34 -/
theorem valF_snoc (n : Nat) (l : List UInt8) (c : UInt8) : valF n (l ++ [c]) = valF n l * 10 + (c.toNat - 48) := by unfold valF; rw [List.foldl_append]; rfl
/-- How far the digits have been read: k of them, their value n if it is not too big. -/
def NumInv (d : List UInt8) (k : Nat) (n : Int) (big : Bool) : Prop :=
  (d.take k).all digB = true ∧ 0 ≤ n ∧ n < 18446744073709551616 ∧ (big = false → n = valF 0 (d.take k)) ∧ (big = true → 9223372036854775808 < (valF 0 (d.take k) : Int))
theorem NumInv.start (d : List UInt8) : NumInv d 0 0 false := ⟨rfl, by omega, by omega, fun _ => rfl, fun h => by cases h⟩
theorem NumInv.small {d : List UInt8} {k : Nat} {n : Int} (h : NumInv d k n false) : n = valF 0 (d.take k) := h.2.2.2.1 rfl
theorem take_succ_get {α : Type} {l : List α} {k : Nat} (h : k < l.length) : l.take (k + 1) = l.take k ++ [l[k]] := List.take_succ_eq_append_getElem h
theorem NumInv.next {d : List UInt8} {k : Nat} {n : Int} {big : Bool} (h : NumInv d k n big) (hk : k < d.length) (hd : digB d[k] = true) {n' : Int} {big' : Bool}
    (hn0 : 0 ≤ n') (hn1 : n' < 18446744073709551616) (hb : big' = true ↔ (big = true ∨ 1152921504606846976 < n)) (hn : n ≤ 1152921504606846976 → n' = n * 10 + ((d[k].toNat : Int) - 48)) : NumInv d (k + 1) n' big' := by
  obtain ⟨h1, h2, h3, h4, h5⟩ := h
  have hdd := (digB_iff _).1 hd
  have hv : valF 0 (d.take (k + 1)) = valF 0 (d.take k) * 10 + (d[k].toNat - 48) := by rw [take_succ_get hk, valF_snoc]
  refine ⟨by rw [take_succ_get hk, List.all_append, h1]; simp [hd], hn0, hn1, fun hbb => ?_, fun hbb => ?_⟩
  · have hnb : ¬ (big = true ∨ 1152921504606846976 < n) := fun hx => by rw [hb.2 hx] at hbb; cases hbb
    obtain ⟨x1, x2⟩ := not_or.1 hnb
    have hbf : big = false := by cases big <;> simp_all
    have e := h4 hbf
    rw [hn (by omega), hv, e]
    push_cast
    omega
  · rw [hv]
    rcases hb.1 hbb with hx | hx
    · have := h5 hx; push_cast; omega
    · cases big with
      | true => have := h5 rfl; push_cast; omega
      | false => have := h4 rfl; push_cast; omega
theorem NumInv.not_digit {d : List UInt8} {k : Nat} (hk : k < d.length) (hd : digB d[k] = false) : d.all digB = false := by
  rw [Bool.eq_false_iff]
  intro h
  have := List.all_eq_true.1 h _ (List.getElem_mem hk)
  rw [hd] at this; cases this
/-- What the reference's number comes to behind all digits. -/
theorem NumInv.fin {d : List UInt8} {n : Int} {big : Bool} (h : NumInv d d.length n big) : d.all digB = true ∧ (big = true → 9223372036854775808 < (valF 0 d : Int)) ∧ (big = false → n = valF 0 d) := by
  obtain ⟨h1, _, _, h4, h5⟩ := h
  rw [List.take_of_length_le (Nat.le_refl _)] at h1 h4 h5
  exact ⟨h1, h5, h4⟩
/-- A decimal with leading zeros. -/
def padS (n width : Int) : List UInt8 := (if n < 0 then [45] else []) ++ (List.replicate ((max (min width 20) 0).toNat - (Lib.decDigits n.natAbs).length) 48 ++ Lib.decDigits n.natAbs)
/-- The digits in front of s, zeros in front of them up to M bytes. -/
def padR (M u : Nat) (s : List UInt8) : List UInt8 :=
  if u = 0 then List.replicate (M - s.length) 48 ++ s else List.replicate (M - (s.length + (Lib.decDigits u).length)) 48 ++ (Lib.decDigits u ++ s)
theorem padR_step {M u : Nat} {s : List UInt8} (h : 0 < u ∨ s.length < M) : padR M u s = padR M (u / 10) (UInt8.ofNat (48 + u % 10) :: s) := by
  unfold padR
  by_cases hu : u = 0
  · subst hu
    have hs : s.length < M := h.resolve_left (by omega)
    rw [if_pos rfl, if_pos rfl]
    have e : M - s.length = (M - (s.length + 1)) + 1 := by omega
    rw [List.length_cons, e, List.replicate_succ']
    simp
  · rw [if_neg hu]
    by_cases h10 : u < 10
    · have e0 : u / 10 = 0 := by omega
      have e1 : u % 10 = u := by omega
      rw [e0, if_pos rfl, Lib.decDigits, dif_pos h10, e1]
      simp
    · rw [if_neg (by omega), Lib.decDigits, dif_neg h10]
      simp only [List.length_append, List.length_cons, List.length_nil, List.append_assoc, List.singleton_append]
      congr 2
      omega
theorem padR_end {M : Nat} {s : List UInt8} (h : M ≤ s.length) : padR M 0 s = s := by
  unfold padR; rw [if_pos rfl, show M - s.length = 0 by omega]; rfl
theorem decDigits_pos (u : Nat) : 1 ≤ (Lib.decDigits u).length := by
  rw [Lib.decDigits]; split <;> simp
/-- The reference's digits are the decimal ones. -/
theorem padR_all (u : Nat) (width : Int) : padR (max 1 (min width 20)).toNat u [] = List.replicate ((max (min width 20) 0).toNat - (Lib.decDigits u).length) 48 ++ Lib.decDigits u := by
  have hp := decDigits_pos u
  unfold padR
  by_cases hu : u = 0
  · subst hu
    rw [if_pos rfl]
    have e : Lib.decDigits 0 = [48] := by rw [Lib.decDigits, dif_pos (by omega)]; rfl
    rw [e]
    have e2 : (max 1 (min width 20)).toNat - ([] : List UInt8).length = ((max (min width 20) 0).toNat - [(48 : UInt8)].length) + 1 := by simp; omega
    rw [e2, List.replicate_succ']
    simp
  · rw [if_neg hu]
    simp only [List.length_nil, Nat.zero_add, List.append_nil]
    congr 2
    omega
theorem padS_one (n : Int) : padS n 1 = Lib.itoa n := by
  unfold padS Lib.itoa
  have hp := decDigits_pos n.natAbs
  have e : (max (min (1 : Int) 20) 0).toNat - (Lib.decDigits n.natAbs).length = 0 := by omega
  rw [e]
  by_cases h : n < 0
  · simp [h]
  · rw [if_neg h, if_neg h]
    have : n.natAbs = n.toNat := by omega
    rw [this]; simp
end

section
/-! part P35 -/
/-- The next word as an integer from lo to hi. -/
def Cur.int (c : Cur) (lo hi : Int) : Cur × Int :=
  if (c.read false).2.2 = true then
    ((if (numberS (c.read false).2.1 lo hi).2 = 0 then (c.read false).1 else (c.read false).1.fail (numberS (c.read false).2.1 lo hi).2 (c.read false).1.last), (numberS (c.read false).2.1 lo hi).1)
  else ((c.read false).1, 0)
def Cur.word (c : Cur) (q : Bool) : Cur × List UInt8 := ((c.read q).1, (c.read q).2.1)
/-- The same cursor, but for the column of an error that did not happen. -/
structure Cur.sim (a b : Cur) : Prop where
  num : a.num = b.num
  fields : a.fields = b.fields
  next : a.next = b.next
  last : a.last = b.last
  err : a.err = b.err
  pos : b.err ≠ 0 → a.pos = b.pos
theorem Cur.sim.refl (c : Cur) : Cur.sim c c := ⟨rfl, rfl, rfl, rfl, rfl, fun _ => rfl⟩
theorem Cur.sim.ok {a b : Cur} (h : Cur.sim a b) (hb : b.ok) : a.ok := by unfold Cur.ok at *; rw [h.fields, h.next]; exact hb
theorem Cur.sim.fail {a b : Cur} (h : Cur.sim a b) (e col : Int) : Cur.sim (a.fail e col) (b.fail e col) := by
  unfold Cur.fail
  rw [h.err]
  by_cases hb : b.err = 0
  · rw [if_pos hb, if_pos hb]
    exact ⟨h.num, h.fields, h.next, h.last, rfl, fun _ => rfl⟩
  · rw [if_neg hb, if_neg hb]; exact h
theorem Cur.sim.read {a b : Cur} (h : Cur.sim a b) (q : Bool) : Cur.sim (a.read q).1 (b.read q).1 ∧ (a.read q).2 = (b.read q).2 := by
  unfold Cur.read
  rw [h.err, h.fields, h.next]
  by_cases hb : b.err = 0
  · rw [if_pos hb, if_pos hb]
    cases hf : b.fields[b.next]? with
    | none => exact ⟨h.fail 4 0, rfl⟩
    | some f =>
      dsimp only
      by_cases hq : f.quoted = q
      · rw [if_pos hq, if_pos hq]
        exact ⟨⟨h.num, rfl, rfl, rfl, rfl, h.pos⟩, rfl⟩
      · rw [if_neg hq, if_neg hq]
        exact ⟨h.fail 4 f.col, rfl⟩
  · rw [if_neg hb, if_neg hb]; exact ⟨h, rfl⟩
theorem Cur.sim.keyword {a b : Cur} (h : Cur.sim a b) (kw : List UInt8) : Cur.sim (a.keyword kw).1 (b.keyword kw).1 ∧ (a.keyword kw).2 = (b.keyword kw).2 := by
  obtain ⟨h1, h2⟩ := h.read false
  unfold Cur.keyword
  rw [h2, h1.last]
  refine ⟨?_, rfl⟩
  dsimp only
  split
  · exact h1.fail _ _
  · exact h1
theorem Cur.sim.ident {a b : Cur} (h : Cur.sim a b) : Cur.sim a.ident.1 b.ident.1 ∧ a.ident.2 = b.ident.2 := by
  obtain ⟨h1, h2⟩ := h.read false
  unfold Cur.ident
  rw [h2, h1.last]
  split
  · exact ⟨h1.fail _ _, rfl⟩
  · exact ⟨h1, rfl⟩
theorem Cur.sim.oneOf {a b : Cur} (h : Cur.sim a b) (l : List (List UInt8)) : Cur.sim (a.oneOf l).1 (b.oneOf l).1 ∧ (a.oneOf l).2 = (b.oneOf l).2 := by
  obtain ⟨h1, h2⟩ := h.read false
  unfold Cur.oneOf
  rw [h2, h1.last]
  split
  · refine ⟨?_, rfl⟩
    dsimp only
    split
    · exact h1.fail _ _
    · exact h1
  · exact ⟨h1, rfl⟩
theorem Cur.sim.reject {a b : Cur} (h : Cur.sim a b) (e : Int) : Cur.sim (a.reject e) (b.reject e) := by
  unfold Cur.reject
  rw [h.last]
  split
  · exact h
  · exact h.fail _ _
theorem Cur.sim.word {a b : Cur} (h : Cur.sim a b) (q : Bool) : Cur.sim (a.word q).1 (b.word q).1 ∧ (a.word q).2 = (b.word q).2 := by
  obtain ⟨h1, h2⟩ := h.read q
  unfold Cur.word
  rw [h2]
  exact ⟨h1, rfl⟩
theorem Cur.sim.close {a b : Cur} (h : Cur.sim a b) : a.close = b.close := by
  unfold Cur.close
  rw [h.err, h.num, h.fields, h.next]
  split
  · rename_i hb; rw [h.pos hb]
  · rfl
theorem Cur.sim.more {a b : Cur} (h : Cur.sim a b) : a.more = b.more := by unfold Cur.more; rw [h.err, h.fields, h.next]
/-- The program's integer writes the column even where there is no error. -/
def Cur.intP (c : Cur) (lo hi : Int) : Cur × Int :=
  if (c.read false).2.2 = true then ((c.read false).1.fail (numberS (c.read false).2.1 lo hi).2 (c.read false).1.last, (numberS (c.read false).2.1 lo hi).1)
  else ((c.read false).1, 0)
theorem Cur.sim.int {a b : Cur} (h : Cur.sim a b) (lo hi : Int) : Cur.sim (a.intP lo hi).1 (b.int lo hi).1 ∧ (a.intP lo hi).2 = (b.int lo hi).2 := by
  obtain ⟨h1, h2⟩ := h.read false
  unfold Cur.intP Cur.int
  rw [h2, h1.last]
  by_cases hk : (b.read false).2.2 = true
  · rw [if_pos hk, if_pos hk]
    refine ⟨?_, rfl⟩
    dsimp only
    by_cases he : (numberS (b.read false).2.1 lo hi).2 = 0
    · rw [if_pos he, he]
      unfold Cur.fail
      by_cases hz : (a.read false).1.err = 0
      · rw [if_pos hz]
        exact ⟨h1.num, h1.fields, h1.next, h1.last, by rw [← h1.err, hz], fun hb => absurd (by rw [← h1.err, hz]) hb⟩
      · rw [if_neg hz]; exact h1
    · rw [if_neg he]; exact h1.fail _ _
  · rw [if_neg hk, if_neg hk]; exact ⟨h1, rfl⟩
theorem Cur.int_ok {c : Cur} (h : c.ok) (lo hi : Int) : (c.int lo hi).1.ok := by
  unfold Cur.int
  split
  · dsimp only
    split
    · exact Cur.read_ok h _
    · exact Cur.fail_ok (Cur.read_ok h _) _ _
  · exact Cur.read_ok h _
theorem Cur.int_fields (c : Cur) (lo hi : Int) : (c.int lo hi).1.fields = c.fields := by
  unfold Cur.int
  split
  · dsimp only
    split
    · exact Cur.read_fields c false
    · exact (Cur.fail_left _ _ _).2.trans (Cur.read_fields c false)
  · exact Cur.read_fields c false
end

section
/-! part P36 -/
theorem decDigits_dig : ∀ (n u : Nat), u ≤ n → (Lib.decDigits u).all digB = true ∧ valF 0 (Lib.decDigits u) = u ∧ ((Lib.decDigits u).head? = some 48 → u = 0) := by
  have hd : ∀ v, v < 10 → digB (UInt8.ofNat (48 + v)) = true ∧ (UInt8.ofNat (48 + v)).toNat - 48 = v := fun v hv => by
    have e : (UInt8.ofNat (48 + v)).toNat = 48 + v := by rw [UInt8.toNat_ofNat']; omega
    exact ⟨(digB_iff _).2 (by omega), by omega⟩
  intro n
  induction n with
  | zero =>
    intro u hu
    have : u = 0 := by omega
    subst this
    rw [Lib.decDigits, dif_pos (by omega)]
    exact ⟨by decide, by decide, fun _ => rfl⟩
  | succ n ih =>
    intro u hu
    rw [Lib.decDigits]
    by_cases h : u < 10
    · rw [dif_pos h]
      obtain ⟨h1, h2⟩ := hd u h
      generalize UInt8.ofNat (48 + u) = c at h1 h2 ⊢
      refine ⟨by simp [h1], by unfold valF; simp [h2], fun h3 => ?_⟩
      simp only [List.head?_cons, Option.some.injEq] at h3
      rw [h3] at h2
      have : (48 : UInt8).toNat = 48 := rfl
      omega
    · rw [dif_neg h]
      obtain ⟨k1, k2, k3⟩ := ih (u / 10) (by omega)
      obtain ⟨h1, h2⟩ := hd (u % 10) (by omega)
      generalize UInt8.ofNat (48 + u % 10) = c at h1 h2 ⊢
      refine ⟨by rw [List.all_append, k1]; simp [h1], by rw [valF_snoc, k2, h2]; omega, fun h3 => ?_⟩
      have hp := decDigits_pos (u / 10)
      have h4 : (Lib.decDigits (u / 10)).head? = some 48 := by
        cases hx : Lib.decDigits (u / 10) with
        | nil => rw [hx] at hp; simp at hp
        | cons a l => rw [hx] at h3; simpa using h3
      have := k3 h4
      omega
theorem digB_word {c : UInt8} (h : digB c = true) : wordB c = true := by
  have := (digB_iff c).1 h
  unfold wordB
  simp only [Bool.and_eq_true, decide_eq_true_eq, bne_iff_ne, ne_eq, UInt8.lt_iff_toNat_lt, UInt8.le_iff_toNat_le, ← UInt8.toNat_inj]
  have e7 : (32 : UInt8).toNat = 32 := rfl
  have e8 : (126 : UInt8).toNat = 126 := rfl
  have e9 : (34 : UInt8).toNat = 34 := rfl
  have e10 : (59 : UInt8).toNat = 59 := rfl
  omega
/-- A number as a word. -/
def decW (n : Int) : List UInt8 := Lib.itoa n
theorem decW_facts {n : Int} (h : 0 ≤ n) : decW n = Lib.decDigits n.toNat ∧ wordS (decW n) = true ∧ (∀ lo hi, lo ≤ n → n ≤ hi → n ≤ 10000 → numberS (decW n) lo hi = (n, 0)) := by
  have e : decW n = Lib.decDigits n.toNat := by unfold decW Lib.itoa; rw [if_neg (by omega)]
  obtain ⟨h1, h2, h3⟩ := decDigits_dig _ n.toNat (Nat.le_refl _)
  have hp := decDigits_pos n.toNat
  have hne : Lib.decDigits n.toNat ≠ [] := by intro e; rw [e] at hp; simp at hp
  have hhd : negB (Lib.decDigits n.toNat) = false := by
    unfold negB
    obtain ⟨c, t, ht⟩ : ∃ c t, Lib.decDigits n.toNat = c :: t := by
      cases hx : Lib.decDigits n.toNat with
      | nil => exact absurd hx hne
      | cons c t => exact ⟨c, t, rfl⟩
    rw [ht] at h1 ⊢
    have := (digB_iff c).1 (by simp only [List.all_cons, Bool.and_eq_true] at h1; exact h1.1)
    simp only [List.head?_cons, beq_eq_false_iff_ne, ne_eq, Option.some.injEq]
    rintro rfl
    have : (45 : UInt8).toNat = 45 := rfl
    omega
  have hb : bodyD (Lib.decDigits n.toNat) = Lib.decDigits n.toNat := by unfold bodyD; rw [if_neg (by simp [hhd])]
  refine ⟨e, ?_, fun lo hi k1 k2 k3 => ?_⟩
  · rw [e]; unfold wordS
    simp only [Bool.and_eq_true, Bool.not_eq_true', List.isEmpty_eq_false_iff]
    exact ⟨List.all_eq_true.2 fun x hx => digB_word (List.all_eq_true.1 h1 x hx), hne⟩
  · have hv : valI (decW n) = n := by rw [e]; unfold valI; rw [if_neg (by simp [hhd]), hb, h2]; omega
    have hdec : decB (decW n) = true := by
      rw [e]; unfold decB
      rw [hb, h1]
      simp only [Bool.and_true, Bool.and_eq_true, Bool.not_eq_true', List.isEmpty_eq_false_iff]
      refine ⟨hne, ?_⟩
      rw [Bool.and_eq_false_iff]
      by_cases hz : n.toNat = 0
      · right
        have : Lib.decDigits n.toNat = [48] := by rw [hz, Lib.decDigits, dif_pos (by omega)]; rfl
        rw [this]; rfl
      · left
        rw [beq_eq_false_iff_ne]
        exact fun h => hz (h3 h)
    unfold numberS
    rw [hv, if_neg (by simp [hdec]), if_pos ⟨by unfold fitB; simp; omega, k1, k2⟩]
end

section
/-! part P20 -/
structure Pha where
  fr : Int
  til : Int
  out : Int
structure Rul where
  name : List UInt8
  side : Int
  inns : Int
  overs : Int
  balls : Int
  quota : Int
  wide : Int
  noball : Int
  free : Bool
  newball : Int
  follow : Int
  reviews : Int
  outside : Int
  power : List Pha
def inB (n lo hi : Int) : Bool := decide (lo ≤ n) && decide (n ≤ hi)
def inRangeS (r : Rul) : Bool :=
  inB r.side 2 11 && inB r.inns 1 2 && inB r.overs 0 90 && inB r.balls 4 8 && inB r.quota 0 90 && inB r.wide 1 5 && inB r.noball 1 5 && inB r.newball 0 200 && inB r.follow 0 1000 && inB r.reviews 0 9 && inB r.outside 0 11
/-- Is a powerplay out of range? -/
def phaB (overs : Int) (p : Pha) : Bool := decide (p.fr < 1) || decide (p.til < p.fr) || decide (overs < p.til) || !inB p.out 0 11
def phaErr (overs : Int) (prev : Option Pha) (p : Pha) : Int :=
  if phaB overs p = true then 2 else match prev with | some x => if p.fr ≤ x.til then 8 else 0 | none => 0
def phasesF (overs : Int) : List Pha → Option Pha → Int
  | [], _ => 0
  | p :: ps, prev => if phaErr overs prev p ≠ 0 then phaErr overs prev p else phasesF overs ps (some p)
def phasesS (r : Rul) : Int := if 8 < r.power.length then 9 else phasesF r.overs r.power none
/-- The first error of rules ahead of the powerplays. -/
def headErr (r : Rul) : Int :=
  if nameS r.name = false then 5
  else if inRangeS r = false then 2
  else if r.follow ≠ 0 ∧ r.inns = 1 then 1
  else if (r.quota ≠ 0 ∨ 0 < r.power.length) ∧ r.overs = 0 then 1
  else if r.quota ≠ 0 ∧ r.quota * r.side < r.overs then 13 else 0
def checkR (r : Rul) : Int := if headErr r ≠ 0 then headErr r else phasesS r
theorem inB_iff (n lo hi : Int) : inB n lo hi = true ↔ lo ≤ n ∧ n ≤ hi := by unfold inB; simp
theorem inRangeS_iff (r : Rul) : inRangeS r = true ↔ (2 ≤ r.side ∧ r.side ≤ 11) ∧ (1 ≤ r.inns ∧ r.inns ≤ 2) ∧ (0 ≤ r.overs ∧ r.overs ≤ 90) ∧ (4 ≤ r.balls ∧ r.balls ≤ 8) ∧ (0 ≤ r.quota ∧ r.quota ≤ 90) ∧ (1 ≤ r.wide ∧ r.wide ≤ 5) ∧ (1 ≤ r.noball ∧ r.noball ≤ 5) ∧ (0 ≤ r.newball ∧ r.newball ≤ 200) ∧ (0 ≤ r.follow ∧ r.follow ≤ 1000) ∧ (0 ≤ r.reviews ∧ r.reviews ≤ 9) ∧ (0 ≤ r.outside ∧ r.outside ≤ 11) := by
  unfold inRangeS
  simp only [Bool.and_eq_true, inB_iff, and_assoc]
/-- The powerplay ahead of the k-th. -/
def prevP (l : List Pha) (k : Nat) : Option Pha := if k = 0 then none else l[k - 1]?
theorem phasesF_at {overs : Int} {l : List Pha} {k : Nat} (h : k < l.length) : phasesF overs (l.drop k) (prevP l k) = if phaErr overs (prevP l k) l[k] ≠ 0 then phaErr overs (prevP l k) l[k] else phasesF overs (l.drop (k + 1)) (prevP l (k + 1)) := by
  rw [drop_get h, phasesF]
  have : prevP l (k + 1) = some l[k] := by
    unfold prevP
    rw [if_neg (by omega), Nat.add_sub_cancel, List.getElem?_eq_getElem h]
  rw [this]
theorem phasesF_end {overs : Int} {l : List Pha} {k : Nat} (h : l.length ≤ k) (p : Option Pha) : phasesF overs (l.drop k) p = 0 := by
  rw [List.drop_of_length_le h]; rfl
theorem phaErr_two {overs : Int} {prev : Option Pha} {p : Pha} (h : phaB overs p = true) : phaErr overs prev p = 2 := by unfold phaErr; rw [if_pos h]
theorem phaErr_none {overs : Int} {p : Pha} (h : phaB overs p = false) : phaErr overs none p = 0 := by unfold phaErr; rw [if_neg (by simp [h])]
theorem phaErr_some {overs : Int} {p x : Pha} (h : phaB overs p = false) : phaErr overs (some x) p = if p.fr ≤ x.til then 8 else 0 := by unfold phaErr; rw [if_neg (by simp [h])]
/-- The ways through the test of a powerplay. -/
theorem phaB_ways (overs : Int) (p : Pha) : (phaB overs p = true ∧ ((decide (p.fr < 1) = true) ∨ (decide (p.fr < 1) = false ∧ decide (p.til < p.fr) = true) ∨ (decide (p.fr < 1) = false ∧ decide (p.til < p.fr) = false ∧ decide (overs < p.til) = true) ∨ (decide (p.fr < 1) = false ∧ decide (p.til < p.fr) = false ∧ decide (overs < p.til) = false ∧ inB p.out 0 11 = false)))
    ∨ (phaB overs p = false ∧ decide (p.fr < 1) = false ∧ decide (p.til < p.fr) = false ∧ decide (overs < p.til) = false ∧ inB p.out 0 11 = true) := by
  unfold phaB
  cases decide (p.fr < 1) <;> cases decide (p.til < p.fr) <;> cases decide (overs < p.til) <;> cases inB p.out 0 11 <;> simp
theorem prevP_zero (l : List Pha) : prevP l 0 = none := rfl
theorem prevP_succ {l : List Pha} {k : Nat} (h : k ≠ 0) (hk : k - 1 < l.length) : prevP l k = some l[k - 1] := by unfold prevP; rw [if_neg h, List.getElem?_eq_getElem hk]
theorem phaB_no {overs : Int} {p : Pha} (h : phaB overs p = false) : 1 ≤ p.fr ∧ p.fr ≤ p.til ∧ p.til ≤ overs ∧ inB p.out 0 11 = true := by
  unfold phaB at h
  simp at h
  obtain ⟨⟨⟨a, b⟩, c⟩, d⟩ := h
  exact ⟨by omega, by omega, by omega, d⟩
end

section
/-! part P22 -/
def kRULES : List UInt8 := [82, 85, 76, 69, 83]
def kSIDE : List UInt8 := [83, 73, 68, 69]
def kINNINGS : List UInt8 := [73, 78, 78, 73, 78, 71, 83]
def kOVERS : List UInt8 := [79, 86, 69, 82, 83]
def kBALLS : List UInt8 := [66, 65, 76, 76, 83]
def kQUOTA : List UInt8 := [81, 85, 79, 84, 65]
def kRUNS : List UInt8 := [82, 85, 78, 83]
def kFREEHIT : List UInt8 := [70, 82, 69, 69, 72, 73, 84]
def kNEWBALL : List UInt8 := [78, 69, 87, 66, 65, 76, 76]
def kFOLLOWON : List UInt8 := [70, 79, 76, 76, 79, 87, 79, 78]
def kREVIEWS : List UInt8 := [82, 69, 86, 73, 69, 87, 83]
def kOUTSIDE : List UInt8 := [79, 85, 84, 83, 73, 68, 69]
def kPOWER : List UInt8 := [80, 79, 87, 69, 82]
def kYES : List UInt8 := [89, 69, 83]
def kNO : List UInt8 := [78, 79]
def freeW (b : Bool) : List UInt8 := if b then kYES else kNO
def lineR (l : List (List UInt8)) : Lin := ⟨0, l.map wordF⟩
/-- The lines of rules. -/
def headLines (r : Rul) : List Lin :=
  [lineR [kRULES, r.name], lineR [kSIDE, decW r.side], lineR [kINNINGS, decW r.inns], lineR [kOVERS, decW r.overs], lineR [kBALLS, decW r.balls], lineR [kQUOTA, decW r.quota], lineR [kRUNS, decW r.wide, decW r.noball], lineR [kFREEHIT, freeW r.free], lineR [kNEWBALL, decW r.newball], lineR [kFOLLOWON, decW r.follow], lineR [kREVIEWS, decW r.reviews], lineR [kOUTSIDE, decW r.outside]]
def powLine (p : Pha) : Lin := lineR [kPOWER, decW p.fr, decW p.til, decW p.out]
def rulLines (r : Rul) : List Lin := headLines r ++ r.power.map powLine
def textR (r : Rul) : List UInt8 × Int := if checkR r ≠ 0 then ([], checkR r) else (writeS (rulLines r), 0)
def Cur.n (c : Cur) : Cur × Int := c.int 0 10000
/-- The line with index i. -/
def readR (r : Rul) (i : Nat) (c : Cur) : Rul × Cur :=
  match i with
  | 0 => ({ r with name := (c.keyword kRULES).1.ident.2 }, (c.keyword kRULES).1.ident.1)
  | 1 => ({ r with side := (c.keyword kSIDE).1.n.2 }, (c.keyword kSIDE).1.n.1)
  | 2 => ({ r with inns := (c.keyword kINNINGS).1.n.2 }, (c.keyword kINNINGS).1.n.1)
  | 3 => ({ r with overs := (c.keyword kOVERS).1.n.2 }, (c.keyword kOVERS).1.n.1)
  | 4 => ({ r with balls := (c.keyword kBALLS).1.n.2 }, (c.keyword kBALLS).1.n.1)
  | 5 => ({ r with quota := (c.keyword kQUOTA).1.n.2 }, (c.keyword kQUOTA).1.n.1)
  | 6 => ({ r with wide := (c.keyword kRUNS).1.n.2, noball := (c.keyword kRUNS).1.n.1.n.2 }, (c.keyword kRUNS).1.n.1.n.1)
  | 7 => ({ r with free := decide (((c.keyword kFREEHIT).1.oneOf [kYES, kNO]).2 = 0) }, ((c.keyword kFREEHIT).1.oneOf [kYES, kNO]).1)
  | 8 => ({ r with newball := (c.keyword kNEWBALL).1.n.2 }, (c.keyword kNEWBALL).1.n.1)
  | 9 => ({ r with follow := (c.keyword kFOLLOWON).1.n.2 }, (c.keyword kFOLLOWON).1.n.1)
  | 10 => ({ r with reviews := (c.keyword kREVIEWS).1.n.2 }, (c.keyword kREVIEWS).1.n.1)
  | 11 => ({ r with outside := (c.keyword kOUTSIDE).1.n.2 }, (c.keyword kOUTSIDE).1.n.1)
  | _ => ({ r with power := r.power ++ [⟨(c.keyword kPOWER).1.n.2, (c.keyword kPOWER).1.n.1.n.2, (c.keyword kPOWER).1.n.1.n.1.n.2⟩] }, (c.keyword kPOWER).1.n.1.n.1.n.1)
def linesR : List Lin → Nat → Rul → Rul ⊕ Dia
  | [], _, r => .inl r
  | x :: l, i, r => match (readR r i (Cur.start x)).2.close with
    | some d => .inr d
    | none => linesR l (i + 1) (readR r i (Cur.start x)).1
def noRul : Rul := ⟨[], 0, 0, 0, 0, 0, 0, 0, false, 0, 0, 0, 0, []⟩
def lastNum (ls : List Lin) : Int := (ls.getLast?.map (·.num)).getD 0
def parseR (s : List UInt8) : Rul × List Dia :=
  if (splitS s).2 ≠ [] then (noRul, (splitS s).2)
  else match linesR (splitS s).1 0 noRul with
    | .inr d => (noRul, [d])
    | .inl r => if (splitS s).1.length < 12 then (noRul, [⟨lastNum (splitS s).1 + 1, 1, 4⟩]) else if checkR r ≠ 0 then (noRul, [⟨1, 1, checkR r⟩]) else (r, [])
theorem linesR_bad {x : Lin} {l : List Lin} {i : Nat} {r : Rul} {d : Dia} (h : (readR r i (Cur.start x)).2.close = some d) : linesR (x :: l) i r = .inr d := by rw [linesR, h]
theorem linesR_ok {x : Lin} {l : List Lin} {i : Nat} {r : Rul} (h : (readR r i (Cur.start x)).2.close = none) : linesR (x :: l) i r = linesR l (i + 1) (readR r i (Cur.start x)).1 := by rw [linesR, h]
theorem keyword_some {n c : Int} {fs : List Fld} {k : Nat} {t : List UInt8} {cc : Int} (h : fs[k]? = some ⟨t, cc, false⟩) : (⟨n, fs, k, c, 0, 0⟩ : Cur).keyword t = (⟨n, fs, k + 1, cc, 0, 0⟩, true) := by
  unfold Cur.keyword; rw [read_some h]; simp
theorem ident_some {n c : Int} {fs : List Fld} {k : Nat} {t : List UInt8} {cc : Int} (h : fs[k]? = some ⟨t, cc, false⟩) (ht : nameS t = true) : (⟨n, fs, k, c, 0, 0⟩ : Cur).ident = (⟨n, fs, k + 1, cc, 0, 0⟩, t) := by
  unfold Cur.ident; rw [read_some h]; simp [ht]
theorem n_some {n c v : Int} {fs : List Fld} {k : Nat} {cc : Int} (h : fs[k]? = some ⟨decW v, cc, false⟩) (h0 : 0 ≤ v) (h1 : v ≤ 10000) : (⟨n, fs, k, c, 0, 0⟩ : Cur).n = (⟨n, fs, k + 1, cc, 0, 0⟩, v) := by
  unfold Cur.n Cur.int; rw [read_some h]
  simp only [if_true, (decW_facts h0).2.2 0 10000 h0 h1 h1]
theorem free_some {n c : Int} {fs : List Fld} {k : Nat} {cc : Int} {b : Bool} (h : fs[k]? = some ⟨freeW b, cc, false⟩) :
    ((⟨n, fs, k, c, 0, 0⟩ : Cur).oneOf [kYES, kNO]).1 = ⟨n, fs, k + 1, cc, 0, 0⟩ ∧ decide (((⟨n, fs, k, c, 0, 0⟩ : Cur).oneOf [kYES, kNO]).2 = 0) = b := by
  unfold Cur.oneOf; rw [read_some h]
  cases b
  · have : indexS [kYES, kNO] (freeW false) = 1 := by decide
    simp [this]
  · have : indexS [kYES, kNO] (freeW true) = 0 := by decide
    simp [this]
/-- A line of a keyword and words, as it is read back. -/
def LineOk (kw : List UInt8) (ws : List (List UInt8)) (x : Lin) : Prop := ∃ cs : List Int, cs.length = ws.length + 1 ∧ x.fields = ((kw :: ws).zip cs).map fun p => (⟨p.1, p.2, false⟩ : Fld)
theorem placeF_zip : ∀ (ws : List (List UInt8)) (i : Nat), ∃ cs : List Int, cs.length = ws.length ∧ placeF (ws.map wordF) i = (ws.zip cs).map fun p => (⟨p.1, p.2, false⟩ : Fld) := by
  intro ws
  induction ws with
  | nil => intro i; exact ⟨[], rfl, rfl⟩
  | cons w ws ih =>
    intro i
    obtain ⟨cs, h1, h2⟩ := ih (i + (fieldW (wordF w)).length + 1)
    refine ⟨((i : Int) + 1) :: cs, by simp [h1], ?_⟩
    rw [List.map_cons, placeF, h2]
    rfl
theorem lineR_ok (kw : List UInt8) (ws : List (List UInt8)) (n : Int) : LineOk kw ws ⟨n, placeF (lineR (kw :: ws)).fields 0⟩ := by
  obtain ⟨cs, h1, h2⟩ := placeF_zip (kw :: ws) 0
  exact ⟨cs, by simpa using h1, h2⟩
theorem LineOk.one {kw t : List UInt8} {x : Lin} (h : LineOk kw [t] x) : ∃ c1 c2, Cur.start x = ⟨x.num, [⟨kw, c1, false⟩, ⟨t, c2, false⟩], 0, 0, 0, 0⟩ := by
  obtain ⟨cs, h1, h2⟩ := h
  match cs, h1 with
  | [c1, c2], _ => exact ⟨c1, c2, by unfold Cur.start; rw [h2]; rfl⟩
theorem LineOk.two {kw t u : List UInt8} {x : Lin} (h : LineOk kw [t, u] x) : ∃ c1 c2 c3, Cur.start x = ⟨x.num, [⟨kw, c1, false⟩, ⟨t, c2, false⟩, ⟨u, c3, false⟩], 0, 0, 0, 0⟩ := by
  obtain ⟨cs, h1, h2⟩ := h
  match cs, h1 with
  | [c1, c2, c3], _ => exact ⟨c1, c2, c3, by unfold Cur.start; rw [h2]; rfl⟩
theorem LineOk.three {kw t u v : List UInt8} {x : Lin} (h : LineOk kw [t, u, v] x) : ∃ c1 c2 c3 c4, Cur.start x = ⟨x.num, [⟨kw, c1, false⟩, ⟨t, c2, false⟩, ⟨u, c3, false⟩, ⟨v, c4, false⟩], 0, 0, 0, 0⟩ := by
  obtain ⟨cs, h1, h2⟩ := h
  match cs, h1 with
  | [c1, c2, c3, c4], _ => exact ⟨c1, c2, c3, c4, by unfold Cur.start; rw [h2]; rfl⟩
theorem key_n {kw : List UInt8} {v : Int} {x : Lin} (h : LineOk kw [decW v] x) (h0 : 0 ≤ v) (h1 : v ≤ 10000) : ((Cur.start x).keyword kw).1.n.2 = v ∧ ((Cur.start x).keyword kw).1.n.1.close = none := by
  obtain ⟨c1, c2, e⟩ := h.one
  rw [e, keyword_some (k := 0) rfl, n_some (k := 1) rfl h0 h1]
  exact ⟨rfl, close_none rfl⟩
theorem readR_name {t : List UInt8} {x : Lin} (r : Rul) (h : LineOk kRULES [t] x) (ht : nameS t = true) : (readR r 0 (Cur.start x)).1 = { r with name := t } ∧ (readR r 0 (Cur.start x)).2.close = none := by
  obtain ⟨c1, c2, e⟩ := h.one
  unfold readR
  rw [e, keyword_some (k := 0) rfl, ident_some (k := 1) rfl ht]
  exact ⟨rfl, close_none rfl⟩
theorem readR_runs {a b : Int} {x : Lin} (r : Rul) (h : LineOk kRUNS [decW a, decW b] x) (a0 : 0 ≤ a) (a1 : a ≤ 10000) (b0 : 0 ≤ b) (b1 : b ≤ 10000) :
    (readR r 6 (Cur.start x)).1 = { r with wide := a, noball := b } ∧ (readR r 6 (Cur.start x)).2.close = none := by
  obtain ⟨c1, c2, c3, e⟩ := h.two
  have hr : readR r 6 (Cur.start x) = ({ r with wide := ((Cur.start x).keyword kRUNS).1.n.2, noball := ((Cur.start x).keyword kRUNS).1.n.1.n.2 }, ((Cur.start x).keyword kRUNS).1.n.1.n.1) := rfl
  rw [hr, e, keyword_some (k := 0) rfl, n_some (k := 1) rfl a0 a1, n_some (k := 2) rfl b0 b1]
  exact ⟨rfl, close_none rfl⟩
theorem readR_free {b : Bool} {x : Lin} (r : Rul) (h : LineOk kFREEHIT [freeW b] x) : (readR r 7 (Cur.start x)).1 = { r with free := b } ∧ (readR r 7 (Cur.start x)).2.close = none := by
  obtain ⟨c1, c2, e⟩ := h.one
  have hr : readR r 7 (Cur.start x) = ({ r with free := decide ((((Cur.start x).keyword kFREEHIT).1.oneOf [kYES, kNO]).2 = 0) }, (((Cur.start x).keyword kFREEHIT).1.oneOf [kYES, kNO]).1) := rfl
  rw [hr, e, keyword_some (k := 0) rfl]
  obtain ⟨h1, h2⟩ := free_some (n := x.num) (c := c1) (fs := [⟨kFREEHIT, c1, false⟩, ⟨freeW b, c2, false⟩]) (k := 1) (cc := c2) (b := b) rfl
  rw [h1, h2]
  exact ⟨rfl, close_none rfl⟩
theorem readR_pow {p : Pha} {x : Lin} (r : Rul) (i : Nat) (h : LineOk kPOWER [decW p.fr, decW p.til, decW p.out] x) (a0 : 0 ≤ p.fr) (a1 : p.fr ≤ 10000) (b0 : 0 ≤ p.til) (b1 : p.til ≤ 10000) (d0 : 0 ≤ p.out) (d1 : p.out ≤ 10000) :
    (readR r (i + 12) (Cur.start x)).1 = { r with power := r.power ++ [p] } ∧ (readR r (i + 12) (Cur.start x)).2.close = none := by
  obtain ⟨c1, c2, c3, c4, e⟩ := h.three
  have hr : readR r (i + 12) (Cur.start x) = ({ r with power := r.power ++ [⟨((Cur.start x).keyword kPOWER).1.n.2, ((Cur.start x).keyword kPOWER).1.n.1.n.2, ((Cur.start x).keyword kPOWER).1.n.1.n.1.n.2⟩] }, ((Cur.start x).keyword kPOWER).1.n.1.n.1.n.1) := rfl
  rw [hr, e, keyword_some (k := 0) rfl, n_some (k := 1) rfl a0 a1, n_some (k := 2) rfl b0 b1, n_some (k := 3) rfl d0 d1]
  exact ⟨rfl, close_none rfl⟩
/-- The lines L are those of rules, in whatever columns. -/
def RulLines (r : Rul) (L : List Lin) : Prop :=
  ∃ x0 x1 x2 x3 x4 x5 x6 x7 x8 x9 x10 x11 P, L = x0 :: x1 :: x2 :: x3 :: x4 :: x5 :: x6 :: x7 :: x8 :: x9 :: x10 :: x11 :: P ∧ LineOk kRULES [r.name] x0 ∧ LineOk kSIDE [decW r.side] x1 ∧ LineOk kINNINGS [decW r.inns] x2 ∧ LineOk kOVERS [decW r.overs] x3 ∧ LineOk kBALLS [decW r.balls] x4 ∧ LineOk kQUOTA [decW r.quota] x5 ∧ LineOk kRUNS [decW r.wide, decW r.noball] x6 ∧ LineOk kFREEHIT [freeW r.free] x7 ∧ LineOk kNEWBALL [decW r.newball] x8 ∧ LineOk kFOLLOWON [decW r.follow] x9 ∧ LineOk kREVIEWS [decW r.reviews] x10 ∧ LineOk kOUTSIDE [decW r.outside] x11 ∧
    P.length = r.power.length ∧ ∀ (i : Nat) (p : Pha) (x : Lin), r.power[i]? = some p → P[i]? = some x → LineOk kPOWER [decW p.fr, decW p.til, decW p.out] x
def SmallP (p : Pha) : Prop := 0 ≤ p.fr ∧ p.fr ≤ 10000 ∧ 0 ≤ p.til ∧ p.til ≤ 10000 ∧ 0 ≤ p.out ∧ p.out ≤ 10000
theorem pows_back : ∀ (ps : List Pha) (P : List Lin) (i : Nat) (r : Rul), P.length = ps.length → (∀ p ∈ ps, SmallP p) → (∀ (i : Nat) (p : Pha) (x : Lin), ps[i]? = some p → P[i]? = some x → LineOk kPOWER [decW p.fr, decW p.til, decW p.out] x) →
    linesR P (i + 12) r = .inl { r with power := r.power ++ ps } := by
  intro ps
  induction ps with
  | nil =>
    intro P i r h _ _
    have : P = [] := List.eq_nil_of_length_eq_zero (by simpa using h)
    subst this
    rw [linesR, List.append_nil]
  | cons p ps ih =>
    intro P i r h hs hl
    match P, h with
    | x :: P, h =>
      obtain ⟨s1, s2, s3, s4, s5, s6⟩ := hs p (by simp)
      obtain ⟨g1, g2⟩ := readR_pow r i (hl 0 p x rfl rfl) s1 s2 s3 s4 s5 s6
      rw [linesR_ok g2, g1, show i + 12 + 1 = (i + 1) + 12 by omega, ih P (i + 1) _ (by simpa using h) (fun q hq => hs q (by simp [hq])) (fun j q y h1 h2 => hl (j + 1) q y (by simpa using h1) (by simpa using h2))]
      simp
theorem phasesF_small {overs : Int} : ∀ (ps : List Pha) (prev : Option Pha), overs ≤ 90 → phasesF overs ps prev = 0 → ∀ p ∈ ps, SmallP p := by
  intro ps
  induction ps with
  | nil => intro prev _ _ p hp; simp at hp
  | cons q ps ih =>
    intro prev ho h p hp
    rw [phasesF] at h
    by_cases he : phaErr overs prev q = 0
    · rw [if_neg (fun k => k he)] at h
      rcases List.mem_cons.1 hp with rfl | hp
      · have hb : phaB overs p = false := by
          cases hb : phaB overs p
          · rfl
          · rw [phaErr_two hb] at he; cases he
        obtain ⟨h1, h2, h3, h4⟩ := phaB_no hb
        have := (inB_iff _ _ _).1 h4
        exact ⟨by omega, by omega, by omega, by omega, by omega, by omega⟩
      · exact ih _ ho h p hp
    · rw [if_pos he] at h; exact absurd h he
theorem checkR_ok {r : Rul} (h : checkR r = 0) : nameS r.name = true ∧ inRangeS r = true ∧ r.power.length ≤ 8 ∧ ∀ p ∈ r.power, SmallP p := by
  unfold checkR at h
  by_cases hh : headErr r = 0
  · rw [if_neg (fun k => k hh)] at h
    have h1 : nameS r.name = true := by
      cases hx : nameS r.name
      · unfold headErr at hh; rw [if_pos hx] at hh; cases hh
      · rfl
    have h2 : inRangeS r = true := by
      cases hx : inRangeS r
      · unfold headErr at hh; rw [if_neg (by simp [h1]), if_pos hx] at hh; cases hh
      · rfl
    unfold phasesS at h
    by_cases h8 : 8 < r.power.length
    · rw [if_pos h8] at h; cases h
    · rw [if_neg h8] at h
      obtain ⟨_, _, ⟨_, h3⟩, _⟩ := (inRangeS_iff r).1 h2
      exact ⟨h1, h2, by omega, phasesF_small _ _ h3 h⟩
  · rw [if_pos hh] at h; exact absurd h hh
theorem read_side {q : Rul} {x : Lin} {v : Int} (h : ((Cur.start x).keyword kSIDE).1.n.2 = v) : (readR q 1 (Cur.start x)).1 = { q with side := v } := by rw [← h]; rfl
theorem read_close_side {q : Rul} {x : Lin} (h : ((Cur.start x).keyword kSIDE).1.n.1.close = none) : (readR q 1 (Cur.start x)).2.close = none := h
theorem read_inns {q : Rul} {x : Lin} {v : Int} (h : ((Cur.start x).keyword kINNINGS).1.n.2 = v) : (readR q 2 (Cur.start x)).1 = { q with inns := v } := by rw [← h]; rfl
theorem read_close_inns {q : Rul} {x : Lin} (h : ((Cur.start x).keyword kINNINGS).1.n.1.close = none) : (readR q 2 (Cur.start x)).2.close = none := h
theorem read_overs {q : Rul} {x : Lin} {v : Int} (h : ((Cur.start x).keyword kOVERS).1.n.2 = v) : (readR q 3 (Cur.start x)).1 = { q with overs := v } := by rw [← h]; rfl
theorem read_close_overs {q : Rul} {x : Lin} (h : ((Cur.start x).keyword kOVERS).1.n.1.close = none) : (readR q 3 (Cur.start x)).2.close = none := h
theorem read_balls {q : Rul} {x : Lin} {v : Int} (h : ((Cur.start x).keyword kBALLS).1.n.2 = v) : (readR q 4 (Cur.start x)).1 = { q with balls := v } := by rw [← h]; rfl
theorem read_close_balls {q : Rul} {x : Lin} (h : ((Cur.start x).keyword kBALLS).1.n.1.close = none) : (readR q 4 (Cur.start x)).2.close = none := h
theorem read_quota {q : Rul} {x : Lin} {v : Int} (h : ((Cur.start x).keyword kQUOTA).1.n.2 = v) : (readR q 5 (Cur.start x)).1 = { q with quota := v } := by rw [← h]; rfl
theorem read_close_quota {q : Rul} {x : Lin} (h : ((Cur.start x).keyword kQUOTA).1.n.1.close = none) : (readR q 5 (Cur.start x)).2.close = none := h
theorem read_newball {q : Rul} {x : Lin} {v : Int} (h : ((Cur.start x).keyword kNEWBALL).1.n.2 = v) : (readR q 8 (Cur.start x)).1 = { q with newball := v } := by rw [← h]; rfl
theorem read_close_newball {q : Rul} {x : Lin} (h : ((Cur.start x).keyword kNEWBALL).1.n.1.close = none) : (readR q 8 (Cur.start x)).2.close = none := h
theorem read_follow {q : Rul} {x : Lin} {v : Int} (h : ((Cur.start x).keyword kFOLLOWON).1.n.2 = v) : (readR q 9 (Cur.start x)).1 = { q with follow := v } := by rw [← h]; rfl
theorem read_close_follow {q : Rul} {x : Lin} (h : ((Cur.start x).keyword kFOLLOWON).1.n.1.close = none) : (readR q 9 (Cur.start x)).2.close = none := h
theorem read_reviews {q : Rul} {x : Lin} {v : Int} (h : ((Cur.start x).keyword kREVIEWS).1.n.2 = v) : (readR q 10 (Cur.start x)).1 = { q with reviews := v } := by rw [← h]; rfl
theorem read_close_reviews {q : Rul} {x : Lin} (h : ((Cur.start x).keyword kREVIEWS).1.n.1.close = none) : (readR q 10 (Cur.start x)).2.close = none := h
theorem read_outside {q : Rul} {x : Lin} {v : Int} (h : ((Cur.start x).keyword kOUTSIDE).1.n.2 = v) : (readR q 11 (Cur.start x)).1 = { q with outside := v } := by rw [← h]; rfl
theorem read_close_outside {q : Rul} {x : Lin} (h : ((Cur.start x).keyword kOUTSIDE).1.n.1.close = none) : (readR q 11 (Cur.start x)).2.close = none := h
set_option maxHeartbeats 1000000 in
theorem lines_back {r : Rul} {L : List Lin} (hc : checkR r = 0) (h : RulLines r L) : linesR L 0 noRul = .inl r ∧ 12 ≤ L.length := by
  obtain ⟨hn, hr, _, hp⟩ := checkR_ok hc
  obtain ⟨⟨a1, a2⟩, ⟨b1, b2⟩, ⟨d1, d2⟩, ⟨e1, e2⟩, ⟨f1, f2⟩, ⟨g1, g2⟩, ⟨i1, i2⟩, ⟨j1, j2⟩, ⟨k1, k2⟩, ⟨l1, l2⟩, ⟨m1, m2⟩⟩ := (inRangeS_iff r).1 hr
  obtain ⟨x0, x1, x2, x3, x4, x5, x6, x7, x8, x9, x10, x11, P, rfl, h0, h1, h2, h3, h4, h5, h6, h7, h8, h9, h10, h11, hpl, hpw⟩ := h
  refine ⟨?_, by simp only [List.length_cons]; omega⟩
  obtain ⟨u0, v0⟩ := readR_name noRul h0 hn
  obtain ⟨u1, v1⟩ := key_n h1 (by omega) (by omega)
  obtain ⟨u2, v2⟩ := key_n h2 (by omega) (by omega)
  obtain ⟨u3, v3⟩ := key_n h3 (by omega) (by omega)
  obtain ⟨u4, v4⟩ := key_n h4 (by omega) (by omega)
  obtain ⟨u5, v5⟩ := key_n h5 (by omega) (by omega)
  obtain ⟨u8, v8⟩ := key_n h8 (by omega) (by omega)
  obtain ⟨u9, v9⟩ := key_n h9 (by omega) (by omega)
  obtain ⟨u10, v10⟩ := key_n h10 (by omega) (by omega)
  obtain ⟨u11, v11⟩ := key_n h11 (by omega) (by omega)
  rw [linesR_ok v0, u0]
  rw [linesR_ok (i := 1) (x := x1) (read_close_side v1), read_side u1]
  rw [linesR_ok (i := 2) (x := x2) (read_close_inns v2), read_inns u2]
  rw [linesR_ok (i := 3) (x := x3) (read_close_overs v3), read_overs u3]
  rw [linesR_ok (i := 4) (x := x4) (read_close_balls v4), read_balls u4]
  rw [linesR_ok (i := 5) (x := x5) (read_close_quota v5), read_quota u5]
  obtain ⟨u6, v6⟩ := readR_runs ({ noRul with name := r.name, side := r.side, inns := r.inns, overs := r.overs, balls := r.balls, quota := r.quota }) h6 (by omega) (by omega) (by omega) (by omega)
  rw [linesR_ok (i := 6) (x := x6) v6, u6]
  obtain ⟨u7, v7⟩ := readR_free ({ noRul with name := r.name, side := r.side, inns := r.inns, overs := r.overs, balls := r.balls, quota := r.quota, wide := r.wide, noball := r.noball }) h7
  rw [linesR_ok (i := 7) (x := x7) v7, u7]
  rw [linesR_ok (i := 8) (x := x8) (read_close_newball v8), read_newball u8]
  rw [linesR_ok (i := 9) (x := x9) (read_close_follow v9), read_follow u9]
  rw [linesR_ok (i := 10) (x := x10) (read_close_reviews v10), read_reviews u10]
  rw [linesR_ok (i := 11) (x := x11) (read_close_outside v11), read_outside u11]
  rw [pows_back r.power P 0 _ hpl hp hpw]
  simp [noRul]
end

section
/-! part U9 -/
def kTEST : List UInt8 := [84, 69, 83, 84]
def kONEDAY : List UInt8 := [79, 78, 69, 68, 65, 89]
def kTWENTY : List UInt8 := [84, 87, 69, 78, 84, 89]
def stdTest : Rul := ⟨kTEST, 11, 2, 0, 6, 0, 1, 1, false, 80, 200, 3, 9, []⟩
def stdOne : Rul := ⟨kONEDAY, 11, 1, 50, 6, 10, 1, 1, true, 0, 0, 2, 5, [⟨1, 10, 2⟩, ⟨11, 40, 4⟩]⟩
def stdTwenty : Rul := ⟨kTWENTY, 11, 1, 20, 6, 4, 1, 1, true, 0, 0, 2, 5, [⟨1, 6, 2⟩]⟩
def standardS (n : List UInt8) : Rul × Int :=
  if n = kTEST then (stdTest, 0) else if n = kONEDAY then (stdOne, 0) else if n = kTWENTY then (stdTwenty, 0) else (noRul, 6)
theorem standard_ok {n : List UInt8} (h : (standardS n).2 = 0) : checkR (standardS n).1 = 0 ∧ (standardS n).1.name = n := by
  unfold standardS at *
  by_cases h1 : n = kTEST
  · rw [if_pos h1]; subst h1; exact ⟨by decide +kernel, rfl⟩
  · by_cases h2 : n = kONEDAY
    · rw [if_neg h1, if_pos h2]; subst h2; exact ⟨by decide +kernel, rfl⟩
    · by_cases h3 : n = kTWENTY
      · rw [if_neg h1, if_neg h2, if_pos h3]; subst h3; exact ⟨by decide +kernel, rfl⟩
      · rw [if_neg h1, if_neg h2, if_neg h3] at h; cases h
def eqPha (a b : Pha) : Bool := (a.fr == b.fr) && (a.til == b.til) && (a.out == b.out)
def eqPhas : List Pha → List Pha → Bool
  | [], [] => true
  | a :: l, b :: m => eqPha a b && eqPhas l m
  | _, _ => false
theorem eqPha_self (a : Pha) : eqPha a a = true := by unfold eqPha; simp
theorem eqPhas_self : ∀ l : List Pha, eqPhas l l = true
  | [] => rfl
  | a :: l => by rw [eqPhas, eqPha_self, eqPhas_self l]; rfl
theorem eqPhas_len : ∀ {l m : List Pha}, l.length ≠ m.length → eqPhas l m = false
  | [], [], h => absurd rfl h
  | [], _ :: _, _ => rfl
  | _ :: _, [], _ => rfl
  | a :: l, b :: m, h => by rw [eqPhas, eqPhas_len (l := l) (m := m) (fun e => h (by simp [e]))]; simp
theorem eqPhas_at {l m : List Pha} {k : Nat} (h : k < l.length) (h' : k < m.length) : eqPhas (l.drop k) (m.drop k) = (eqPha l[k] m[k] && eqPhas (l.drop (k + 1)) (m.drop (k + 1))) := by
  rw [List.drop_eq_getElem_cons h, List.drop_eq_getElem_cons h', eqPhas]
end

section
/-! part P23 -/
theorem okL_words {ws : List (List UInt8)} (h0 : ws ≠ []) (h : ∀ t ∈ ws, wordS t = true) (hl : (lineW (lineR ws).fields true).length ≤ 900) : okL (lineR ws) := by
  refine ⟨by unfold lineR; simpa using h0, ?_, by omega⟩
  intro f hf
  unfold lineR at hf
  obtain ⟨t, ht, rfl⟩ := List.mem_map.1 hf
  exact okF_word (h t ht)
theorem lineW_len : ∀ (ws : List (List UInt8)) (b : Bool), (∀ t ∈ ws, wordS t = true ∧ t.length ≤ 20) → (lineW (ws.map wordF) b).length ≤ 21 * ws.length := by
  intro ws
  induction ws with
  | nil => intro b _; simp [lineW]
  | cons t ws ih =>
    intro b h
    have := ih false fun u hu => h u (by simp [hu])
    rw [List.map_cons, lineW, fieldW_word (h t (by simp)).1]
    have h2 := (h t (by simp)).2
    have h3 : (if b = true then ([] : List UInt8) else [32]).length ≤ 1 := by split <;> simp
    simp only [List.length_append, List.length_cons]
    omega
def WordOk (t : List UInt8) : Prop := wordS t = true ∧ t.length ≤ 20
theorem digits_le : ∀ (n u : Nat), u ≤ n → u < 100000 → (Lib.decDigits u).length ≤ 6 := by
  intro n u _ hu
  have : ∀ v, v < 10 → (Lib.decDigits v).length ≤ 1 := by intro v hv; unfold Lib.decDigits; rw [dif_pos hv]; simp
  have s : ∀ k v, (∀ x, x < 10 ^ k → (Lib.decDigits x).length ≤ k) → 0 < k → v < 10 ^ (k + 1) → (Lib.decDigits v).length ≤ k + 1 := by
    intro k v hk h0 hv
    unfold Lib.decDigits
    by_cases h10 : v < 10
    · rw [dif_pos h10]; simp
    · rw [dif_neg h10, List.length_append]
      have := hk (v / 10) (by rw [Nat.pow_succ] at hv; omega)
      simp; omega
  have k1 : ∀ x, x < 10 ^ 1 → (Lib.decDigits x).length ≤ 1 := fun x hx => this x (by simpa using hx)
  have k2 := fun x hx => s 1 x k1 (by omega) hx
  have k3 := fun x hx => s 2 x k2 (by omega) hx
  have k4 := fun x hx => s 3 x k3 (by omega) hx
  have k5 := fun x hx => s 4 x k4 (by omega) hx
  have := k5 u (by omega)
  omega
theorem decW_ok {n : Int} (h0 : 0 ≤ n) (h1 : n ≤ 10000) : WordOk (decW n) := by
  obtain ⟨a, b, _⟩ := decW_facts h0
  refine ⟨b, ?_⟩
  rw [a]
  have := digits_le n.toNat n.toNat (Nat.le_refl _) (by omega)
  omega
theorem name_len {t : List UInt8} (h : nameS t = true) : t.length ≤ 20 := by
  cases t with
  | nil => simp
  | cons c l =>
    unfold nameS at h
    simp only [Bool.and_eq_true, decide_eq_true_eq] at h
    have := h.2
    simp only [List.length_cons]
    omega
theorem name_ok {t : List UInt8} (h : nameS t = true) : WordOk t := ⟨word_of_name h, name_len h⟩
theorem line_ok {ws : List (List UInt8)} (h0 : ws ≠ []) (h4 : ws.length ≤ 4) (h : ∀ t ∈ ws, WordOk t) : okL (lineR ws) ∧ (lineW (lineR ws).fields true).length ≤ 84 := by
  have := lineW_len ws true h
  have h2 : (lineW (lineR ws).fields true).length ≤ 84 := by unfold lineR; dsimp only; omega
  exact ⟨okL_words h0 (fun t ht => (h t ht).1) (by omega), h2⟩
/-- A line of the text of rules. -/
def LineGood (x : Lin) : Prop := okL x ∧ (lineW x.fields true).length ≤ 84
theorem two_ok {a b : List UInt8} (ha : WordOk a) (hb : WordOk b) : LineGood (lineR [a, b]) := line_ok (by simp) (by simp) (by intro t ht; simp at ht; rcases ht with rfl | rfl <;> assumption)
theorem three_ok {a b c : List UInt8} (ha : WordOk a) (hb : WordOk b) (hc : WordOk c) : LineGood (lineR [a, b, c]) := line_ok (by simp) (by simp) (by intro t ht; simp at ht; rcases ht with rfl | rfl | rfl <;> assumption)
theorem four_ok {a b c d : List UInt8} (ha : WordOk a) (hb : WordOk b) (hc : WordOk c) (hd : WordOk d) : LineGood (lineR [a, b, c, d]) := line_ok (by simp) (by simp) (by intro t ht; simp at ht; rcases ht with rfl | rfl | rfl | rfl <;> assumption)
theorem kw_ok : WordOk kRULES ∧ WordOk kSIDE ∧ WordOk kINNINGS ∧ WordOk kOVERS ∧ WordOk kBALLS ∧ WordOk kQUOTA ∧ WordOk kRUNS ∧ WordOk kFREEHIT ∧ WordOk kNEWBALL ∧ WordOk kFOLLOWON ∧ WordOk kREVIEWS ∧ WordOk kOUTSIDE ∧ WordOk kPOWER ∧ WordOk kYES ∧ WordOk kNO := by
  unfold WordOk; decide +kernel
theorem rulLines_good {r : Rul} (h : checkR r = 0) : (∀ x ∈ rulLines r, LineGood x) ∧ (rulLines r).length ≤ 20 := by
  obtain ⟨hn, hr, h8, hp⟩ := checkR_ok h
  obtain ⟨⟨a1, a2⟩, ⟨b1, b2⟩, ⟨d1, d2⟩, ⟨e1, e2⟩, ⟨f1, f2⟩, ⟨g1, g2⟩, ⟨i1, i2⟩, ⟨j1, j2⟩, ⟨k1, k2⟩, ⟨l1, l2⟩, ⟨m1, m2⟩⟩ := (inRangeS_iff r).1 hr
  obtain ⟨w0, w1, w2, w3, w4, w5, w6, w7, w8, w9, w10, w11, w12, w13, w14⟩ := kw_ok
  refine ⟨fun x hx => ?_, by unfold rulLines headLines; simp; omega⟩
  unfold rulLines at hx
  rcases List.mem_append.1 hx with hx | hx
  · unfold headLines at hx
    simp only [List.mem_cons, List.not_mem_nil, or_false] at hx
    rcases hx with rfl | rfl | rfl | rfl | rfl | rfl | rfl | rfl | rfl | rfl | rfl | rfl
    · exact two_ok w0 (name_ok hn)
    · exact two_ok w1 (decW_ok (by omega) (by omega))
    · exact two_ok w2 (decW_ok (by omega) (by omega))
    · exact two_ok w3 (decW_ok (by omega) (by omega))
    · exact two_ok w4 (decW_ok (by omega) (by omega))
    · exact two_ok w5 (decW_ok (by omega) (by omega))
    · exact three_ok w6 (decW_ok (by omega) (by omega)) (decW_ok (by omega) (by omega))
    · exact two_ok w7 (by unfold freeW; split <;> assumption)
    · exact two_ok w8 (decW_ok (by omega) (by omega))
    · exact two_ok w9 (decW_ok (by omega) (by omega))
    · exact two_ok w10 (decW_ok (by omega) (by omega))
    · exact two_ok w11 (decW_ok (by omega) (by omega))
  · obtain ⟨p, hpm, rfl⟩ := List.mem_map.1 hx
    obtain ⟨s1, s2, s3, s4, s5, s6⟩ := hp p hpm
    exact four_ok w12 (decW_ok s1 s2) (decW_ok s3 s4) (decW_ok s5 s6)
theorem writeS_len : ∀ (ls : List Lin), (∀ x ∈ ls, LineGood x) → (writeS ls).length ≤ 85 * ls.length := by
  intro ls
  induction ls with
  | nil => intro _; simp [writeS]
  | cons x ls ih =>
    intro h
    have h1 := (h x (by simp)).2
    have h2 := ih fun y hy => h y (by simp [hy])
    have h3 : (endW x.fields).length ≤ 1 := by unfold endW; split <;> simp
    rw [writeS]
    simp only [List.length_append, List.length_cons]
    omega
theorem rulText_len {r : Rul} (h : checkR r = 0) : (writeS (rulLines r)).length ≤ 1700 := by
  obtain ⟨h1, h2⟩ := rulLines_good h
  have := writeS_len _ h1
  omega

/-- The lines L have the fields of ls, in their places. -/
def Placed (ls L : List Lin) : Prop := L.map (·.fields) = ls.map fun x => placeF x.fields 0
theorem placed_back : ∀ (ls : List Lin) (n : Int), Placed ls (backF ls n) := by
  intro ls
  induction ls with
  | nil => intro n; rfl
  | cons x ls ih =>
    intro n
    have := ih (n + 1)
    unfold Placed at *
    rw [backF, List.map_cons, List.map_cons, this]
theorem lineOk_placed {kw : List UInt8} {ws : List (List UInt8)} {y : Lin} (h : y.fields = placeF (lineR (kw :: ws)).fields 0) : LineOk kw ws y := by
  obtain ⟨cs, h1, h2⟩ := lineR_ok kw ws 0
  exact ⟨cs, h1, by rw [h]; exact h2⟩
theorem rulLines_placed {r : Rul} {L : List Lin} (h : Placed (rulLines r) L) : RulLines r L := by
  unfold Placed rulLines headLines at h
  simp only [List.cons_append, List.nil_append, List.map_cons, List.map_append] at h
  match L, h with
  | [], h => simp at h
  | [_], h => simp at h
  | [_, _], h => simp at h
  | [_, _, _], h => simp at h
  | [_, _, _, _], h => simp at h
  | [_, _, _, _, _], h => simp at h
  | [_, _, _, _, _, _], h => simp at h
  | [_, _, _, _, _, _, _], h => simp at h
  | [_, _, _, _, _, _, _, _], h => simp at h
  | [_, _, _, _, _, _, _, _, _], h => simp at h
  | [_, _, _, _, _, _, _, _, _, _], h => simp at h
  | [_, _, _, _, _, _, _, _, _, _, _], h => simp at h
  | x0 :: x1 :: x2 :: x3 :: x4 :: x5 :: x6 :: x7 :: x8 :: x9 :: x10 :: x11 :: P, h =>
    simp only [List.map_cons, List.cons.injEq] at h
    obtain ⟨h0, h1, h2, h3, h4, h5, h6, h7, h8, h9, h10, h11, hP⟩ := h
    refine ⟨x0, x1, x2, x3, x4, x5, x6, x7, x8, x9, x10, x11, P, rfl, lineOk_placed h0, lineOk_placed h1, lineOk_placed h2, lineOk_placed h3, lineOk_placed h4, lineOk_placed h5, lineOk_placed h6, lineOk_placed h7, lineOk_placed h8, lineOk_placed h9, lineOk_placed h10, lineOk_placed h11, ?_, ?_⟩
    · have := congrArg List.length hP
      simpa using this
    · intro i p x hi hx
      have e := congrArg (fun l => l[i]?) hP
      simp only [List.getElem?_map, hi, hx, Option.map_some] at e
      exact lineOk_placed (Option.some.inj e)
theorem parseR_placed {r : Rul} {s : List UInt8} {L : List Lin} (hc : checkR r = 0) (hs : splitS s = (L, [])) (h : Placed (rulLines r) L) : parseR s = (r, []) := by
  obtain ⟨h1, h2⟩ := lines_back hc (rulLines_placed h)
  unfold parseR
  rw [hs]
  dsimp only
  rw [if_neg (by simp), h1]
  dsimp only
  rw [if_neg (by omega), if_neg (by rw [hc]; simp)]
theorem textR_ok {r : Rul} (hc : checkR r = 0) : textR r = (writeS (rulLines r), 0) := by unfold textR; rw [if_neg (by rw [hc]; simp)]
theorem textR_bad {r : Rul} (hc : checkR r ≠ 0) : textR r = ([], checkR r) := by unfold textR; rw [if_pos hc]
theorem parseR_text {r : Rul} (hc : checkR r = 0) : parseR (writeS (rulLines r)) = (r, []) :=
  parseR_placed hc (splitS_back _ (fun x hx => ((rulLines_good hc).1 x hx).1) (by have := rulText_len hc; omega)) (placed_back _ _)

/-! With comments and blank lines. -/
def cX : List UInt8 := [32, 59, 32, 120, 10, 10]
def cTop : List UInt8 := [59, 32, 114, 117, 108, 101, 115, 10, 10]
def writeC : List Lin → List UInt8
  | [] => []
  | x :: ls => lineW x.fields true ++ cX ++ writeC ls
def backC : List Lin → Int → List Lin
  | [], _ => []
  | x :: ls, n => ⟨n, placeF x.fields 0⟩ :: backC ls (n + 2)
theorem placed_backC : ∀ (ls : List Lin) (n : Int), Placed ls (backC ls n) := by
  intro ls
  induction ls with
  | nil => intro n; rfl
  | cons x ls ih =>
    intro n
    have := ih (n + 2)
    unfold Placed at *
    rw [backC, List.map_cons, List.map_cons, this]
theorem subst1_app (c : UInt8) (n a b : List UInt8) : subst1 c n (a ++ b) = subst1 c n a ++ subst1 c n b := by unfold subst1; rw [List.flatMap_append]
theorem subst1_none {c : UInt8} {n : List UInt8} : ∀ {a : List UInt8}, c ∉ a → subst1 c n a = a := by
  intro a
  induction a with
  | nil => intro _; rfl
  | cons b a ih =>
    intro h
    have hb : b ≠ c := fun e => h (by simp [e])
    have := ih fun hm => h (by simp [hm])
    unfold subst1 at *
    rw [List.flatMap_cons, this, if_neg hb]; rfl
theorem subst_write : ∀ ls : List Lin, (∀ x ∈ ls, okL x) → subst1 10 cX (writeS ls) = writeC ls := by
  intro ls
  induction ls with
  | nil => intro _; rfl
  | cons x ls ih =>
    intro h
    obtain ⟨h1, h2, h3⟩ := h x (by simp)
    have : x.fields.isEmpty = false := by simpa using h1
    rw [writeS, writeC, subst1_app, subst1_app, ih fun y hy => h y (by simp [hy]), subst1_none (lineW_no10 _ _ h2)]
    unfold endW
    rw [this]
    rfl
theorem fieldsL_restC : ∀ (fs : List Fld) (i : Nat) (after : Bool) (out : List Fld), (∀ f ∈ fs, okF f = true) → fieldsL (lineW fs false ++ [32, 59, 32, 120]) i after out = (out ++ placeF fs (i + 1), 0) := by
  intro fs
  induction fs with
  | nil =>
    intro i after out _
    have e : lineW ([] : List Fld) false ++ [32, 59, 32, 120] = [32, 59, 32, 120] := rfl
    rw [e]
    unfold fieldsL
    rw [List.length_cons, fieldsF, if_pos (by decide), List.length_cons, fieldsF, if_neg (by decide), if_pos rfl, placeF, List.append_nil]
  | cons f fs ih =>
    intro i after out h
    have hl : lineW (f :: fs) false ++ [32, 59, 32, 120] = 32 :: (fieldW f ++ (lineW fs false ++ [32, 59, 32, 120])) := by rw [lineW]; simp
    have hstep : fieldsL (lineW (f :: fs) false ++ [32, 59, 32, 120]) i after out = fieldsL (fieldW f ++ (lineW fs false ++ [32, 59, 32, 120])) (i + 1) false out := by
      unfold fieldsL
      rw [hl, List.length_cons, fieldsF, if_pos (by decide)]
    have hh : ∀ x, (lineW fs false ++ [32, 59, 32, 120]).head? = some x → x = 32 := by
      intro x hx
      cases fs with
      | nil => simp [lineW] at hx; exact hx.symm
      | cons g fs => rw [lineW] at hx; simp at hx; exact hx.symm
    rw [hstep, fieldsL_field f _ _ _ (h f (by simp)) hh, ih _ _ _ fun g hg => h g (by simp [hg])]
    rw [placeF]
    simp [Nat.add_assoc]
theorem fieldsS_lineC (fs : List Fld) (h0 : fs ≠ []) (h : ∀ f ∈ fs, okF f = true) : fieldsS (lineW fs true ++ [32, 59, 32, 120]) = (placeF fs 0, 0) := by
  show fieldsL (lineW fs true ++ [32, 59, 32, 120]) 0 false [] = _
  cases fs with
  | nil => exact absurd rfl h0
  | cons f fs =>
    have hl : lineW (f :: fs) true ++ [32, 59, 32, 120] = fieldW f ++ (lineW fs false ++ [32, 59, 32, 120]) := by rw [lineW]; simp
    have hh : ∀ x, (lineW fs false ++ [32, 59, 32, 120]).head? = some x → x = 32 := by
      intro x hx
      cases fs with
      | nil => simp [lineW] at hx; exact hx.symm
      | cons g fs => rw [lineW] at hx; simp at hx; exact hx.symm
    rw [hl, fieldsL_field f _ _ _ (h f (by simp)) hh, fieldsL_restC _ _ _ _ fun g hg => h g (by simp [hg])]
    rw [placeF]
    simp
theorem splitF_nil (ps : List (List UInt8)) (n : Int) (out : List Lin) (ds : List Dia) : splitF ([] :: ps) n out ds = splitF ps (n + 1) out ds := by
  have : (fieldsS []) = ([], 0) := rfl
  rw [splitF, if_neg (by simp), this, if_neg (by simp), if_neg (by simp)]
theorem splitF_backC : ∀ (ls : List Lin) (n : Int) (out : List Lin) (ds : List Dia), (∀ x ∈ ls, LineGood x) → splitF (pieces 10 (writeC ls)) n out ds = (out ++ backC ls n, ds) := by
  intro ls
  induction ls with
  | nil =>
    intro n out ds _
    have : pieces 10 (writeC []) = [[]] := rfl
    rw [this, splitF_nil, splitF, backC, List.append_nil]
  | cons x ls ih =>
    intro n out ds h
    obtain ⟨⟨h1, h2, _⟩, h3⟩ := h x (by simp)
    have hw : writeC (x :: ls) = (lineW x.fields true ++ [32, 59, 32, 120]) ++ 10 :: ([] ++ 10 :: writeC ls) := by
      rw [writeC]; unfold cX; simp
    have hn : (10 : UInt8) ∉ lineW x.fields true ++ [32, 59, 32, 120] := by
      intro hm
      rcases List.mem_append.1 hm with hm | hm
      · exact lineW_no10 _ _ h2 hm
      · revert hm; decide
    rw [hw, pieces_line _ _ hn, pieces_line _ _ (by simp), splitF, if_neg (by rw [List.length_append]; simp; omega), fieldsS_lineC _ h1 h2]
    have hne : placeF x.fields 0 ≠ [] := fun e => h1 (List.eq_nil_of_length_eq_zero (by rw [← placeF_len x.fields 0, e]; rfl))
    simp only [ne_eq, not_true, if_false, hne, not_false_eq_true, if_true]
    rw [splitF_nil, ih _ _ _ fun y hy => h y (by simp [hy]), backC, show n + 1 + 1 = n + 2 by omega]
    simp
theorem writeC_len : ∀ (ls : List Lin), (∀ x ∈ ls, LineGood x) → (writeC ls).length ≤ 90 * ls.length := by
  intro ls
  induction ls with
  | nil => intro _; simp [writeC]
  | cons x ls ih =>
    intro h
    have h1 := (h x (by simp)).2
    have h2 := ih fun y hy => h y (by simp [hy])
    have h3 : cX.length = 6 := rfl
    rw [writeC]
    simp only [List.length_append, List.length_cons]
    omega
/-- The text with comments and blank lines. -/
def textC5 (r : Rul) : List UInt8 := cTop ++ subst1 10 cX (writeS (rulLines r))
theorem textC5_len {r : Rul} (hc : checkR r = 0) : (textC5 r).length ≤ 2000 := by
  obtain ⟨h1, h2⟩ := rulLines_good hc
  unfold textC5
  rw [subst_write _ fun x hx => (h1 x hx).1, List.length_append]
  have := writeC_len _ h1
  have h3 : cTop.length = 9 := rfl
  omega
theorem parseR_textC {r : Rul} (hc : checkR r = 0) : parseR (textC5 r) = (r, []) := by
  obtain ⟨h1, h2⟩ := rulLines_good hc
  have hl := textC5_len hc
  refine parseR_placed hc (L := backC (rulLines r) 3) ?_ (placed_backC _ _)
  unfold splitS
  rw [if_neg (by omega)]
  unfold textC5
  rw [subst_write _ fun x hx => (h1 x hx).1]
  have e : cTop ++ writeC (rulLines r) = [59, 32, 114, 117, 108, 101, 115] ++ 10 :: ([] ++ 10 :: writeC (rulLines r)) := by unfold cTop; simp
  rw [e, pieces_line _ _ (by decide), pieces_line _ _ (by simp), splitF, if_neg (by simp)]
  have f1 : fieldsS [59, 32, 114, 117, 108, 101, 115] = ([], 0) := rfl
  rw [f1, if_neg (by simp), if_neg (by simp), splitF_nil, splitF_backC _ _ _ _ h1]
  rfl
theorem parseR_good {s : List UInt8} (h : (parseR s).2 = []) : checkR (parseR s).1 = 0 := by
  unfold parseR at *
  by_cases h1 : (splitS s).2 ≠ []
  · rw [if_pos h1] at h; exact absurd h h1
  · rw [if_neg h1] at h ⊢
    cases hl : linesR (splitS s).1 0 noRul with
    | inr d => rw [hl] at h; simp at h
    | inl r =>
      rw [hl] at h
      dsimp only at h ⊢
      by_cases h2 : (splitS s).1.length < 12
      · rw [if_pos h2] at h; simp at h
      · rw [if_neg h2] at h ⊢
        by_cases h3 : checkR r ≠ 0
        · rw [if_pos h3] at h; simp at h
        · rw [if_neg h3]; simpa using h3
theorem parseR_bad {s : List UInt8} (h : (parseR s).2 ≠ []) : (parseR s).1 = noRul ∧ (parseR s).2.length ≤ 50 := by
  unfold parseR at *
  by_cases h1 : (splitS s).2 ≠ []
  · rw [if_pos h1]; exact ⟨rfl, (splitS_ok s).2.2⟩
  · rw [if_neg h1] at h ⊢
    cases hl : linesR (splitS s).1 0 noRul with
    | inr d => exact ⟨rfl, by simp⟩
    | inl r =>
      rw [hl] at h
      dsimp only at h ⊢
      by_cases h2 : (splitS s).1.length < 12
      · rw [if_pos h2]; exact ⟨rfl, by simp⟩
      · rw [if_neg h2] at h ⊢
        by_cases h3 : checkR r ≠ 0
        · rw [if_pos h3]; exact ⟨rfl, by simp⟩
        · rw [if_neg h3] at h; exact absurd rfl h
end
end Go.Proofs.Ytajcnjehjkpieaa
