/- Plain specifications of package text's byte level; no program in sight. -/
import Derived.Test.YtoeeodemimndlaaGreatDoorR
import Derived.Lib.Strings
import Derived.Lib.Split
import Derived.Lib.SplitLaws
import Derived.Lib.Replace
import Derived.Lib.CountLaws
set_option linter.unusedSimpArgs false
set_option linter.unusedVariables false
namespace Go.Proofs.YtoeeodemimndlaaGreatDoor

def whiteB (c : UInt8) : Bool := c == 9 || c == 32
def printedB (c : UInt8) : Bool := 32 ≤ c && c ≤ 126
def wordB (c : UInt8) : Bool := 32 < c && c ≤ 126 && c != 34 && c != 59

theorem drop_get {α : Type} {l : List α} {k : Nat} (h : k < l.length) : l.drop k = l[k] :: l.drop (k + 1) := List.drop_eq_getElem_cons h
theorem drop_cons (s : ByteArray) (k : Nat) (h : k < s.size) : s.data.toList.drop k = s[k] :: s.data.toList.drop (k + 1) := by
  rw [List.drop_eq_getElem_cons (by simpa using h)]; rfl
theorem drop_end (s : ByteArray) (k : Nat) (h : s.size ≤ k) : s.data.toList.drop k = [] := List.drop_of_length_le (by simpa using h)
theorem take_snoc (s : ByteArray) (k : Nat) (h : k < s.size) : s.data.toList.take (k + 1) = s.data.toList.take k ++ [s[k]] := by
  rw [List.take_succ_eq_append_getElem (by simpa using h)]; rfl

/-- The rest of a quoted string: what is left of the line, the index of its first byte, what was read; the text, the index behind it, true; or the index of the wrong byte, false. -/
def quotedS : List UInt8 → Nat → List UInt8 → List UInt8 × Nat × Bool
  | [], j, _ => ([], j, false)
  | c :: l, j, acc =>
    if c = 34 then
      match l with
      | [] => (acc, j + 1, true)
      | d :: l' => if d = 34 then quotedS l' (j + 2) (acc ++ [34]) else (acc, j + 1, true)
    else if printedB c then quotedS l (j + 1) (acc ++ [c]) else ([], j, false)

section
variable (s : ByteArray) (j : Nat) (acc : List UInt8)
def quotedAt : List UInt8 × Nat × Bool := quotedS (s.data.toList.drop j) j acc
theorem quoted_end (h : s.size = j) : quotedAt s j acc = ([], s.size, false) := by
  unfold quotedAt; rw [drop_end s j (by omega), h]; rfl
theorem quoted_last (h : j < s.size) (hc : s[j] = 34) (h2 : j + 1 = s.size) : quotedAt s j acc = (acc, j + 1, true) := by
  unfold quotedAt; rw [drop_cons s j h, drop_end s (j + 1) (by omega), quotedS, if_pos hc]
theorem quoted_close (h : j < s.size) (hc : s[j] = 34) (h2 : j + 1 < s.size) (hd : s[j + 1] ≠ 34) : quotedAt s j acc = (acc, j + 1, true) := by
  unfold quotedAt; rw [drop_cons s j h, drop_cons s (j + 1) h2, quotedS, if_pos hc]; simp only [if_neg hd]
theorem quoted_two (h : j < s.size) (hc : s[j] = 34) (h2 : j + 1 < s.size) (hd : s[j + 1] = 34) : quotedAt s j acc = quotedAt s (j + 2) (acc ++ [34]) := by
  unfold quotedAt; rw [drop_cons s j h, drop_cons s (j + 1) h2, quotedS, if_pos hc]; simp only [if_pos hd]
theorem quoted_bad (h : j < s.size) (hc : s[j] ≠ 34) (hp : printedB s[j] = false) : quotedAt s j acc = ([], j, false) := by
  unfold quotedAt; rw [drop_cons s j h, quotedS.eq_def]; simp only [if_neg hc, hp]; rfl
theorem quoted_step (h : j < s.size) (hc : s[j] ≠ 34) (hp : printedB s[j] = true) : quotedAt s j acc = quotedAt s (j + 1) (acc ++ [s[j]]) := by
  unfold quotedAt; rw [drop_cons s j h, quotedS.eq_def]; simp only [if_neg hc, hp, if_true]
end
end Go.Proofs.YtoeeodemimndlaaGreatDoor
namespace Go.Proofs.YtoeeodemimndlaaGreatDoor

structure Fld where
  text : List UInt8
  col : Int
  quoted : Bool
deriving DecidableEq
structure Lin where
  num : Int
  fields : List Fld
deriving DecidableEq
structure Dia where
  line : Int
  col : Int
  code : Int
deriving DecidableEq

/-- What is left of a line (its first byte has index i), whether a quoted string has just ended, the fields so far; the fields, and the column of the byte that cannot be accepted (0: none). -/
def fieldsF : Nat → List UInt8 → Nat → Bool → List Fld → List Fld × Nat
  | 0, _, _, _, out => (out, 0)
  | _, [], _, _, out => (out, 0)
  | n + 1, c :: l, i, after, out =>
    if whiteB c then fieldsF n l (i + 1) false out
    else if c = 59 then (out, 0)
    else if after then ([], i + 1)
    else if c = 34 then
      if (quotedS l (i + 1) []).2.2 then fieldsF n (l.drop ((quotedS l (i + 1) []).2.1 - (i + 1))) (quotedS l (i + 1) []).2.1 true (out ++ [⟨(quotedS l (i + 1) []).1, (i : Int) + 1, true⟩])
      else ([], (quotedS l (i + 1) []).2.1 + 1)
    else if ((c :: l).takeWhile wordB).length = 0 ∨ ((c :: l).dropWhile wordB).head? = some 34 then ([], i + ((c :: l).takeWhile wordB).length + 1)
    else fieldsF n ((c :: l).dropWhile wordB) (i + ((c :: l).takeWhile wordB).length) false (out ++ [⟨(c :: l).takeWhile wordB, (i : Int) + 1, false⟩])

theorem quotedS_len (n : Nat) : ∀ (l : List UInt8), l.length ≤ n → ∀ (j : Nat) (acc : List UInt8),
    j ≤ (quotedS l j acc).2.1 ∧ (quotedS l j acc).2.1 ≤ j + l.length ∧ ((quotedS l j acc).2.2 = true → j + 1 ≤ (quotedS l j acc).2.1) := by
  induction n with
  | zero => intro l hl j acc; have : l = [] := List.eq_nil_of_length_eq_zero (by omega); subst this; simp [quotedS]
  | succ n ih =>
    intro l hl j acc
    cases l with
    | nil => simp [quotedS]
    | cons c l =>
      simp only [List.length_cons] at hl ⊢
      rw [quotedS.eq_def]; dsimp only
      split
      · cases l with
        | nil => simp
        | cons d l' =>
          simp only [List.length_cons] at hl ⊢
          split
          · have := ih l' (by omega) (j + 2) (acc ++ [34]); omega
          · exact ⟨by simp, by simp, by simp⟩
      · split
        · have := ih l (by omega) (j + 1) (acc ++ [c]); omega
        · simp

theorem quotedAt_len (s : ByteArray) (j : Nat) (acc : List UInt8) (h : j ≤ s.size) : j ≤ (quotedAt s j acc).2.1 ∧ (quotedAt s j acc).2.1 ≤ s.size ∧ ((quotedAt s j acc).2.2 = true → j + 1 ≤ (quotedAt s j acc).2.1) := by
  have h1 := quotedS_len _ (s.data.toList.drop j) (Nat.le_refl _) j acc
  have h2 : (s.data.toList.drop j).length = s.size - j := by simp
  rw [h2] at h1
  obtain ⟨a, b, c⟩ := h1
  exact ⟨a, Nat.le_trans b (by omega), c⟩
theorem drop_len {α : Type} (p : α → Bool) (l : List α) : (l.takeWhile p).length + (l.dropWhile p).length = l.length := by
  rw [← List.length_append, List.takeWhile_append_dropWhile]

/-- More fuel changes nothing. -/
theorem fieldsF_fuel (n : Nat) : ∀ (m : Nat) (l : List UInt8), l.length ≤ n → l.length ≤ m → ∀ (i : Nat) (after : Bool) (out : List Fld), fieldsF n l i after out = fieldsF m l i after out := by
  induction n with
  | zero =>
    intro m l hn hm i after out
    have : l = [] := List.eq_nil_of_length_eq_zero (by omega)
    subst this
    cases m <;> simp [fieldsF]
  | succ n ih =>
    intro m l hn hm i after out
    cases l with
    | nil => cases m <;> simp [fieldsF]
    | cons c l =>
      simp only [List.length_cons] at hn hm
      obtain ⟨m, rfl⟩ : ∃ k, m = k + 1 := ⟨m - 1, by omega⟩
      rw [fieldsF, fieldsF]
      have hq := quotedS_len l.length l (Nat.le_refl _) (i + 1) []
      have hd := drop_len wordB (c :: l)
      simp only [List.length_cons] at hd
      split
      · exact ih _ _ (by omega) (by omega) _ _ _
      · split
        · rfl
        · split
          · rfl
          · split
            · split
              · exact ih _ _ (by simp; omega) (by simp; omega) _ _ _
              · rfl
            · split
              · rfl
              · rename_i hne
                exact ih _ _ (by omega) (by omega) _ _ _

/-- The fields from index i on. -/
def fieldsAt (s : ByteArray) (i : Nat) (after : Bool) (out : List Fld) : List Fld × Nat := fieldsF (s.size - i) (s.data.toList.drop i) i after out
def fieldsS (l : List UInt8) : List Fld × Nat := fieldsF l.length l 0 false []
theorem fieldsAt_zero (s : ByteArray) : fieldsAt s 0 false [] = fieldsS s.data.toList := by
  unfold fieldsAt fieldsS; simp

section
variable (s : ByteArray) (i : Nat) (after : Bool) (out : List Fld)
theorem fieldsAt_end (h : s.size ≤ i) : fieldsAt s i after out = (out, 0) := by
  unfold fieldsAt; rw [drop_end s i h]; cases s.size - i <;> simp [fieldsF]
theorem fieldsAt_cons (h : i < s.size) : fieldsAt s i after out =
    if whiteB s[i] then fieldsAt s (i + 1) false out
    else if s[i] = 59 then (out, 0)
    else if after then ([], i + 1)
    else if s[i] = 34 then
      if (quotedAt s (i + 1) []).2.2 then fieldsAt s (quotedAt s (i + 1) []).2.1 true (out ++ [⟨(quotedAt s (i + 1) []).1, (i : Int) + 1, true⟩])
      else ([], (quotedAt s (i + 1) []).2.1 + 1)
    else if ((s.data.toList.drop i).takeWhile wordB).length = 0 ∨ (s.data.toList.drop (i + ((s.data.toList.drop i).takeWhile wordB).length)).head? = some 34 then ([], i + ((s.data.toList.drop i).takeWhile wordB).length + 1)
    else fieldsAt s (i + ((s.data.toList.drop i).takeWhile wordB).length) false (out ++ [⟨(s.data.toList.drop i).takeWhile wordB, (i : Int) + 1, false⟩]) := by
  have hl : (s.data.toList.drop i).length = s.size - i := by simp
  have hq := quotedS_len _ (s.data.toList.drop (i + 1)) (Nat.le_refl _) (i + 1) []
  have hql : (s.data.toList.drop (i + 1)).length = s.size - (i + 1) := by simp
  have hd := drop_len wordB (s.data.toList.drop i)
  have hdw : (s.data.toList.drop i).dropWhile wordB = s.data.toList.drop (i + ((s.data.toList.drop i).takeWhile wordB).length) := by
    rw [← List.drop_drop]
    conv => rhs; arg 2; rw [← List.takeWhile_append_dropWhile (p := wordB) (l := s.data.toList.drop i)]
    rw [List.drop_left]
  have hc := drop_cons s i h
  show fieldsF (s.size - i) (s.data.toList.drop i) i after out = _
  obtain ⟨n, hn⟩ : ∃ n, s.size - i = n + 1 := ⟨s.size - i - 1, by omega⟩
  rw [hn]
  conv => lhs; rw [hc]
  rw [fieldsF, ← hc]
  simp only [hdw]
  have hfuel : ∀ (k : Nat) (a : Bool) (o : List Fld), i + 1 ≤ k → fieldsF n (s.data.toList.drop k) k a o = fieldsAt s k a o := fun k a o hk =>
    fieldsF_fuel n (s.size - k) _ (by simp; omega) (by simp) _ _ _
  rw [hfuel (i + 1) _ _ (Nat.le_refl _)]
  split
  · rfl
  · split
    · rfl
    · split
      · rfl
      · split
        · show (if (quotedAt s (i + 1) []).2.2 = true then _ else _) = _
          split
          · have e : (s.data.toList.drop (i + 1)).drop ((quotedS (s.data.toList.drop (i + 1)) (i + 1) []).2.1 - (i + 1)) = s.data.toList.drop (quotedAt s (i + 1) []).2.1 := by
              rw [List.drop_drop]; congr 1; unfold quotedAt; omega
            rw [e]
            exact hfuel _ _ _ (by unfold quotedAt; omega)
          · rfl
        · split
          · rfl
          · rename_i hne
            exact hfuel _ _ _ (by omega)
end

section
variable (s : ByteArray) (k : Nat) (out : List Fld)
theorem fieldsAt_word_bad (j : Nat) (h : k < s.size) (h1 : whiteB s[k] = false) (h2 : s[k] ≠ 59) (h3 : s[k] ≠ 34) (hj : j = k + ((s.data.toList.drop k).takeWhile wordB).length) (hb : j = k ∨ (s.data.toList.drop j).head? = some 34) :
    fieldsAt s k false out = ([], j + 1) := by
  rw [fieldsAt_cons s k false out h, if_neg (by rw [h1]; simp), if_neg h2, if_neg (by simp), if_neg h3, ← hj, if_pos]
  rcases hb with hb | hb
  · exact .inl (by omega)
  · exact .inr hb
theorem fieldsAt_word (j : Nat) (h : k < s.size) (h1 : whiteB s[k] = false) (h2 : s[k] ≠ 59) (h3 : s[k] ≠ 34) (hj : j = k + ((s.data.toList.drop k).takeWhile wordB).length) (hb : j ≠ k) (hb' : (s.data.toList.drop j).head? ≠ some 34) :
    fieldsAt s k false out = fieldsAt s j false (out ++ [⟨(s.data.toList.drop k).takeWhile wordB, (k : Int) + 1, false⟩]) := by
  rw [fieldsAt_cons s k false out h, if_neg (by rw [h1]; simp), if_neg h2, if_neg (by simp), if_neg h3, ← hj, if_neg]
  rintro (h4 | h4)
  · omega
  · exact hb' h4
end

theorem fieldsF_len (n : Nat) : ∀ (l : List UInt8) (i : Nat) (after : Bool) (out : List Fld), ((fieldsF n l i after out).1).length ≤ out.length + l.length ∧ (fieldsF n l i after out).2 ≤ i + l.length + 1 := by
  induction n with
  | zero => intro l i after out; simp [fieldsF]
  | succ n ih =>
    intro l i after out
    cases l with
    | nil => simp [fieldsF]
    | cons c l =>
      have hq := quotedS_len l.length l (Nat.le_refl _) (i + 1) []
      have hd := drop_len wordB (c :: l)
      simp only [List.length_cons] at hd
      rw [fieldsF]
      simp only [List.length_cons]
      split
      · have := ih l (i + 1) false out; omega
      · split
        · simp <;> omega
        · split
          · simp <;> omega
          · split
            · split
              · rename_i hok
                have h3 := hq.2.2 hok
                have := ih (l.drop ((quotedS l (i + 1) []).2.1 - (i + 1))) (quotedS l (i + 1) []).2.1 true (out ++ [⟨(quotedS l (i + 1) []).1, (i : Int) + 1, true⟩])
                simp only [List.length_append, List.length_cons, List.length_nil, List.length_drop] at this
                omega
              · simp <;> omega
            · split
              · simp <;> omega
              · rename_i hne
                have := ih ((c :: l).dropWhile wordB) (i + ((c :: l).takeWhile wordB).length) false (out ++ [⟨(c :: l).takeWhile wordB, (i : Int) + 1, false⟩])
                simp only [List.length_append, List.length_cons, List.length_nil] at this
                omega
theorem fieldsS_len (l : List UInt8) : ((fieldsS l).1).length ≤ l.length ∧ (fieldsS l).2 ≤ l.length + 1 := by
  have := fieldsF_len l.length l 0 false []
  unfold fieldsS; simpa using this
/-- How many bytes of a word stand from index k on. -/
def wordLen (s : ByteArray) (k : Nat) : Nat := ((s.data.toList.drop k).takeWhile wordB).length
theorem takeWhile_len {α : Type} (p : α → Bool) (l : List α) (m : Nat) (x : α) (hm : m ≤ (l.takeWhile p).length) (hx : l[m]? = some x) : (p x = true → m + 1 ≤ (l.takeWhile p).length) ∧ (p x = false → m = (l.takeWhile p).length) := by
  induction l generalizing m with
  | nil => simp at hx
  | cons c l ih =>
    cases m with
    | zero =>
      simp at hx; subst hx
      cases h : p c <;> simp [List.takeWhile_cons, h]
    | succ m =>
      cases h : p c
      · simp [List.takeWhile_cons, h] at hm
      · simp [List.takeWhile_cons, h] at hm ⊢
        exact ih m hm (by simpa using hx)
theorem at_drop (s : ByteArray) (k j : Nat) (hk : k ≤ j) (hj : j < s.size) : (s.data.toList.drop k)[j - k]? = some s[j] := by
  rw [List.getElem?_drop, show k + (j - k) = j from by omega, List.getElem?_eq_getElem (by simpa using hj)]; rfl
theorem word_next (s : ByteArray) (k j : Nat) (hk : k ≤ j) (hj : j < s.size) (hm : j - k ≤ wordLen s k) (hw : wordB s[j] = true) : j + 1 - k ≤ wordLen s k := by
  have := (takeWhile_len wordB _ (j - k) s[j] hm (at_drop s k j hk hj)).1 hw
  unfold wordLen; omega
theorem word_stop (s : ByteArray) (k j : Nat) (hk : k ≤ j) (hj : j < s.size) (hm : j - k ≤ wordLen s k) (hw : wordB s[j] = false) : j = k + wordLen s k := by
  have := (takeWhile_len wordB _ (j - k) s[j] hm (at_drop s k j hk hj)).2 hw
  unfold wordLen; omega
theorem word_full (s : ByteArray) (k : Nat) (hk : k ≤ s.size) (hm : s.size - k ≤ wordLen s k) : s.size = k + wordLen s k := by
  have := drop_len wordB (s.data.toList.drop k)
  have h2 : (s.data.toList.drop k).length = s.size - k := by simp
  unfold wordLen at *; omega
theorem word_text (s : ByteArray) (k j : Nat) (hj : j = k + wordLen s k) : (s.extract k j).data.toList = (s.data.toList.drop k).takeWhile wordB := by
  rw [Lib.extract_data, hj, show k + wordLen s k - k = wordLen s k from by omega]
  unfold wordLen
  conv => lhs; arg 2; rw [← List.takeWhile_append_dropWhile (p := wordB) (l := s.data.toList.drop k)]
  rw [List.take_left]
theorem head_drop (s : ByteArray) (j : Nat) : (s.data.toList.drop j).head? = if h : j < s.size then some s[j] else none := by
  split
  · rename_i h; rw [drop_cons s j h]; rfl
  · rename_i h; rw [drop_end s j (by omega)]; rfl
end Go.Proofs.YtoeeodemimndlaaGreatDoor
namespace Go.Proofs.YtoeeodemimndlaaGreatDoor

/-- The pieces between the bytes c. -/
def pieces (c : UInt8) : List UInt8 → List (List UInt8)
  | [] => [[]]
  | b :: l => if b = c then [] :: pieces c l else match pieces c l with | [] => [[b]] | p :: ps => (b :: p) :: ps
theorem pieces_ne (c : UInt8) (l : List UInt8) : pieces c l ≠ [] := by
  cases l with
  | nil => simp [pieces]
  | cons b l => rw [pieces]; split; · simp
                · split <;> simp
theorem pieces_miss (c : UInt8) (l : List UInt8) (h : Lib.index l [c] = -1) : pieces c l = [l] := by
  induction l with
  | nil => rfl
  | cons b l ih =>
    rw [Lib.index] at h
    by_cases hb : b = c
    · subst hb; simp at h
    · have hp : [c].isPrefixOf (b :: l) = false := by
        have : (c == b) = false := beq_eq_false_iff_ne.2 (Ne.symm hb)
        simp [List.isPrefixOf, this]
      rw [hp] at h
      simp only [Bool.false_eq_true, if_false] at h
      split at h
      · rename_i hm
        rw [pieces, if_neg hb, ih (by simpa using hm)]
      · have := Lib.index_ge l [c]; omega
theorem pieces_hit (c : UInt8) (l : List UInt8) (i : Nat) (h : Lib.index l [c] = i) : pieces c l = l.take i :: pieces c (l.drop (i + 1)) := by
  induction l generalizing i with
  | nil => simp [Lib.index] at h
  | cons b l ih =>
    rw [Lib.index] at h
    by_cases hb : b = c
    · subst hb
      have : i = 0 := by simp at h; omega
      subst this
      simp [pieces]
    · have hp : [c].isPrefixOf (b :: l) = false := by
        have : (c == b) = false := beq_eq_false_iff_ne.2 (Ne.symm hb)
        simp [List.isPrefixOf, this]
      rw [hp] at h
      simp only [Bool.false_eq_true, if_false] at h
      split at h
      · omega
      · rename_i hm
        have hge := Lib.index_ge l [c]
        have hne : Lib.index l [c] ≠ -1 := by simpa using hm
        obtain ⟨j, hj⟩ : ∃ j : Nat, Lib.index l [c] = j := ⟨(Lib.index l [c]).toNat, by omega⟩
        have : i = j + 1 := by omega
        subst this
        rw [pieces, if_neg hb, ih j hj]
        simp
theorem splitB_pieces (c : UInt8) : ∀ (k : Nat) (s : ByteArray), Lib.countB s ⟨#[c]⟩ = k → (Lib.splitB ⟨#[c]⟩ 0 k s).map (·.data.toList) = pieces c s.data.toList := by
  intro k
  induction k with
  | zero =>
    intro s hk
    have hi : Lib.index s.data.toList [c] = -1 := by
      have hge := Lib.index_ge s.data.toList [c]
      rcases Int.lt_or_le (Lib.index s.data.toList [c]) 0 with h | h
      · omega
      · obtain ⟨i, hi⟩ : ∃ i : Nat, Lib.index s.data.toList [c] = i := ⟨(Lib.index s.data.toList [c]).toNat, by omega⟩
        have := Lib.countB_hit s ⟨#[c]⟩ i (Nat.le_refl 1) hi
        omega
    rw [Lib.splitB_zero, pieces_miss c _ hi]; rfl
  | succ k ih =>
    intro s hk
    have hge := Lib.index_ge s.data.toList [c]
    by_cases hm : Lib.index s.data.toList [c] = -1
    · have := Lib.countB_miss s ⟨#[c]⟩ hm; omega
    · obtain ⟨i, hi⟩ : ∃ i : Nat, Lib.index s.data.toList [c] = i := ⟨(Lib.index s.data.toList [c]).toNat, by omega⟩
      have hc := Lib.countB_hit s ⟨#[c]⟩ i (Nat.le_refl 1) hi
      have h1 : (⟨#[c]⟩ : ByteArray).size = 1 := rfl
      rw [h1] at hc
      rw [Lib.splitB_hit ⟨#[c]⟩ 0 k s i hi, pieces_hit c _ i hi, List.map_cons, h1, ih _ (by omega)]
      congr 1
      · rw [Lib.extract_data]; simp
      · rw [Lib.extract_data]
        congr 1
        rw [List.take_of_length_le (by simp)]

/-- The lines of the pieces: their number, the lines and the diagnostics so far. -/
def splitF : List (List UInt8) → Int → List Lin → List Dia → List Lin × List Dia
  | [], _, out, ds => (out, ds)
  | p :: ps, n, out, ds =>
    if 1000 < p.length then splitF ps (n + 1) out (if ds.length < 50 then ds ++ [⟨n, 1001, 9⟩] else ds)
    else if (fieldsS p).2 ≠ 0 then splitF ps (n + 1) out (if ds.length < 50 then ds ++ [⟨n, (fieldsS p).2, 4⟩] else ds)
    else if (fieldsS p).1 ≠ [] then splitF ps (n + 1) (out ++ [⟨n, (fieldsS p).1⟩]) ds
    else splitF ps (n + 1) out ds
def splitS (src : List UInt8) : List Lin × List Dia := if 262144 < src.length then ([], [⟨1, 1, 9⟩]) else splitF (pieces 10 src) 1 [] []
theorem pieces_len (c : UInt8) (l : List UInt8) : (pieces c l).length ≤ l.length + 1 := by
  induction l with
  | nil => simp [pieces]
  | cons b l ih =>
    rw [pieces]
    split
    · simp; omega
    · split
      · simp
      · rename_i h; rw [h] at ih; simp at ih ⊢; omega
end Go.Proofs.YtoeeodemimndlaaGreatDoor
namespace Go.Proofs.YtoeeodemimndlaaGreatDoor

def wordS (l : List UInt8) : Bool := l.all wordB && !l.isEmpty
/-- The bytes c of l, each replaced by n. -/
def subst1 (c : UInt8) (n : List UInt8) (l : List UInt8) : List UInt8 := l.flatMap fun b => if b = c then n else [b]
theorem subst1_miss (c : UInt8) (n l : List UInt8) (h : Lib.index l [c] = -1) : subst1 c n l = l := by
  have hp := pieces_miss c l h
  clear h
  have : ∀ b ∈ l, b ≠ c := by
    induction l with
    | nil => simp
    | cons b l ih =>
      rw [pieces] at hp
      split at hp
      · simp at hp
      · rename_i hb
        split at hp
        · rename_i he; exact absurd he (pieces_ne c l)
        · rename_i p ps he
          simp only [List.cons.injEq, true_and] at hp
          obtain ⟨rfl, rfl⟩ := hp
          intro x hx
          rcases List.mem_cons.1 hx with rfl | hx
          · exact hb
          · exact ih he x hx
  induction l with
  | nil => rfl
  | cons b l ih =>
    have hb := this b (by simp)
    unfold subst1 at *
    rw [List.flatMap_cons, if_neg hb]
    have := ih (by
      rw [pieces, if_neg hb] at hp
      split at hp
      · rename_i he; exact absurd he (pieces_ne c l)
      · rename_i p ps he
        simp only [List.cons.injEq, true_and] at hp
        obtain ⟨rfl, rfl⟩ := hp
        exact he) (fun x hx => this x (by simp [hx]))
    rw [this]; rfl
theorem subst1_hit (c : UInt8) (n l : List UInt8) (i : Nat) (h : Lib.index l [c] = i) : subst1 c n l = l.take i ++ n ++ subst1 c n (l.drop (i + 1)) := by
  induction l generalizing i with
  | nil => simp [Lib.index] at h
  | cons b l ih =>
    rw [Lib.index] at h
    by_cases hb : b = c
    · subst hb
      have : i = 0 := by simp at h; omega
      subst this
      simp [subst1]
    · have hp : [c].isPrefixOf (b :: l) = false := by
        have : (c == b) = false := beq_eq_false_iff_ne.2 (Ne.symm hb)
        simp [List.isPrefixOf, this]
      rw [hp] at h
      simp only [Bool.false_eq_true, if_false] at h
      split at h
      · omega
      · rename_i hm
        have hge := Lib.index_ge l [c]
        have hne : Lib.index l [c] ≠ -1 := by simpa using hm
        obtain ⟨j, hj⟩ : ∃ j : Nat, Lib.index l [c] = j := ⟨(Lib.index l [c]).toNat, by omega⟩
        have : i = j + 1 := by omega
        subst this
        have := ih j hj
        unfold subst1 at *
        rw [List.flatMap_cons, if_neg hb, this]
        simp
theorem replaceK_subst1 (c : UInt8) (n : List UInt8) : ∀ (k : Nat) (l : List UInt8), Lib.count l [c] = k → Lib.replaceK [c] n k l = subst1 c n l := by
  intro k
  induction k with
  | zero =>
    intro l hk
    have hge := Lib.index_ge l [c]
    by_cases hm : Lib.index l [c] = -1
    · rw [subst1_miss c n l hm]; rfl
    · obtain ⟨i, hi⟩ : ∃ i : Nat, Lib.index l [c] = i := ⟨(Lib.index l [c]).toNat, by omega⟩
      have := Lib.count_hit (by simp) hi; omega
  | succ k ih =>
    intro l hk
    have hge := Lib.index_ge l [c]
    by_cases hm : Lib.index l [c] = -1
    · have := Lib.count_miss hm; omega
    · obtain ⟨i, hi⟩ : ∃ i : Nat, Lib.index l [c] = i := ⟨(Lib.index l [c]).toNat, by omega⟩
      have hc := Lib.count_hit (by simp) hi
      have h1 : [c].length = 1 := rfl
      rw [h1] at hc
      rw [Lib.replaceK_hit [c] n k l i hi, subst1_hit c n l i hi, h1, ih _ (by omega)]
theorem replaceAll_subst1 (c : UInt8) (n l : List UInt8) (hn : [c] ≠ n) : Lib.replaceAll l [c] n = subst1 c n l := by
  unfold Lib.replaceAll Lib.replace
  rw [if_neg (by simpa using hn)]
  have : Lib.replaceNum l [c] (-1) = Lib.count l [c] := by unfold Lib.replaceNum; rw [if_pos (.inl (by decide))]
  rw [this]
  exact replaceK_subst1 c n _ l rfl
/-- A string as a quoted field. -/
def quoteS (l : List UInt8) : List UInt8 := 34 :: subst1 34 [34, 34] l ++ [34]
def fieldW (f : Fld) : List UInt8 := if f.quoted || !wordS f.text then quoteS f.text else f.text
def lineW : List Fld → Bool → List UInt8
  | [], _ => []
  | f :: fs, first => (if first then [] else [32]) ++ fieldW f ++ lineW fs false
def endW (fs : List Fld) : List UInt8 := if fs.isEmpty then [] else [10]
def writeS : List Lin → List UInt8
  | [] => []
  | x :: ls => lineW x.fields true ++ endW x.fields ++ writeS ls
theorem subst1_len (l : List UInt8) : l.length ≤ (subst1 34 [34, 34] l).length := by
  induction l with
  | nil => simp
  | cons b l ih =>
    unfold subst1 at *
    rw [List.flatMap_cons, List.length_append, List.length_cons]
    split
    · have : [34, 34].length = 2 := rfl
      omega
    · have : [b].length = 1 := rfl
      omega
theorem subst1_le (l : List UInt8) : (subst1 34 [34, 34] l).length ≤ 2 * l.length := by
  induction l with
  | nil => simp [subst1]
  | cons b l ih =>
    unfold subst1 at *
    rw [List.flatMap_cons, List.length_append, List.length_cons]
    split
    · have : [34, 34].length = 2 := rfl
      omega
    · have : [b].length = 1 := rfl
      omega
theorem quoteS_len (l : List UInt8) : l.length ≤ (quoteS l).length := by
  have := subst1_len l; unfold quoteS; rw [List.length_append, List.length_cons]; omega
theorem quoteS_le (l : List UInt8) : (quoteS l).length ≤ 2 * l.length + 2 := by
  have := subst1_le l; unfold quoteS; rw [List.length_append, List.length_cons]; simp only [List.length_cons, List.length_nil]; omega
theorem fieldW_len (f : Fld) : f.text.length ≤ (fieldW f).length := by
  unfold fieldW; split
  · exact quoteS_len _
  · exact Nat.le_refl _
end Go.Proofs.YtoeeodemimndlaaGreatDoor
