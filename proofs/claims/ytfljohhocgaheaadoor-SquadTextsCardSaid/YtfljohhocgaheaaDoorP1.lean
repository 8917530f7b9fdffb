/- Plain specifications of package text's byte level; no program in sight. -/
import Derived.Test.YtfljohhocgaheaaDoorR
set_option linter.unusedSimpArgs false
set_option linter.unusedVariables false
namespace Go.Proofs.YtfljohhocgaheaaDoor

def whiteB (c : UInt8) : Bool := c == 9 || c == 32
def printedB (c : UInt8) : Bool := 32 ≤ c && c ≤ 126
def wordB (c : UInt8) : Bool := 32 < c && c ≤ 126 && c != 34 && c != 59

theorem drop_get {α : Type} {l : List α} {k : Nat} (h : k < l.length) : l.drop k = l[k] :: l.drop (k + 1) := List.drop_eq_getElem_cons h
theorem drop_cons (s : ByteArray) (k : Nat) (h : k < s.size) : s.data.toList.drop k = s[k] :: s.data.toList.drop (k + 1) := by
  rw [List.drop_eq_getElem_cons (by simpa using h)]; rfl
theorem drop_end (s : ByteArray) (k : Nat) (h : s.size ≤ k) : s.data.toList.drop k = [] := List.drop_of_length_le (by simpa using h)
theorem take_snoc (s : ByteArray) (k : Nat) (h : k < s.size) : s.data.toList.take (k + 1) = s.data.toList.take k ++ [s[k]] := by
  rw [List.take_succ_eq_append_getElem (by simpa using h)]; rfl

/-- The rest of a quoted string: what is left of the line, the index of its first byte, what was read; the text, the index behind it, true; or the index of the wrong byte, false. -/
def quotedS : List UInt8 → Nat → List UInt8 → List UInt8 × Nat × Bool
  | [], j, _ => ([], j, false)
  | c :: l, j, acc =>
    if c = 34 then
      match l with
      | [] => (acc, j + 1, true)
      | d :: l' => if d = 34 then quotedS l' (j + 2) (acc ++ [34]) else (acc, j + 1, true)
    else if printedB c then quotedS l (j + 1) (acc ++ [c]) else ([], j, false)

section
variable (s : ByteArray) (j : Nat) (acc : List UInt8)
def quotedAt : List UInt8 × Nat × Bool := quotedS (s.data.toList.drop j) j acc
theorem quoted_end (h : s.size = j) : quotedAt s j acc = ([], s.size, false) := by
  unfold quotedAt; rw [drop_end s j (by omega), h]; rfl
theorem quoted_last (h : j < s.size) (hc : s[j] = 34) (h2 : j + 1 = s.size) : quotedAt s j acc = (acc, j + 1, true) := by
  unfold quotedAt; rw [drop_cons s j h, drop_end s (j + 1) (by omega), quotedS, if_pos hc]
theorem quoted_close (h : j < s.size) (hc : s[j] = 34) (h2 : j + 1 < s.size) (hd : s[j + 1] ≠ 34) : quotedAt s j acc = (acc, j + 1, true) := by
  unfold quotedAt; rw [drop_cons s j h, drop_cons s (j + 1) h2, quotedS, if_pos hc]; simp only [if_neg hd]
theorem quoted_two (h : j < s.size) (hc : s[j] = 34) (h2 : j + 1 < s.size) (hd : s[j + 1] = 34) : quotedAt s j acc = quotedAt s (j + 2) (acc ++ [34]) := by
  unfold quotedAt; rw [drop_cons s j h, drop_cons s (j + 1) h2, quotedS, if_pos hc]; simp only [if_pos hd]
theorem quoted_bad (h : j < s.size) (hc : s[j] ≠ 34) (hp : printedB s[j] = false) : quotedAt s j acc = ([], j, false) := by
  unfold quotedAt; rw [drop_cons s j h, quotedS.eq_def]; simp only [if_neg hc, hp]; rfl
theorem quoted_step (h : j < s.size) (hc : s[j] ≠ 34) (hp : printedB s[j] = true) : quotedAt s j acc = quotedAt s (j + 1) (acc ++ [s[j]]) := by
  unfold quotedAt; rw [drop_cons s j h, quotedS.eq_def]; simp only [if_neg hc, hp, if_true]
end
end Go.Proofs.YtfljohhocgaheaaDoor
