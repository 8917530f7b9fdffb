/- Contracts of text.word and text.Name. No conditions beyond the string's own bound. -/
import Derived.Test.YtoeeodemimndlaaGreatDoorT1
import Derived.Test.YtoeeodemimndlaaGreatDoorP5
set_option linter.unusedSimpArgs false
set_option linter.unusedVariables false
namespace Go.Proofs.YtoeeodemimndlaaGreatDoor
open Go.RowKit

theorem conv_any (s : ByteArray) (w : World) : ∃ W1 cap, (convert 9 81 (.string s)).run Tryz.prog w = .ok (.slice (some ⟨w.heap.size, 0, none⟩) s.size cap) W1 ∧
    (∀ j (h : j < s.size), W1.cell? ⟨w.heap.size, j, none⟩ = some (.int .u8 (s[j].toNat : Int))) ∧ Below w.heap.size w W1 := by
  refine ⟨_, _, Lib.run_convert_string_bytes (P := Tryz.prog) w 9 81 5 s Tryz.underlying9 Tryz.underlying81 Tryz.underlying5, fun j h => ?_, ?_⟩
  · rw [Lib.bytesWorld_cell w 5 s j h]
    have : j < s.data.toList.length := by simpa using h
    rw [List.getD_eq_getElem?_getD, List.getElem?_eq_getElem this]; rfl
  · exact ⟨rfl, rfl, rfl, by rw [Lib.bytesWorld_size]; omega, fun k hk => Lib.bytesWorld_at_old w _ s k hk⟩

theorem wordS_false (s : ByteArray) (k : Nat) (h : k < s.size) (hw : wordB s[k] = false) : wordS s.data.toList = false := by
  unfold wordS
  have : s.data.toList.all wordB = false := by
    rw [List.all_eq_false]; exact ⟨s[k], by simp [ByteArray.getElem_eq_getElem_data], by simp [hw]⟩
  simp [this]
theorem wordS_true (s : ByteArray) (h : (s.data.toList.take s.size).all wordB = true) : wordS s.data.toList = !s.data.toList.isEmpty := by
  unfold wordS
  rw [List.take_of_length_le (by simp)] at h
  simp [h]

theorem letterB_iff (c : UInt8) : letterB c = decide (65 ≤ (c.toNat : Int) ∧ (c.toNat : Int) ≤ 90) := by
  rw [Bool.eq_iff_iff]; simp [letterB, UInt8.le_iff_toNat_le]; omega
theorem tailB_iff (c : UInt8) : tailB c = decide ((65 ≤ (c.toNat : Int) ∧ (c.toNat : Int) ≤ 90) ∨ (c.toNat : Int) = 95 ∨ (c.toNat : Int) = 45 ∨ (48 ≤ (c.toNat : Int) ∧ (c.toNat : Int) ≤ 57)) := by
  rw [Bool.eq_iff_iff]; simp [tailB, letterB, UInt8.le_iff_toNat_le, ← UInt8.toNat_inj]; omega
def nameOk (l : List UInt8) (j : Nat) : Bool := match l[j]? with | some c => if j = 0 then letterB c else tailB c | none => true
theorem nameS_eq (l : List UInt8) : nameS l = true ↔ (∀ j, nameOk l j = true) ∧ 1 ≤ l.length ∧ l.length ≤ 16 := by
  cases l with
  | nil => simp [nameS]
  | cons c l =>
    simp only [nameS, Bool.and_eq_true, List.all_eq_true, decide_eq_true_eq, List.length_cons]
    constructor
    · rintro ⟨⟨h1, h2⟩, h3⟩
      refine ⟨fun j => ?_, by omega, by omega⟩
      cases j with
      | zero => simpa [nameOk] using h1
      | succ j =>
        simp only [nameOk, List.getElem?_cons_succ]
        cases hj : l[j]? with
        | none => rfl
        | some d => simpa using h2 d (List.mem_of_getElem? hj)
    · rintro ⟨h1, _, h3⟩
      refine ⟨⟨by simpa [nameOk] using h1 0, fun d hd => ?_⟩, by omega⟩
      obtain ⟨j, hj⟩ := List.mem_iff_getElem?.1 hd
      simpa [nameOk, hj] using h1 (j + 1)
theorem nameS_bad (s : ByteArray) (k : Nat) (hk : k < s.size) (h : nameOk s.data.toList k = false) : nameS s.data.toList = false := by
  rw [Bool.eq_false_iff]; intro hn; rw [nameS_eq] at hn; rw [hn.1 k] at h; cases h
theorem nameS_end (s : ByteArray) (h : ∀ j, j < s.size → nameOk s.data.toList j = true) : nameS s.data.toList = (decide (1 ≤ s.size) && decide (s.size ≤ 16)) := by
  have hl : s.data.toList.length = s.size := by simp
  rw [Bool.eq_iff_iff, nameS_eq, hl]
  simp only [Bool.and_eq_true, decide_eq_true_eq]
  refine ⟨fun h => ⟨h.2.1, h.2.2⟩, fun hh => ⟨fun j => ?_, hh⟩⟩
  by_cases hj : j < s.size
  · exact h j hj
  · have : s.data.toList[j]? = none := List.getElem?_eq_none (by omega)
    simp [nameOk, this]
theorem nameOk_at (s : ByteArray) (k : Nat) (hk : k < s.size) : nameOk s.data.toList k = if k = 0 then letterB s[k] else tailB s[k] := by
  have : s.data.toList[k]? = some s[k] := by
    rw [List.getElem?_eq_getElem (by simpa using hk)]; rfl
  simp [nameOk, this]

theorem nameOk_next {l : List UInt8} {k : Nat} {b : Bool} (h : Hid (∀ j, j < k → nameOk l j = true)) (h1 : nameOk l k = b) (hb : b = true) : Hid (∀ j, j < k + 1 → nameOk l j = true) := by
  intro j hj
  rcases Nat.lt_or_ge j k with h2 | h2
  · exact h j h2
  · obtain rfl : j = k := by omega
    rw [h1, hb]

end Go.Proofs.YtoeeodemimndlaaGreatDoor
