/- The contracts of the bytes, of word and of Name (once T1, T2). -/
import Derived.Test.YtajcnjehjkpieaaChecked
import Derived.Test.YtajcnjehjkpieaaPP
set_option linter.unusedSimpArgs false
set_option linter.unusedVariables false
namespace Go.Proofs.Ytajcnjehjkpieaa
section
/-! part T1 -/
open Go.RowKit

/-- The element types' rows of the program's table. -/
theorem E_byte : ElemOf Try.prog 68 5 1 1 := ElemOf.mk (z := .int .u8 0) Try.underlying68 (by kernel_rfl) rfl (by decide)
def elFld (_ : World) (_ : Nat → Prop) (cs : List Value) (f : Fld) : Prop := cs = [.string (S f.text), .int .i64 f.col, .bool f.quoted]
theorem elFld_good : Good elFld := ⟨fun h _ _ => h⟩
def elLin (w : World) (F : Nat → Prop) (cs : List Value) (x : Lin) : Prop := ∃ v, cs = [.int .i64 x.num, v] ∧ Sl 3 elFld w F v x.fields
theorem elLin_good : Good elLin := ⟨fun ⟨v, h1, h2⟩ hs hG => ⟨v, h1, h2.keep elFld_good hs hG⟩⟩
def elDia (_ : World) (_ : Nat → Prop) (cs : List Value) (d : Dia) : Prop := cs = [.int .i64 d.line, .int .i64 d.col, .int .i64 d.code]
theorem elDia_good : Good elDia := ⟨fun h _ _ => h⟩
end

section
/-! part T2 -/
open Go.RowKit

theorem conv_any (s : ByteArray) (w : World) : ∃ W1 cap, (convert 9 68 (.string s)).run Try.prog w = .ok (.slice (some ⟨w.heap.size, 0, none⟩) s.size cap) W1 ∧
    (∀ j (h : j < s.size), W1.cell? ⟨w.heap.size, j, none⟩ = some (.int .u8 (s[j].toNat : Int))) ∧ Below w.heap.size w W1 := by
  refine ⟨_, _, Lib.run_convert_string_bytes (P := Try.prog) w 9 68 5 s Try.underlying9 Try.underlying68 Try.underlying5, fun j h => ?_, ?_⟩
  · rw [Lib.bytesWorld_cell w 5 s j h]
    have : j < s.data.toList.length := by simpa using h
    rw [List.getD_eq_getElem?_getD, List.getElem?_eq_getElem this]; rfl
  · exact ⟨rfl, rfl, rfl, by rw [Lib.bytesWorld_size]; omega, fun k hk => Lib.bytesWorld_at_old w _ s k hk⟩

theorem wordS_false (s : ByteArray) (k : Nat) (h : k < s.size) (hw : wordB s[k] = false) : wordS s.data.toList = false := by
  unfold wordS
  have : s.data.toList.all wordB = false := by
    rw [List.all_eq_false]; exact ⟨s[k], by simp [ByteArray.getElem_eq_getElem_data], by simp [hw]⟩
  simp [this]
theorem wordS_true (s : ByteArray) (h : (s.data.toList.take s.size).all wordB = true) : wordS s.data.toList = !s.data.toList.isEmpty := by
  unfold wordS
  rw [List.take_of_length_le (by simp)] at h
  simp [h]

theorem letterB_iff (c : UInt8) : letterB c = decide (65 ≤ (c.toNat : Int) ∧ (c.toNat : Int) ≤ 90) := by
  rw [Bool.eq_iff_iff]; simp [letterB, UInt8.le_iff_toNat_le]; omega
theorem tailB_iff (c : UInt8) : tailB c = decide ((65 ≤ (c.toNat : Int) ∧ (c.toNat : Int) ≤ 90) ∨ (c.toNat : Int) = 95 ∨ (c.toNat : Int) = 45 ∨ (48 ≤ (c.toNat : Int) ∧ (c.toNat : Int) ≤ 57)) := by
  rw [Bool.eq_iff_iff]; simp [tailB, letterB, UInt8.le_iff_toNat_le, ← UInt8.toNat_inj]; omega
def nameOk (l : List UInt8) (j : Nat) : Bool := match l[j]? with | some c => if j = 0 then letterB c else tailB c | none => true
theorem nameS_eq (l : List UInt8) : nameS l = true ↔ (∀ j, nameOk l j = true) ∧ 1 ≤ l.length ∧ l.length ≤ 16 := by
  cases l with
  | nil => simp [nameS]
  | cons c l =>
    simp only [nameS, Bool.and_eq_true, List.all_eq_true, decide_eq_true_eq, List.length_cons]
    constructor
    · rintro ⟨⟨h1, h2⟩, h3⟩
      refine ⟨fun j => ?_, by omega, by omega⟩
      cases j with
      | zero => simpa [nameOk] using h1
      | succ j =>
        simp only [nameOk, List.getElem?_cons_succ]
        cases hj : l[j]? with
        | none => rfl
        | some d => simpa using h2 d (List.mem_of_getElem? hj)
    · rintro ⟨h1, _, h3⟩
      refine ⟨⟨by simpa [nameOk] using h1 0, fun d hd => ?_⟩, by omega⟩
      obtain ⟨j, hj⟩ := List.mem_iff_getElem?.1 hd
      simpa [nameOk, hj] using h1 (j + 1)
theorem nameS_bad (s : ByteArray) (k : Nat) (hk : k < s.size) (h : nameOk s.data.toList k = false) : nameS s.data.toList = false := by
  rw [Bool.eq_false_iff]; intro hn; rw [nameS_eq] at hn; rw [hn.1 k] at h; cases h
theorem nameS_end (s : ByteArray) (h : ∀ j, j < s.size → nameOk s.data.toList j = true) : nameS s.data.toList = (decide (1 ≤ s.size) && decide (s.size ≤ 16)) := by
  have hl : s.data.toList.length = s.size := by simp
  rw [Bool.eq_iff_iff, nameS_eq, hl]
  simp only [Bool.and_eq_true, decide_eq_true_eq]
  refine ⟨fun h => ⟨h.2.1, h.2.2⟩, fun hh => ⟨fun j => ?_, hh⟩⟩
  by_cases hj : j < s.size
  · exact h j hj
  · have : s.data.toList[j]? = none := List.getElem?_eq_none (by omega)
    simp [nameOk, this]
theorem nameOk_at (s : ByteArray) (k : Nat) (hk : k < s.size) : nameOk s.data.toList k = if k = 0 then letterB s[k] else tailB s[k] := by
  have : s.data.toList[k]? = some s[k] := by
    rw [List.getElem?_eq_getElem (by simpa using hk)]; rfl
  simp [nameOk, this]

theorem nameOk_next {l : List UInt8} {k : Nat} {b : Bool} (h : Hid (∀ j, j < k → nameOk l j = true)) (h1 : nameOk l k = b) (hb : b = true) : Hid (∀ j, j < k + 1 → nameOk l j = true) := by
  intro j hj
  rcases Nat.lt_or_ge j k with h2 | h2
  · exact h j h2
  · obtain rfl : j = k := by omega
    rw [h1, hb]

set_option maxRecDepth 100000 in
set_option maxHeartbeats 400000 in
theorem text_Name (s : ByteArray) (w : World) (hs : s.size ≤ maxLen) :
    Calls Try.prog 16 #[.string s] w fun e w' => e = .returned (.bool (nameS s.data.toList)) ∧ Below w.heap.size w w' := by
  unfold maxLen at hs
  obtain ⟨W1, cap, hrun, hcell, hbel⟩ := conv_any s w
  have HB := Lib.hid hbel
  have HC := Lib.hid hcell
  clear hbel hcell
  go_enter Try.func16, Try.ntmps16
  go_wp2
  go_loop [9] (fun i => ∃ k : Nat, k ≤ s.size ∧ i = .int .i64 k ∧ Hid (∀ j, j < k → nameOk s.data.toList j = true)) (fun i => s.size - (intOf i).toNat)
  case atStart => exact ⟨0, Nat.zero_le _, rfl, fun j hj => absurd hj (by omega)⟩
  case round =>
    obtain ⟨k, hk, rfl, hall⟩ := hrel
    by_cases hlt : k < s.size
    · have hck := HC.out k hlt
      have hbad := Lib.hid (nameS_bad s k hlt)
      have hat := Lib.hid (nameOk_at s k hlt)
      generalize s[k] = c at *
      rcases Nat.eq_zero_or_pos k with h0 | h0
      · have hz : ((k : Int) == 0) = true := by rw [h0]; rfl
        have h0' := Lib.hid h0
        clear h0
        rcases (show (c.toNat : Int) < 65 ∨ (65 ≤ (c.toNat : Int) ∧ (c.toNat : Int) ≤ 90) ∨ 90 < (c.toNat : Int) from by omega) with hc | ⟨hc, hc'⟩ | hc
        all_goals ((first | (have e1 : decide ((65 : Int) ≤ (c.toNat : Int)) = true := decide_eq_true (by omega)) | (have e1 : decide ((65 : Int) ≤ (c.toNat : Int)) = false := decide_eq_false (by omega))); (first | (have e2 : decide ((c.toNat : Int) ≤ (90 : Int)) = true := decide_eq_true (by omega)) | (have e2 : decide ((c.toNat : Int) ≤ (90 : Int)) = false := decide_eq_false (by omega))); go_wp2)
        all_goals first
          | (go_ret; exact ⟨ret_b (hbad.out (by rw [hat.out, if_pos h0'.out, letterB_iff, decide_eq_false_iff_not]; omega)).symm, HB.out⟩)
          | (go_round
             case rel => exact ⟨k + 1, by omega, by go_num, nameOk_next hall hat.out (by rw [if_pos h0'.out, letterB_iff, decide_eq_true_eq]; omega)⟩
             case measure => simp [intOf]; omega)
      · have hz : ((k : Int) == 0) = false := by simp; omega
        rcases (show (c.toNat : Int) < 45 ∨ (45 ≤ (c.toNat : Int) ∧ (c.toNat : Int) ≤ 45) ∨ (46 ≤ (c.toNat : Int) ∧ (c.toNat : Int) ≤ 47) ∨ (48 ≤ (c.toNat : Int) ∧ (c.toNat : Int) ≤ 57) ∨ (58 ≤ (c.toNat : Int) ∧ (c.toNat : Int) ≤ 64) ∨ (65 ≤ (c.toNat : Int) ∧ (c.toNat : Int) ≤ 90) ∨ (91 ≤ (c.toNat : Int) ∧ (c.toNat : Int) ≤ 94) ∨ (95 ≤ (c.toNat : Int) ∧ (c.toNat : Int) ≤ 95) ∨ 95 < (c.toNat : Int) from by omega) with hc | ⟨hc, hc'⟩ | ⟨hc, hc'⟩ | ⟨hc, hc'⟩ | ⟨hc, hc'⟩ | ⟨hc, hc'⟩ | ⟨hc, hc'⟩ | ⟨hc, hc'⟩ | hc
        all_goals ((first | (have e1 : decide ((65 : Int) ≤ (c.toNat : Int)) = true := decide_eq_true (by omega)) | (have e1 : decide ((65 : Int) ≤ (c.toNat : Int)) = false := decide_eq_false (by omega))); (first | (have e2 : decide ((c.toNat : Int) ≤ (90 : Int)) = true := decide_eq_true (by omega)) | (have e2 : decide ((c.toNat : Int) ≤ (90 : Int)) = false := decide_eq_false (by omega))); (first | (have e3 : ((c.toNat : Int) != (95 : Int)) = true := by rw [bne_iff_ne]; omega) | (have e3 : ((c.toNat : Int) != (95 : Int)) = false := by rw [bne_eq_false_iff_eq]; omega)); (first | (have e4 : ((c.toNat : Int) != (45 : Int)) = true := by rw [bne_iff_ne]; omega) | (have e4 : ((c.toNat : Int) != (45 : Int)) = false := by rw [bne_eq_false_iff_eq]; omega)); (first | (have e5 : decide ((c.toNat : Int) < (48 : Int)) = true := decide_eq_true (by omega)) | (have e5 : decide ((c.toNat : Int) < (48 : Int)) = false := decide_eq_false (by omega))); (first | (have e6 : decide ((57 : Int) < (c.toNat : Int)) = true := decide_eq_true (by omega)) | (have e6 : decide ((57 : Int) < (c.toNat : Int)) = false := decide_eq_false (by omega))); go_wp2)
        all_goals first
          | (go_ret; exact ⟨ret_b (hbad.out (by rw [hat.out, if_neg (by omega), tailB_iff, decide_eq_false_iff_not]; omega)).symm, HB.out⟩)
          | (go_round
             case rel => exact ⟨k + 1, by omega, by go_num, nameOk_next hall hat.out (by rw [if_neg (by omega), tailB_iff, decide_eq_true_eq]; omega)⟩
             case measure => simp [intOf]; omega)
    · obtain rfl : k = s.size := by omega
      by_cases h1 : (1 : Int) ≤ (s.size : Int)
      all_goals by_cases h2 : (s.size : Int) ≤ 16
      all_goals go_wp2
      all_goals go_ret
      all_goals exact ⟨ret_b (by rw [nameS_end s hall.out, Bool.eq_iff_iff]; simp; omega), HB.out⟩
end
end Go.Proofs.Ytajcnjehjkpieaa
