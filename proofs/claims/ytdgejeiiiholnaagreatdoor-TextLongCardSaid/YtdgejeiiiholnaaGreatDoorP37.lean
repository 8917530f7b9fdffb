/- Plain law for TextLong: what a line of n letters a gives, and a source that is too long. -/
import Derived.Test.YtdgejeiiiholnaaGreatDoorP33
set_option linter.unusedSimpArgs false
set_option linter.unusedVariables false
namespace Go.Proofs.YtdgejeiiiholnaaGreatDoor

theorem pieces_as (n : Nat) : pieces 10 (List.replicate n (97 : UInt8)) = [List.replicate n 97] := by
  induction n with
  | zero => rfl
  | succ n ih => rw [List.replicate_succ, pieces, if_neg (by decide), ih]
theorem take_as (n : Nat) : (List.replicate n (97 : UInt8)).takeWhile wordB = List.replicate n 97 := by
  induction n with
  | zero => rfl
  | succ n ih => rw [List.replicate_succ, List.takeWhile_cons, if_pos (by decide), ih]
theorem drop_as (n : Nat) : (List.replicate n (97 : UInt8)).dropWhile wordB = [] := by
  induction n with
  | zero => rfl
  | succ n ih => rw [List.replicate_succ, List.dropWhile_cons, if_pos (by decide), ih]
theorem fieldsS_as (n : Nat) (h : 0 < n) : fieldsS (List.replicate n (97 : UInt8)) = ([⟨List.replicate n 97, 1, false⟩], 0) := by
  obtain ⟨m, rfl⟩ : ∃ m, n = m + 1 := ⟨n - 1, by omega⟩
  unfold fieldsS
  rw [List.length_replicate]
  conv => lhs; arg 2; rw [List.replicate_succ]
  rw [fieldsF, if_neg (by decide), if_neg (by decide), if_neg (by simp), if_neg (by decide), ← List.replicate_succ, take_as, drop_as]
  rw [if_neg (by simp)]
  cases m with
  | zero => rw [fieldsF]; rfl
  | succ m => rw [fieldsF]; · rfl
              · intro h'; cases h'
theorem splitS_as_long (n : Nat) (h : 1000 < n) (h2 : n ≤ 262144) : splitS (List.replicate n (97 : UInt8)) = ([], [⟨1, 1001, 9⟩]) := by
  unfold splitS
  rw [List.length_replicate, if_neg (by omega), pieces_as, splitF, List.length_replicate, if_pos h, splitF]
  rfl
theorem splitS_as (n : Nat) (h : 0 < n) (h2 : n ≤ 1000) : splitS (List.replicate n (97 : UInt8)) = ([⟨1, [⟨List.replicate n 97, 1, false⟩]⟩], []) := by
  unfold splitS
  rw [List.length_replicate, if_neg (by omega), pieces_as, splitF, List.length_replicate, if_neg (by omega), fieldsS_as n h, if_neg (by simp), if_pos (by simp), splitF]
  rfl
theorem splitS_big (l : List UInt8) (h : 262144 < l.length) : splitS l = ([], [⟨1, 1, 9⟩]) := by unfold splitS; rw [if_pos h]
end Go.Proofs.YtdgejeiiiholnaaGreatDoor
