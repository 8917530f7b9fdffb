/- The law's own walk: plain laws and the state. -/
import Derived.Test.YtajcnjehjkpieaaE14
set_option linter.unusedSimpArgs false
set_option linter.unusedVariables false
namespace Go.Proofs.Ytajcnjehjkpieaa
open Go.RowKit

theorem sus_bad {l : List Off} {p : List UInt8} {ms m : List Int} {e : Int} (h : susS l p ms = (m, e)) (he : e ≠ 0) : m = [] := by
  unfold susS at h
  by_cases h1 : conS l ≠ 0
  · rw [if_pos h1] at h; injection h with h _; exact h.symm
  rw [if_neg h1] at h
  by_cases h2 : matS ms ≠ 0
  · rw [if_pos h2] at h; injection h with h _; exact h.symm
  · rw [if_neg h2] at h; injection h with _ h; exact absurd h.symm he
theorem sus_ok {l : List Off} {p : List UInt8} {ms m : List Int} (h : susS l p ms = (m, 0)) : conS l = 0 ∧ (m.length : Int) ≤ 2 * ((totS l p).tdiv 4 + l.length) := by
  unfold susS at h
  by_cases h1 : conS l ≠ 0
  · rw [if_pos h1] at h; injection h with _ h; exact absurd h h1
  rw [if_neg h1] at h
  by_cases h2 : matS ms ≠ 0
  · rw [if_pos h2] at h; injection h with _ h; exact absurd h h2
  · rw [if_neg h2] at h; injection h with h _
    have h1 : conS l = 0 := by omega
    exact ⟨h1, by rw [← h]; exact missed_le h1⟩
def totK (l : List Off) (p : List UInt8) (k : Nat) : Int := totS (l.take k) p
theorem totK_all (l : List Off) (p : List UInt8) : totK l p l.length = totS l p := by unfold totK; rw [List.take_length]
theorem totK_zero (l : List Off) (p : List UInt8) : totK l p 0 = 0 := rfl
theorem totK_step {l : List Off} {p : List UInt8} {k : Nat} (hk : k < l.length) : totK l p (k + 1) = if (ofn l k).player == p then totK l p k + (ofn l k).pts else totK l p k := by
  unfold totK totS
  rw [List.take_succ_eq_append_getElem hk, List.foldl_append, ofn_at hk]
  by_cases h : (ofn l k).player = p
  · simp [h]
  · simp [h]
/-- None of the first entries gives a team. -/
def NoT (l : List Tra) (p : List UInt8) (d : Int) (i : Nat) : Prop := ∀ j, j < i → ((tr l j).player == p && eligS l p (tr l j).team d) = false
theorem NoT.zero (l : List Tra) (p : List UInt8) (d : Int) : NoT l p d 0 := fun j h => absurd h (by omega)
theorem NoT.next {l : List Tra} {p : List UInt8} {d : Int} {i : Nat} (h : NoT l p d i) (hi : ((tr l i).player == p && eligS l p (tr l i).team d) = false) : NoT l p d (i + 1) := fun j hj => by
  by_cases e : j = i
  · subst e; exact hi
  · exact h j (by omega)
theorem NoT.done {l : List Tra} {p : List UInt8} {d : Int} (h : NoT l p d l.length) : eligS l p (teamD l p d) d = false := by
  cases he : eligS l p (teamD l p d) d with
  | false => rfl
  | true =>
    obtain ⟨_, _, i, hi, h1, h2⟩ := elig_law he
    have := h i hi
    rw [h1, h2, he] at this
    simp at this
/-- The box of the office. -/
structure OF (w W : World) (x0 x1 x2 x3 : Value) : Prop where
  bel : Below w.heap.size w W
  blk : Blk W w.heap.size 27 #[x0, x1, x2, x3]
section
variable {w W W' : World} {x0 x1 x2 x3 : Value}
theorem OF.lt (h : OF w W x0 x1 x2 x3) : w.heap.size < W.heap.size := h.blk.lt
theorem OF.step (h : OF w W x0 x1 x2 x3) (hb : Below W.heap.size W W') : OF w W' x0 x1 x2 x3 := ⟨h.bel.trans (hb.mono h.bel.size), h.blk.below hb h.blk.lt⟩
theorem OF.alloc (h : OF w W x0 x1 x2 x3) (o : Obj) : OF w (W.alloc o) x0 x1 x2 x3 := h.step (low_alloc W o)
theorem OF.cells (h : OF w W x0 x1 x2 x3) : W.cell? ⟨w.heap.size, 0, none⟩ = some x0 ∧ W.cell? ⟨w.heap.size, 1, none⟩ = some x1 ∧ W.cell? ⟨w.heap.size, 2, none⟩ = some x2 ∧ W.cell? ⟨w.heap.size, 3, none⟩ = some x3 := blk_four h.blk
end
end Go.Proofs.Ytajcnjehjkpieaa
