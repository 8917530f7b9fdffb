/- Plain specification: the first error of two sides. -/
import Derived.Test.YtfljohhocgaheaaDoorP20
import Derived.Test.YtfljohhocgaheaaDoorP9
set_option linter.unusedSimpArgs false
set_option linter.unusedVariables false
namespace Go.Proofs.YtfljohhocgaheaaDoor

/-- The first error of a list of errors. -/
def firstErr : List Int → Int
  | [] => 0
  | e :: es => if e ≠ 0 then e else firstErr es
def meetB (a b : Sqd) : Bool := a.players.any fun p => decide (p ∈ b.players)
def restS (r : Rul) (a b : Sqd) : Int :=
  if (a.players.length : Int) ≠ r.side ∨ (b.players.length : Int) ≠ r.side then 1
  else if a.name = b.name ∨ meetB a b = true then 7 else 0
def pairS (r : Rul) (a b : Sqd) : Int := if firstErr [checkR r, checkS a, checkS b] ≠ 0 then firstErr [checkR r, checkS a, checkS b] else restS r a b
theorem meetB_comm (a b : Sqd) : meetB a b = meetB b a := by
  unfold meetB
  rw [Bool.eq_iff_iff]
  simp only [List.any_eq_true, decide_eq_true_eq]
  constructor
  · rintro ⟨p, h1, h2⟩; exact ⟨p, h2, h1⟩
  · rintro ⟨p, h1, h2⟩; exact ⟨p, h2, h1⟩
theorem firstErr_three (x y z : Int) : firstErr [x, y, z] = 0 ↔ x = 0 ∧ y = 0 ∧ z = 0 := by
  unfold firstErr firstErr firstErr firstErr
  by_cases h1 : x = 0 <;> by_cases h2 : y = 0 <;> by_cases h3 : z = 0 <;> simp [h1, h2, h3]
theorem restS_comm (r : Rul) (a b : Sqd) : restS r a b = restS r b a := by
  unfold restS
  rw [meetB_comm a b]
  by_cases h1 : (a.players.length : Int) ≠ r.side ∨ (b.players.length : Int) ≠ r.side
  · have h1' : (b.players.length : Int) ≠ r.side ∨ (a.players.length : Int) ≠ r.side := h1.symm
    rw [if_pos h1, if_pos h1']
  · have h1' : ¬((b.players.length : Int) ≠ r.side ∨ (a.players.length : Int) ≠ r.side) := fun h => h1 h.symm
    rw [if_neg h1, if_neg h1']
    by_cases h2 : a.name = b.name ∨ meetB b a = true
    · have h2' : b.name = a.name ∨ meetB b a = true := h2.imp Eq.symm id
      rw [if_pos h2, if_pos h2']
    · have h2' : ¬(b.name = a.name ∨ meetB b a = true) := fun h => h2 (h.imp Eq.symm id)
      rw [if_neg h2, if_neg h2']
theorem pairS_comm (r : Rul) (a b : Sqd) : pairS r a b = 0 ↔ pairS r b a = 0 := by
  unfold pairS
  by_cases h : firstErr [checkR r, checkS a, checkS b] = 0
  · have h' : firstErr [checkR r, checkS b, checkS a] = 0 := by rw [firstErr_three] at h ⊢; exact ⟨h.1, h.2.2, h.2.1⟩
    rw [if_neg (fun k => k h), if_neg (fun k => k h'), restS_comm]
  · have h' : firstErr [checkR r, checkS b, checkS a] ≠ 0 := fun k => h (by rw [firstErr_three] at k ⊢; exact ⟨k.1, k.2.2, k.2.1⟩)
    rw [if_pos h, if_pos h']
    exact ⟨fun k => absurd k h, fun k => absurd k h'⟩
/-- Where a list first meets another one: -1 if it does not. -/
def meetF (bs : List (List UInt8)) : List (List UInt8) → Nat → Int
  | [], _ => -1
  | p :: ps, i => if p ∈ bs then i else meetF bs ps (i + 1)
theorem meetF_ge (bs : List (List UInt8)) : ∀ (l : List (List UInt8)) (i : Nat), decide (0 ≤ meetF bs l i) = l.any fun p => decide (p ∈ bs) := by
  intro l
  induction l with
  | nil => intro i; simp [meetF]
  | cons p l ih =>
    intro i
    rw [meetF, List.any_cons]
    by_cases h : p ∈ bs
    · rw [if_pos h]; simp [h]
    · rw [if_neg h, ih]; simp [h]
end Go.Proofs.YtfljohhocgaheaaDoor
