/- Plain specifications of package rules: the checks. -/
import Derived.Test.YtfljohhocgaheaaDoorP5
set_option linter.unusedSimpArgs false
set_option linter.unusedVariables false
namespace Go.Proofs.YtfljohhocgaheaaDoor

structure Pha where
  fr : Int
  til : Int
  out : Int
structure Rul where
  name : List UInt8
  side : Int
  inns : Int
  overs : Int
  balls : Int
  quota : Int
  wide : Int
  noball : Int
  free : Bool
  newball : Int
  follow : Int
  reviews : Int
  outside : Int
  power : List Pha
def inB (n lo hi : Int) : Bool := decide (lo ≤ n) && decide (n ≤ hi)
def inRangeS (r : Rul) : Bool :=
  inB r.side 2 11 && inB r.inns 1 2 && inB r.overs 0 90 && inB r.balls 4 8 && inB r.quota 0 90 && inB r.wide 1 5 && inB r.noball 1 5 && inB r.newball 0 200 && inB r.follow 0 1000 && inB r.reviews 0 9 && inB r.outside 0 11
/-- Is a powerplay out of range? -/
def phaB (overs : Int) (p : Pha) : Bool := decide (p.fr < 1) || decide (p.til < p.fr) || decide (overs < p.til) || !inB p.out 0 11
def phaErr (overs : Int) (prev : Option Pha) (p : Pha) : Int :=
  if phaB overs p = true then 2 else match prev with | some x => if p.fr ≤ x.til then 8 else 0 | none => 0
def phasesF (overs : Int) : List Pha → Option Pha → Int
  | [], _ => 0
  | p :: ps, prev => if phaErr overs prev p ≠ 0 then phaErr overs prev p else phasesF overs ps (some p)
def phasesS (r : Rul) : Int := if 8 < r.power.length then 9 else phasesF r.overs r.power none
/-- The first error of rules ahead of the powerplays. -/
def headErr (r : Rul) : Int :=
  if nameS r.name = false then 5
  else if inRangeS r = false then 2
  else if r.follow ≠ 0 ∧ r.inns = 1 then 1
  else if (r.quota ≠ 0 ∨ 0 < r.power.length) ∧ r.overs = 0 then 1
  else if r.quota ≠ 0 ∧ r.quota * r.side < r.overs then 13 else 0
def checkR (r : Rul) : Int := if headErr r ≠ 0 then headErr r else phasesS r
theorem inB_iff (n lo hi : Int) : inB n lo hi = true ↔ lo ≤ n ∧ n ≤ hi := by unfold inB; simp
theorem inRangeS_iff (r : Rul) : inRangeS r = true ↔ (2 ≤ r.side ∧ r.side ≤ 11) ∧ (1 ≤ r.inns ∧ r.inns ≤ 2) ∧ (0 ≤ r.overs ∧ r.overs ≤ 90) ∧ (4 ≤ r.balls ∧ r.balls ≤ 8) ∧ (0 ≤ r.quota ∧ r.quota ≤ 90) ∧ (1 ≤ r.wide ∧ r.wide ≤ 5) ∧ (1 ≤ r.noball ∧ r.noball ≤ 5) ∧ (0 ≤ r.newball ∧ r.newball ≤ 200) ∧ (0 ≤ r.follow ∧ r.follow ≤ 1000) ∧ (0 ≤ r.reviews ∧ r.reviews ≤ 9) ∧ (0 ≤ r.outside ∧ r.outside ≤ 11) := by
  unfold inRangeS
  simp only [Bool.and_eq_true, inB_iff, and_assoc]
/-- The powerplay ahead of the k-th. -/
def prevP (l : List Pha) (k : Nat) : Option Pha := if k = 0 then none else l[k - 1]?
theorem phasesF_at {overs : Int} {l : List Pha} {k : Nat} (h : k < l.length) : phasesF overs (l.drop k) (prevP l k) = if phaErr overs (prevP l k) l[k] ≠ 0 then phaErr overs (prevP l k) l[k] else phasesF overs (l.drop (k + 1)) (prevP l (k + 1)) := by
  rw [drop_get h, phasesF]
  have : prevP l (k + 1) = some l[k] := by
    unfold prevP
    rw [if_neg (by omega), Nat.add_sub_cancel, List.getElem?_eq_getElem h]
  rw [this]
theorem phasesF_end {overs : Int} {l : List Pha} {k : Nat} (h : l.length ≤ k) (p : Option Pha) : phasesF overs (l.drop k) p = 0 := by
  rw [List.drop_of_length_le h]; rfl
theorem phaErr_two {overs : Int} {prev : Option Pha} {p : Pha} (h : phaB overs p = true) : phaErr overs prev p = 2 := by unfold phaErr; rw [if_pos h]
theorem phaErr_none {overs : Int} {p : Pha} (h : phaB overs p = false) : phaErr overs none p = 0 := by unfold phaErr; rw [if_neg (by simp [h])]
theorem phaErr_some {overs : Int} {p x : Pha} (h : phaB overs p = false) : phaErr overs (some x) p = if p.fr ≤ x.til then 8 else 0 := by unfold phaErr; rw [if_neg (by simp [h])]
/-- The ways through the test of a powerplay. -/
theorem phaB_ways (overs : Int) (p : Pha) : (phaB overs p = true ∧ ((decide (p.fr < 1) = true) ∨ (decide (p.fr < 1) = false ∧ decide (p.til < p.fr) = true) ∨ (decide (p.fr < 1) = false ∧ decide (p.til < p.fr) = false ∧ decide (overs < p.til) = true) ∨ (decide (p.fr < 1) = false ∧ decide (p.til < p.fr) = false ∧ decide (overs < p.til) = false ∧ inB p.out 0 11 = false)))
    ∨ (phaB overs p = false ∧ decide (p.fr < 1) = false ∧ decide (p.til < p.fr) = false ∧ decide (overs < p.til) = false ∧ inB p.out 0 11 = true) := by
  unfold phaB
  cases decide (p.fr < 1) <;> cases decide (p.til < p.fr) <;> cases decide (overs < p.til) <;> cases inB p.out 0 11 <;> simp
theorem prevP_zero (l : List Pha) : prevP l 0 = none := rfl
theorem prevP_succ {l : List Pha} {k : Nat} (h : k ≠ 0) (hk : k - 1 < l.length) : prevP l k = some l[k - 1] := by unfold prevP; rw [if_neg h, List.getElem?_eq_getElem hk]
theorem phaB_no {overs : Int} {p : Pha} (h : phaB overs p = false) : 1 ≤ p.fr ∧ p.fr ≤ p.til ∧ p.til ≤ overs ∧ inB p.out 0 11 = true := by
  unfold phaB at h
  simp at h
  obtain ⟨⟨⟨a, b⟩, c⟩, d⟩ := h
  exact ⟨by omega, by omega, by omega, d⟩
end Go.Proofs.YtfljohhocgaheaaDoor
