/- The contracts of Mean, Risk, Sum and AtLeast, of the program and of the reference. No conditions but that the arguments can be read. -/
import Derived.Test.YtdomhdfeedecpaaGreatDoorH2
import Derived.Test.YtdomhdfeedecpaaGreatDoorH3
import Derived.Test.YtdomhdfeedecpaaGreatDoorP52
set_option linter.unusedSimpArgs false
set_option linter.unusedVariables false
namespace Go.Proofs.YtdomhdfeedecpaaGreatDoor
open Go.RowKit

theorem sumI_map_take {α : Type} {f : α → Int} {l : List α} {k : Nat} (h : k < l.length) : sumI ((l.take (k + 1)).map f) = sumI ((l.take k).map f) + f l[k] := by
  rw [List.take_succ_eq_append_getElem h, List.map_append, sumI_app]; simp [sumI_cons, sumI_nil]
theorem OkO.prod {o : Otc} (h : OkO o) : 0 ≤ o.runs * o.wt ∧ o.runs * o.wt ≤ 112 := by
  have h1 := Int.mul_nonneg h.r0 (show (0 : Int) ≤ o.wt by have := h.w1; omega)
  have h2 := Int.mul_le_mul h.r7 h.w16 (show (0 : Int) ≤ o.wt by have := h.w1; omega) (show (0 : Int) ≤ 7 by omega)
  omega
/-- The sums of an accepted spread. -/
theorem OkP.sxb {n : Nat} {ws : List Int} (h : OkP n ws) : 0 ≤ sxF 0 ws ∧ sxF 0 ws ≤ 23925373020405760 := by
  have h1 := sxF_bound ws 0 85 (by have := h.len.2; have := h.n12; omega) h.fine.pos
  rw [h.fine.sum] at h1
  have := unitV_le h.n12
  omega
theorem OkP.alb {n : Nat} {ws : List Int} (h : OkP n ws) (r : Int) : 0 ≤ atLeastL ws r ∧ atLeastL ws r ≤ 281474976710656 := by
  have h1 := alF_bound r ws 0 h.fine.pos
  rw [h.fine.sum] at h1
  have := unitV_le h.n12
  unfold atLeastL
  omega

end Go.Proofs.YtdomhdfeedecpaaGreatDoor
