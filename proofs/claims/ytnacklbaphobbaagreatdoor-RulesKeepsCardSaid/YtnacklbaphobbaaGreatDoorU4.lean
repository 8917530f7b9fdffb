/- The contract of the reference's Check of rules. -/
import Derived.Test.YtnacklbaphobbaaGreatDoorU4a
import Derived.Test.YtnacklbaphobbaaGreatDoorU4b
import Derived.Test.YtnacklbaphobbaaGreatDoorU4c
set_option linter.unusedSimpArgs false
set_option linter.unusedVariables false
namespace Go.Proofs.YtnacklbaphobbaaGreatDoor
open Go.RowKit

theorem ref_RCheck (r : Rul) (pv : Value) (w : World) (h : Sl 3 elPha w (· < w.heap.size) pv r.power) (hn : r.name.length ≤ 1000000000) :
    Calls Tryz.prog 13 #[rulV r pv] w fun e w' => e = .returned (.int .i64 (checkR r)) ∧ Below w.heap.size w w' := by
  cases h1 : nameS r.name
  · exact ref_RCheck_bad r pv w h hn (.inl h1)
  · cases h2 : inRangeS r
    · exact ref_RCheck_bad r pv w h hn (.inr h2)
    · rw [checkR_mid h1 h2]
      have hz : midErr r = midErr r := rfl
      obtain ⟨z, hz⟩ : ∃ z, z = midErr r := ⟨_, rfl⟩
      rw [← hz]
      unfold midErr at hz
      have ll : ∀ b, decide (0 < r.power.length) = b → decide ((0 : Int) < (r.power.length : Int)) = b := fun b hb => by rw [← hb]; simp
      rcases band (r.follow != 0) (r.inns == 1) with ⟨f1, f2⟩ | ⟨f1, f2⟩ | f1
      · rw [show z = 1 by rw [hz]; simp [f1, f2]]; exact ref_RCheck_A r pv w h hn h1 h2 f1 f2
      · rcases boor (r.overs == 0) with o1 | o1
        · rcases boor (r.quota != 0) with q1 | q1
          · rw [show z = 1 by rw [hz]; simp [f1, f2, o1, q1]]; exact ref_RCheck_B1 r pv w h hn h1 h2 f1 f2 o1 q1
          · rcases boor (decide (0 < r.power.length)) with l1 | l1
            · rw [show z = 1 by rw [hz]; simp [f1, f2, o1, q1, l1]]; exact ref_RCheck_B2 r pv w h hn h1 h2 f1 f2 o1 q1 l1 (ll _ l1)
            · rw [show z = phasesS r by rw [hz]; simp [f1, f2, o1, q1, l1]]; exact ref_RCheck_B3 r pv w h hn h1 h2 f1 f2 o1 q1 l1 (ll _ l1)
        · rcases boor (r.quota != 0) with q1 | q1
          · rcases boor (decide (r.quota * r.side < r.overs)) with p1 | p1
            · rw [show z = 13 by rw [hz]; simp [f1, f2, o1, q1, p1]]; exact ref_RCheck_B4 r pv w h hn h1 h2 f1 f2 o1 q1 p1
            · rw [show z = phasesS r by rw [hz]; simp [f1, f2, o1, q1, p1]]; exact ref_RCheck_B5 r pv w h hn h1 h2 f1 f2 o1 q1 p1
          · rw [show z = phasesS r by rw [hz]; simp [f1, f2, o1, q1]]; exact ref_RCheck_B6 r pv w h hn h1 h2 f1 f2 o1 q1
      · rcases boor (r.overs == 0) with o1 | o1
        · rcases boor (r.quota != 0) with q1 | q1
          · rw [show z = 1 by rw [hz]; simp [f1, o1, q1]]; exact ref_RCheck_C1 r pv w h hn h1 h2 f1 o1 q1
          · rcases boor (decide (0 < r.power.length)) with l1 | l1
            · rw [show z = 1 by rw [hz]; simp [f1, o1, q1, l1]]; exact ref_RCheck_C2 r pv w h hn h1 h2 f1 o1 q1 l1 (ll _ l1)
            · rw [show z = phasesS r by rw [hz]; simp [f1, o1, q1, l1]]; exact ref_RCheck_C3 r pv w h hn h1 h2 f1 o1 q1 l1 (ll _ l1)
        · rcases boor (r.quota != 0) with q1 | q1
          · rcases boor (decide (r.quota * r.side < r.overs)) with p1 | p1
            · rw [show z = 13 by rw [hz]; simp [f1, o1, q1, p1]]; exact ref_RCheck_C4 r pv w h hn h1 h2 f1 o1 q1 p1
            · rw [show z = phasesS r by rw [hz]; simp [f1, o1, q1, p1]]; exact ref_RCheck_C5 r pv w h hn h1 h2 f1 o1 q1 p1
          · rw [show z = phasesS r by rw [hz]; simp [f1, o1, q1]]; exact ref_RCheck_C6 r pv w h hn h1 h2 f1 o1 q1
end Go.Proofs.YtnacklbaphobbaaGreatDoor
