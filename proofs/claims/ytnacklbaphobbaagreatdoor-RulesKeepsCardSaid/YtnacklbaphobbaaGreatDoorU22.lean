/- The law's few: rules cut to a size. -/
import Derived.Test.YtnacklbaphobbaaGreatDoorU21
set_option linter.unusedSimpArgs false
set_option linter.unusedVariables false
namespace Go.Proofs.YtnacklbaphobbaaGreatDoor
open Go.RowKit

def fewR (r : Rul) : Rul := { r with name := r.name.take 20, power := r.power.take 10 }
theorem S_extractR (l : List UInt8) (k : Nat) : (S l).extract 0 k = S (l.take k) := by
  have : ((S l).extract 0 k).data.toList = l.take k := by
    rw [Lib.extract_data]; simp
  rw [← S_of ((S l).extract 0 k), this]
theorem few_strR (l : List UInt8) : (S l).extract 0 (min (l.length : Int) 20).toNat = S (l.take 20) := by
  rw [S_extractR]
  congr 1
  by_cases h : l.length ≤ 20
  · rw [show (min (l.length : Int) 20).toNat = l.length from by omega, List.take_length, List.take_of_length_le h]
  · rw [show (min (l.length : Int) 20).toNat = 20 from by omega]
theorem few_powR {α : Type} (l : List α) : (min (l.length : Int) 10).toNat = (l.take 10).length := by rw [List.length_take]; omega
theorem take_min {α : Type} (l : List α) (k : Nat) : l.take (min k l.length) = l.take k := by
  by_cases h : k ≤ l.length
  · rw [Nat.min_eq_left h]
  · rw [Nat.min_eq_right (by omega), List.take_length, List.take_of_length_le (by omega)]
set_option maxRecDepth 100000 in
set_option maxHeartbeats 2000000 in
theorem law05_few (r : Rul) (pv : Value) (F : Nat → Prop) (w : World) (h : Sl 3 elPha w F pv r.power) (hF : ∀ b, F b → b < w.heap.size) :
    Calls Tryz.prog 11 #[rulV r pv] w fun e w' => ∃ A n c, e = .returned (rulV (fewR r) (.slice A n c)) ∧ Sl 3 elPha w' F (.slice A n c) (fewR r).power ∧ Below w.heap.size w w' := by
  obtain ⟨A, c, rfl, hc, hc2⟩ := h.shape
  unfold rulV rulCells
  have H := Lib.hid h
  have HF := Lib.hid hF
  clear h hF
  go_enter Tryz.func11, Tryz.ntmps11
  go_wp2
  rw [few_strR, few_powR]
  have hs := fun W (hW : Below w.heap.size w W) => (Sl.take (k := (r.power.take 10).length) H.out (by rw [List.length_take]; exact Nat.min_le_right _ _)).keep elPha_good (Same.below hW HF.out) (G := F) fun b h => h
  rw [show r.power.take (r.power.take 10).length = r.power.take 10 from by rw [List.length_take]; exact take_min r.power 10] at hs
  have HS := Lib.hid hs
  clear hs
  refine bodyPost_ret (v := rulV (fewR r) (.slice A (r.power.take 10).length c)) (by simp [results, Tryz.results11, go_sem]; rfl) rfl ⟨_, _, _, rfl, HS.out _ (below_two w _ _), below_two w _ _⟩
end Go.Proofs.YtnacklbaphobbaaGreatDoor
