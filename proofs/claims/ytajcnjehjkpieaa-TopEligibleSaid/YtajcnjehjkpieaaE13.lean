/- The example of the office: the values of the specifications on it. -/
import Derived.Test.YtajcnjehjkpieaaE6
import Derived.Test.YtajcnjehjkpieaaE12
set_option linter.unusedSimpArgs false
set_option linter.unusedVariables false
namespace Go.Proofs.Ytajcnjehjkpieaa
open Go.RowKit

def aANN : List UInt8 := [65, 78, 78]
def aREDS : List UInt8 := [82, 69, 68, 83]
def aBLUES : List UInt8 := [66, 76, 85, 69, 83]
def awL : List Tra := [⟨aANN, aREDS, 5⟩, ⟨aANN, aBLUES, 103⟩]
def awO : List Off := [⟨1, aANN, 10, 3⟩, ⟨2, aANN, 20, 1⟩, ⟨3, aANN, 21, 2⟩]
def awW : List Win := [⟨100, 110⟩]
def awM : List Int := [15, 20, 25, 30, 35]
theorem aw_reg : regS awW awL = (-1, 0) := by decide +kernel
theorem aw_con : conS awO = 0 := by decide +kernel
theorem aw_mat : matS awM = 0 := by decide +kernel
theorem aw_sus : susS awO aANN awM = ([25, 30], 0) := by
  unfold susS
  rw [if_neg (by rw [aw_con]; decide), if_neg (by rw [aw_mat]; decide)]
  decide +kernel
theorem aw_sqd : squadR awL aREDS 102 = [aANN, aANN] := by decide +kernel
theorem aw_squad : squadS awL aREDS 102 = [aANN] := by
  unfold squadS
  rw [aw_sqd, List.mergeSort_of_pairwise (by simp [List.le_refl])]
  decide +kernel
theorem aw_elig : eligS awL aANN aREDS 5 = true := by decide +kernel
/-- A literal's row reads as its list. -/
theorem fresh_row {α : Type} {size : Nat} {R : World → (Nat → Prop) → List Value → α → Prop} {F : Nat → Prop} (W : World) (e : TypeId) (css : List (List Value)) (l : List α) (hsz : ∀ cs ∈ css, cs.length = size) (hlen : css.length = l.length) (hm : l.length ≤ maxLen)
    (hF : F W.heap.size) (hel : ∀ (i : Nat) (a : α) (cs : List Value), l[i]? = some a → css[i]? = some cs → R (W.alloc (.cells css.flatten.toArray e)) F cs a) :
    Sl size R (W.alloc (.cells css.flatten.toArray e)) F (.slice (some ⟨W.heap.size, 0, none⟩) l.length l.length) l := by
  refine ⟨_, l.length, rfl, Nat.le_refl _, hm, fun _ => ⟨W.heap.size, 0, rfl, hF, fun i a hi => ?_⟩⟩
  have hil := (List.getElem?_eq_some_iff.1 hi).1
  have hcs : css[i]? = some css[i] := List.getElem?_eq_getElem (by omega)
  refine ⟨css[i], hsz _ (List.getElem_mem _), fun j u hj => ?_, hel i a _ hi hcs⟩
  have hf := flatten_get hsz hcs hj
  rw [Nat.zero_add]
  refine ((Blk.new W e css.flatten.toArray).cell (i * size + j)).trans ?_
  simpa using hf
end Go.Proofs.Ytajcnjehjkpieaa
