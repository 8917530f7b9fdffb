/- The contract of text.fields. -/
import Derived.Test.YtfnfbojaiikigaaGreatDoorT3
set_option linter.unusedSimpArgs false
set_option linter.unusedVariables false
namespace Go.Proofs.YtfnfbojaiikigaaGreatDoor
open Go.RowKit

/-- What a function that hands back fields and a column leaves. -/
def FieldsPost (w : World) (q : List Fld × Nat) (e : Ending) (w' : World) : Prop :=
  ∃ v, e = .returned (.tuple #[v, .int .i64 q.2]) ∧ Sl 3 elFld w' (fun b => w.heap.size ≤ b ∧ b < w'.heap.size) v q.1 ∧ Below w.heap.size w w'
theorem fields_done {w w' : World} {q : List Fld × Nat} {v : Value} {n : Int} (x : List Fld) (m : Nat) (h : q = (x, m)) (hv : Sl 3 elFld w' (fun b => w.heap.size ≤ b ∧ b < w'.heap.size) v x) (hn : n = m) (hb : Below w.heap.size w w') :
    FieldsPost w q (.returned (.tuple #[v, .int .i64 n])) w' := ⟨v, by rw [h, hn], by rw [h]; exact hv, hb⟩

end Go.Proofs.YtfnfbojaiikigaaGreatDoor
