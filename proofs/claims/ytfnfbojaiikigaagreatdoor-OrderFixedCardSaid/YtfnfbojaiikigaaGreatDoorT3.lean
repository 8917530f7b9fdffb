/- The contract of text.quoted. -/
import Derived.Test.YtfnfbojaiikigaaGreatDoorT1
set_option linter.unusedSimpArgs false
set_option linter.unusedVariables false
namespace Go.Proofs.YtfnfbojaiikigaaGreatDoor
open Go.RowKit

theorem ret_q {q : List UInt8 × Nat × Bool} (x : List UInt8) (m : Nat) (b : Bool) {n : Int} (h : q = (x, m, b)) (hn : n = m) : Ending.returned (.tuple #[.string (S x), .int .i64 n, .bool b]) = .returned (.tuple #[.string (S q.1), .int .i64 q.2.1, .bool q.2.2]) := by rw [h, hn]
theorem byte_eq {c : UInt8} (n : UInt8) (h : (c.toNat : Int) = (n.toNat : Int)) : c = n := UInt8.toNat_inj.1 (by omega)
theorem byte_ne {c : UInt8} (n : UInt8) (h : ¬ (c.toNat : Int) = (n.toNat : Int)) : c ≠ n := fun e => h (by rw [e])

end Go.Proofs.YtfnfbojaiikigaaGreatDoor
