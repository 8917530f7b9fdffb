/- The contracts of both and of Convolve, of the program and of the reference. No conditions but that the spreads can be read. -/
import Derived.Test.YtdnjcgokcjlkiaaGreatDoorH6
set_option linter.unusedSimpArgs false
set_option linter.unusedVariables false
namespace Go.Proofs.YtdnjcgokcjlkiaaGreatDoor
open Go.RowKit

/-- Two boxed spreads, and the result's box, if there is one. -/
structure Th (w W : World) (a b : Spr) (va vb : Value) (r : Bool) : Prop where
  bel : Below w.heap.size w W
  ba : Blk W w.heap.size 90 #[.int .i64 a.balls, va]
  bb : Blk W (w.heap.size + 1) 90 #[.int .i64 b.balls, vb]
  br : r = true → Blk W (w.heap.size + 2) 90 #[.int .i64 0, .slice none 0 0]
theorem Th.below {w W W' : World} {a b : Spr} {va vb : Value} {r : Bool} (h : Th w W a b va vb r) (hb : Below W.heap.size W W') : Th w W' a b va vb r :=
  ⟨h.bel.trans (hb.mono h.bel.size), h.ba.below hb h.ba.lt, h.bb.below hb h.bb.lt, fun e => (h.br e).below hb (h.br e).lt⟩
theorem Th.new2 (w : World) (a b : Spr) (va vb : Value) : Th w ((w.alloc (.cells #[.int .i64 a.balls, va] 90)).alloc (.cells #[.int .i64 b.balls, vb] 90)) a b va vb false := by
  have hz1 : (w.alloc (.cells #[.int .i64 a.balls, va] 90)).heap.size = w.heap.size + 1 := by simp
  exact ⟨Below.alloc (Below.alloc (Below.refl _ _) (Nat.le_refl _) _) (by omega) _, (Blk.new w _ _).alloc _, by rw [← hz1]; exact Blk.new _ _ _, fun e => by cases e⟩
theorem Th.new3 (w : World) (a b : Spr) (va vb : Value) : Th w (((w.alloc (.cells #[.int .i64 a.balls, va] 90)).alloc (.cells #[.int .i64 b.balls, vb] 90)).alloc (.cells #[.int .i64 0, .slice none 0 0] 90)) a b va vb true := by
  have hz1 : (w.alloc (.cells #[.int .i64 a.balls, va] 90)).heap.size = w.heap.size + 1 := by simp
  have hz2 : ((w.alloc (.cells #[.int .i64 a.balls, va] 90)).alloc (.cells #[.int .i64 b.balls, vb] 90)).heap.size = w.heap.size + 2 := by simp
  exact ⟨Below.alloc (Below.alloc (Below.alloc (Below.refl _ _) (Nat.le_refl _) _) (by omega) _) (by omega) _, ((Blk.new w _ _).alloc _).alloc _, by rw [← hz1]; exact (Blk.new _ _ _).alloc _, fun _ => by rw [← hz2]; exact Blk.new _ _ _⟩
def bothS (a b : Spr) : Int := if checkP a ≠ 0 then checkP a else checkP b
theorem Cv.new0 {w W : World} {a b : Spr} {va vb : Value} {N : Nat} (h : Th w W a b va vb true) (hz : w.heap.size + 3 ≤ W.heap.size) :
    Cv w (W.alloc (.cells (madeCells #[.int .i64 0] N) 2)) W.heap.size none a b va vb N (fun _ => 0) :=
  ⟨Below.alloc h.bel h.bel.size _, World.rowIs_made W (.int .i64 0) N _, h.ba.alloc _, h.bb.alloc _, (h.br rfl).alloc _, hz, fun g hg => by cases hg⟩

end Go.Proofs.YtdnjcgokcjlkiaaGreatDoor
