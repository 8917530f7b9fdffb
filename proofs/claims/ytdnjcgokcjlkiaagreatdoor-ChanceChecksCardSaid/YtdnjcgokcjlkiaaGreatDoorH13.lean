/- Words for the laws of chapter 42: a spread in a box of its own; what a call hands back. -/
import Derived.Test.YtdnjcgokcjlkiaaGreatDoorH12
set_option linter.unusedSimpArgs false
set_option linter.unusedVariables false
namespace Go.Proofs.YtdnjcgokcjlkiaaGreatDoor
open Go.RowKit

/-- A spread in block g; its weights below the heap's end. -/
structure Bx (W : World) (g : Nat) (s : Spr) (D : Option Addr) (k : Nat) : Prop where
  blk : Blk W g 90 #[.int .i64 s.balls, .slice D s.ws.length k]
  sl : Sl 1 elInt W (· < W.heap.size) (.slice D s.ws.length k) s.ws
theorem Bx.below {W W' : World} {g : Nat} {s : Spr} {D : Option Addr} {k : Nat} (h : Bx W g s D k) (hb : Below W.heap.size W W') : Bx W' g s D k := ⟨h.blk.below hb h.blk.lt, int_below h.sl hb⟩
theorem Bx.alloc {W : World} {g : Nat} {s : Spr} {D : Option Addr} {k : Nat} (h : Bx W g s D k) (o : Obj) : Bx (W.alloc o) g s D k := h.below (Below.alloc (Below.refl _ _) (Nat.le_refl _) o)
theorem Bx.new {W : World} {s : Spr} {D : Option Addr} {k : Nat} (h : Sl 1 elInt W (· < W.heap.size) (.slice D s.ws.length k) s.ws) : Bx (W.alloc (.cells #[.int .i64 s.balls, .slice D s.ws.length k] 90)) W.heap.size s D k :=
  ⟨Blk.new W _ _, int_below h (Below.alloc (Below.refl _ _) (Nat.le_refl _) _)⟩
def SprOut (W : World) (r : Spr × Int) (e : Ending) (W' : World) : Prop :=
  ∃ D k, e = .returned (.tuple #[.agg #[.int .i64 r.1.balls, .slice D r.1.ws.length k], .int .i64 r.2]) ∧ Sl 1 elInt W' (· < W'.heap.size) (.slice D r.1.ws.length k) r.1.ws ∧ Below W.heap.size W W'
theorem SprPost.out {W : World} {r : Spr × Int} {e : Ending} {W' : World} (h : SprPost W r e W') : SprOut W r e W' := by
  obtain ⟨v, rfl, hs, hb⟩ := h
  obtain ⟨D, k, rfl, _⟩ := hs.shape
  exact ⟨D, k, rfl, hs.keep elInt_good (Same.refl _ _) fun _ h => h.2, hb⟩
theorem box_same (s : Spr) (W : World) (D : Option Addr) (k : Nat) (D' : Option Addr) (k' : Nat) (h : Sl 1 elInt W (· < W.heap.size) (.slice D s.ws.length k) s.ws) (h' : Sl 1 elInt W (· < W.heap.size) (.slice D' s.ws.length k') s.ws) :
    Calls Tryz.prog 66 #[.agg #[.int .i64 s.balls, .slice D s.ws.length k], .agg #[.int .i64 s.balls, .slice D' s.ws.length k']] W fun e W' => e = .returned (.bool true) ∧ Below W.heap.size W W' :=
  law_same s _ _ _ _ W h h' (fun _ h => h) (fun _ h => h)
end Go.Proofs.YtdnjcgokcjlkiaaGreatDoor
