/- What the contracts on numbers ask of the world in which a call begins: the library's tables and errors lie as they should. It holds as long as nothing below is written. -/
import Derived.Test.YtfnfbojaiikigaaGreatDoorG
import Derived.Lib.LaidTab
import Derived.Lib.ItoaMem
import Derived.WalkSmall
set_option linter.unusedSimpArgs false
set_option linter.unusedVariables false
namespace Go.Proofs.YtfnfbojaiikigaaGreatDoor
open Go.RowKit

theorem var_lt {P : Program} {W : World} {n : String} {g : Nat} {cs : Array Value} (hg : P.globalNamed n = some g) (h : W.var? P n = some cs) : g < W.heap.size := by
  unfold World.var? at h
  simp only [hg, Option.bind_some] at h
  rcases Nat.lt_or_ge g W.heap.size with h' | h'
  · exact h'
  · rw [Array.getElem?_eq_none h'] at h; cases h
structure GlobN (w : World) : Prop where
  glob : Glob w
  rng : ∃ tp p, w.var? Tryz.prog "strconv.ErrRange" = some #[.iface tp p]
  pow : Lib.TabIs Tryz.prog w "internal/strconv.uint64pow10" .u64 Lib.pow10Tab
theorem GlobN.below {w w' : World} (h : GlobN w) (hb : Below w.heap.size w w') : GlobN w' := by
  obtain ⟨tp, p, h1⟩ := h.rng
  have g1 : Tryz.prog.globalNamed "strconv.ErrRange" = some 2 := by kernel_rfl
  have g2 : Tryz.prog.globalNamed "internal/strconv.uint64pow10" = some 5 := by kernel_rfl
  exact ⟨h.glob.below hb, ⟨tp, p, var?_below hb g1 (var_lt g1 h1) h1⟩, var?_below hb g2 (var_lt g2 h.pow) h.pow⟩
end Go.Proofs.YtfnfbojaiikigaaGreatDoor
