/- The walk of TextSplits: the lines and the diagnostics of any source are the reference's. -/
import Derived.Test.YtdgejeiiiholnaaGreatDoorM2
import Derived.Test.YtdgejeiiiholnaaGreatDoorF7
set_option linter.unusedSimpArgs false
set_option linter.unusedVariables false
namespace Go.Proofs.YtdgejeiiiholnaaGreatDoor
open Go.RowKit

/-- Lines and diagnostics that lie. -/
structure LD (w W : World) (q : List Lin × List Dia) (v d : Value) : Prop where
  bel : Below w.heap.size w W
  ln : Sl 2 elLin W (· < W.heap.size) v q.1
  di : Sl 3 elDia W (· < W.heap.size) d q.2
theorem LD.below {w W W' : World} {q : List Lin × List Dia} {v d : Value} (h : LD w W q v d) (hb : Below W.heap.size W W') : LD w W' q v d :=
  ⟨h.bel.trans (hb.mono h.bel.size), h.ln.keep elLin_good (Same.below hb fun _ h => h) fun b h => Nat.lt_of_lt_of_le h hb.size, h.di.keep elDia_good (Same.below hb fun _ h => h) fun b h => Nat.lt_of_lt_of_le h hb.size⟩
theorem LD.of {w W W' : World} {q : List Lin × List Dia} {e : Ending} (hW : Below w.heap.size w W) (h : SplitPost W q e W') : ∃ v d, e = .returned (.tuple #[v, d]) ∧ LD w W' q v d ∧ Below W.heap.size W W' := by
  obtain ⟨v, d, rfl, h1, h2, hb⟩ := h
  exact ⟨v, d, rfl, ⟨hW.trans (hb.mono hW.size), h1.keep elLin_good (Same.refl _ _) fun b h => h.2, h2.keep elDia_good (Same.refl _ _) fun b h => h.2⟩, hb⟩
theorem LD.drewN {w W : World} {q : List Lin × List Dia} {v d : Value} (h : LD w W q v d) (n : Nat) : LD w (W.drewN n) q v d := h.below (Below.drewN_ (Below.refl _ _) n)
end Go.Proofs.YtdgejeiiiholnaaGreatDoor
