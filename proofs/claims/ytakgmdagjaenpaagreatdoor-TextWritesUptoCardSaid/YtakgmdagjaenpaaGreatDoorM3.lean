/- The walk of TextSplits: the lines and the diagnostics of any source are the reference's. -/
import Derived.Test.YtakgmdagjaenpaaGreatDoorM2
import Derived.Test.YtakgmdagjaenpaaGreatDoorF7
set_option linter.unusedSimpArgs false
set_option linter.unusedVariables false
namespace Go.Proofs.YtakgmdagjaenpaaGreatDoor
open Go.RowKit

/-- Lines and diagnostics that lie. -/
structure LD (w W : World) (q : List Lin × List Dia) (v d : Value) : Prop where
  bel : Below w.heap.size w W
  ln : Sl 2 elLin W (· < W.heap.size) v q.1
  di : Sl 3 elDia W (· < W.heap.size) d q.2
theorem LD.below {w W W' : World} {q : List Lin × List Dia} {v d : Value} (h : LD w W q v d) (hb : Below W.heap.size W W') : LD w W' q v d :=
  ⟨h.bel.trans (hb.mono h.bel.size), h.ln.keep elLin_good (Same.below hb fun _ h => h) fun b h => Nat.lt_of_lt_of_le h hb.size, h.di.keep elDia_good (Same.below hb fun _ h => h) fun b h => Nat.lt_of_lt_of_le h hb.size⟩
theorem LD.of {w W W' : World} {q : List Lin × List Dia} {e : Ending} (hW : Below w.heap.size w W) (h : SplitPost W q e W') : ∃ v d, e = .returned (.tuple #[v, d]) ∧ LD w W' q v d ∧ Below W.heap.size W W' := by
  obtain ⟨v, d, rfl, h1, h2, hb⟩ := h
  exact ⟨v, d, rfl, ⟨hW.trans (hb.mono hW.size), h1.keep elLin_good (Same.refl _ _) fun b h => h.2, h2.keep elDia_good (Same.refl _ _) fun b h => h.2⟩, hb⟩
theorem LD.drewN {w W : World} {q : List Lin × List Dia} {v d : Value} (h : LD w W q v d) (n : Nat) : LD w (W.drewN n) q v d := h.below (Below.drewN_ (Below.refl _ _) n)
set_option maxRecDepth 100000 in
set_option maxHeartbeats 2000000 in
theorem law_Splits (s : ByteArray) (w : World) (hg : GlobN w) (hs : s.size ≤ maxLen) :
    Calls Tryz.prog 3 #[.string s] w fun e w' => e = .returned (.bool true) ∧ Below w.heap.size w w' := by
  unfold maxLen at hs
  have HAW := Lib.hid (law03_awake w hg)
  by_cases h5 : (5000 : Int) < (s.size : Int)
  · clear hg
    go_enter Tryz.func3, Tryz.ntmps3
    go_wp2_with (go_at_call 13; refine HAW.out.mono ?_; rintro e w1 ⟨rfl, hb1⟩; have HB1 := Lib.hid hb1; clear hb1)
    go_ret
    exact ⟨rfl, HB1.out⟩
  · obtain ⟨q, hq⟩ : ∃ q, q = splitS s.data.toList := ⟨_, rfl⟩
    have k1 : ∀ W, Below w.heap.size w W → Calls Tryz.prog 14 #[.string s] W fun e W' => ∃ v d, e = .returned (.tuple #[v, d]) ∧ LD w W' q v d ∧ Below W.heap.size W W' := fun W hW => by
      refine (text_Split s W (hg.below hW).glob (by omega)).mono ?_
      intro e W' h
      rw [← hq] at h
      exact LD.of hW h
    have k2 : ∀ W v d, LD w W q v d → Calls Tryz.prog 15 #[.string s] W fun e W' => ∃ v' d', e = .returned (.tuple #[v', d']) ∧ LD w W' q v d ∧ LD w W' q v' d' := fun W v d hW => by
      refine (ref_Split s W (by omega)).mono ?_
      intro e W' h
      rw [← hq] at h
      obtain ⟨v', d', rfl, h1, h2⟩ := LD.of hW.bel h
      exact ⟨v', d', rfl, hW.below h2, h1⟩
    have K1 := Lib.hid k1
    have K2 := Lib.hid k2
    clear k1 k2 hq hg
    go_enter Tryz.func3, Tryz.ntmps3
    go_wp2_with (first
      | (go_at_call 13; refine HAW.out.mono ?_; rintro e w1 ⟨rfl, hb1⟩; have HB1 := Lib.hid hb1; clear hb1)
      | (go_at_call 14; refine (K1.out _ HB1.out).mono ?_; rintro e w2 ⟨v, d, rfl, h2, _⟩; have H2 := Lib.hid h2; clear h2)
      | (go_at_call 15; refine (K2.out _ _ _ H2.out).mono ?_; rintro e w3 ⟨v', d', rfl, h3, h3'⟩; have H3 := Lib.hid h3; have H3' := Lib.hid h3'; clear h3 h3')
      | (go_at_call 16; refine (law_sameLines q.1 _ _ _ _ _ H3.out.ln H3'.out.ln).mono ?_; rintro e w4 ⟨rfl, n4, rfl⟩; have H4 := Lib.hid (H3.out.drewN n4); have H4' := Lib.hid (H3'.out.drewN n4))
      | (go_at_call 17; refine (law_sameDiags q.2 _ _ _ _ _ H4.out.di H4'.out.di).mono ?_; rintro e w5 ⟨rfl, n5, rfl⟩))
    go_ret
    exact ⟨rfl, Below.drewN_ H3.out.bel _⟩
end Go.Proofs.YtakgmdagjaenpaaGreatDoor
