/- The contracts of the cursor's Word, String and Int. Int asks that the library's tables lie as they should in every world that differs from the first one by the cursor's block alone. -/
import Derived.Test.YtnacklbaphobbaaGreatDoorC
import Derived.Test.YtnacklbaphobbaaGreatDoorN3
import Derived.Test.YtnacklbaphobbaaGreatDoorPP
set_option linter.unusedSimpArgs false
set_option linter.unusedVariables false
namespace Go.Proofs.YtnacklbaphobbaaGreatDoor
open Go.RowKit

set_option maxRecDepth 100000 in
set_option maxHeartbeats 2000000 in
theorem cur_Int (c : Cur) (lo hi : Int) (F : Nat → Prop) (g : Nat) (w : World) (h : CurAt w F g c) (hlen : ∀ f ∈ c.fields, f.text.length ≤ 1000000000) (hg : ∀ W, Only g w W → GlobN W) :
    Calls Tryz.prog 73 #[.pointer (some ⟨g, 0, none⟩), .int .i64 lo, .int .i64 hi] w (IntCur w F g (c.intP lo hi)) := by
  obtain ⟨q, hq⟩ : ∃ q, q = c.intP lo hi := ⟨_, rfl⟩
  rw [← hq]
  unfold Cur.intP at hq
  have hrd := cur_read c false F g w h
  have htl := Cur.read_text c false hlen
  obtain ⟨⟨c', t, ok⟩, hr⟩ : ∃ r, r = c.read false := ⟨_, rfl⟩
  rw [← hr] at hrd hq htl
  dsimp only at htl
  have HRD := Lib.hid hrd
  clear hrd hr h hlen
  cases ok
  · have HQ := Lib.hid hq
    clear hq hg
    go_enter Tryz.func73, Tryz.ntmps73
    go_wp2_with (go_at_call 96; refine HRD.out.mono ?_; rintro e w2 ⟨rfl, hc2, ho2⟩)
    go_ret
    rw [HQ.out, if_neg (by simp)]
    exact ⟨rfl, hc2, ho2⟩
  · dsimp only at hq
    rw [if_pos rfl] at hq
    have kn0 : ∀ W, Only g w W → Calls Tryz.prog 97 #[.string (S t), .int .i64 lo, .int .i64 hi] W fun e W' => e = .returned (.tuple #[.int .i64 (numberS t lo hi).1, .int .i64 (numberS t lo hi).2]) ∧ Below W.heap.size W W' := fun W hW => by
      have := text_Number (S t) lo hi W (hg W hW) (by rw [S_size]; omega)
      rw [S_data] at this
      exact this
    obtain ⟨⟨v, er⟩, hv⟩ : ∃ z, z = numberS t lo hi := ⟨_, rfl⟩
    rw [← hv] at hq kn0
    have HQ := Lib.hid hq
    have KN := Lib.hid kn0
    clear hq hg hv kn0 htl
    go_enter Tryz.func73, Tryz.ntmps73
    go_wp2_with (first
      | (go_at_call 96; refine HRD.out.mono ?_; rintro e w2 ⟨rfl, hc2, ho2⟩; have HC2 := Lib.hid hc2; have HO2 := Lib.hid ho2; clear hc2 ho2)
      | (go_at_call 97; refine (KN.out _ HO2.out).mono ?_; rintro e w3 ⟨rfl, hb3⟩; have hc3 := HC2.out.below hb3; have c3 := hc3.last; have HC3 := Lib.hid hc3; have HO3 := Lib.hid (HO2.out.trans (Only.of_below hb3)); clear hc3 hb3)
      | (go_at_call 98; refine (cur_fail c' er c'.last F g _ HC3.out).mono ?_; rintro e w4 ⟨rfl, hc4, ho4⟩))
    go_ret
    rw [HQ.out]
    exact ⟨rfl, hc4, HO3.out.trans ho4⟩
end Go.Proofs.YtnacklbaphobbaaGreatDoor
