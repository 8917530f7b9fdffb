/- The reference's cursor: Ident, Reject, Close. -/
import Derived.Test.YtnacklbaphobbaaGreatDoorF8
set_option linter.unusedSimpArgs false
set_option linter.unusedVariables false
namespace Go.Proofs.YtnacklbaphobbaaGreatDoor
open Go.RowKit

def RKeyPost (w : World) (F : Nat → Prop) (g : Nat) (r : Cur × Bool) (x : Ending) (w' : World) : Prop := x = .returned (.bool r.2) ∧ RCurAt w' F g r.1 ∧ Only g w w'
def RStrCur (w : World) (F : Nat → Prop) (g : Nat) (r : Cur × List UInt8) (x : Ending) (w' : World) : Prop := x = .returned (.string (S r.2)) ∧ RCurAt w' F g r.1 ∧ Only g w w'
def RIntCur (w : World) (F : Nat → Prop) (g : Nat) (r : Cur × Int) (x : Ending) (w' : World) : Prop := x = .returned (.int .i64 r.2) ∧ RCurAt w' F g r.1 ∧ Only g w w'
theorem rcur_next_some {c c' : Cur} {t : List UInt8} {q : Bool} {F : Nat → Prop} {g : Nat} {w : World} (h : RCurAt w F g c) (hr : (c', t, true) = c.read q) :
    Calls Tryz.prog 102 #[.pointer (some ⟨g, 0, none⟩), .bool q] w fun x w' => x = .returned (.tuple #[.agg #[.string (S t), .int .i64 c'.last, .bool q], .bool true]) ∧ RCurAt w' F g c' ∧ Only g w w' := by
  have := rcur_next c q F g w h
  rw [← hr] at this
  exact this
theorem rcur_next_none {c c' : Cur} {t : List UInt8} {q : Bool} {F : Nat → Prop} {g : Nat} {w : World} (h : RCurAt w F g c) (hr : (c', t, false) = c.read q) :
    Calls Tryz.prog 102 #[.pointer (some ⟨g, 0, none⟩), .bool q] w fun x w' => x = .returned (.tuple #[.agg #[.string ⟨#[]⟩, .int .i64 0, .bool false], .bool false]) ∧ RCurAt w' F g c' ∧ Only g w w' := by
  have := rcur_next c q F g w h
  rw [← hr] at this
  exact this
/-- A field that was read leaves no error behind. -/
theorem read_err {c c' : Cur} {t : List UInt8} {q : Bool} (hr : (c', t, true) = c.read q) : c'.err = 0 := by
  unfold Cur.read Cur.fail at hr
  repeat' split at hr
  all_goals (rcases Prod.mk.inj hr with ⟨h1, h2⟩; rcases Prod.mk.inj h2 with ⟨h2, h3⟩; first | (exact absurd h3 (by decide)) | (rw [h1]; assumption))
theorem read_none {c c' : Cur} {t : List UInt8} {q : Bool} (hr : (c', t, false) = c.read q) : t = [] := by
  unfold Cur.read Cur.fail at hr
  repeat' split at hr
  all_goals (rcases Prod.mk.inj hr with ⟨h1, h2⟩; rcases Prod.mk.inj h2 with ⟨h2, h3⟩; first | exact h2 | (exact absurd h3 (by decide)))

set_option maxRecDepth 100000 in
set_option maxHeartbeats 2000000 in
theorem rcur_Ident (c : Cur) (F : Nat → Prop) (g : Nat) (w : World) (h : RCurAt w F g c) (hlen : ∀ f ∈ c.fields, f.text.length ≤ 1000000000) :
    Calls Tryz.prog 80 #[.pointer (some ⟨g, 0, none⟩)] w (RStrCur w F g c.ident) := by
  obtain ⟨q, hq⟩ : ∃ q, q = c.ident := ⟨_, rfl⟩
  rw [← hq]
  unfold Cur.ident at hq
  have htl := Cur.read_text c false hlen
  obtain ⟨⟨c', t, ok⟩, hr⟩ : ∃ r, r = c.read false := ⟨_, rfl⟩
  rw [← hr] at hq htl
  dsimp only at htl
  have HQ := Lib.hid hq
  cases ok
  · have hrd := rcur_next_none h hr
    have ht0 := read_none hr
    have HRD := Lib.hid hrd
    have HT := Lib.hid ht0
    clear hrd hr hq h hlen ht0
    go_enter Tryz.func80, Tryz.ntmps80
    go_wp2_with (go_at_call 102; refine HRD.out.mono ?_; rintro e w2 ⟨rfl, hc2, ho2⟩)
    go_ret
    rw [HQ.out, if_neg (by simp)]
    exact ⟨by rw [HT.out]; rfl, hc2.alloc _, ho2.alloc _⟩
  · have hrd := rcur_next_some h hr
    have he0 := read_err hr
    have HRD := Lib.hid hrd
    have HE := Lib.hid he0
    clear hrd hr hq h hlen he0
    cases hn : nameS t
    · have HN := Lib.hid hn
      go_enter Tryz.func80, Tryz.ntmps80
      go_wp2_with (first | (go_at_call 102; refine HRD.out.mono ?_; rintro e w2 ⟨rfl, hc2, ho2⟩; have HC2 := Lib.hid hc2; have HO2 := Lib.hid ho2; clear hc2 ho2) | (go_at_call 34; refine (ref_Name (S t) _ (by simp only [S_size, maxLen]; omega)).mono ?_; rintro e w3 ⟨rfl, rfl⟩) | (go_at_call 103; refine (rcur_fail c' 5 c'.last F g _ (HC2.out.alloc _) HE.out).mono ?_; rintro e w4 ⟨rfl, hc4, ho4⟩))
      go_ret
      rw [HQ.out, if_pos ⟨trivial, HN.out⟩]
      exact ⟨rfl, hc4, (HO2.out.alloc _).trans ho4⟩
    · have HN := Lib.hid hn
      go_enter Tryz.func80, Tryz.ntmps80
      go_wp2_with (first | (go_at_call 102; refine HRD.out.mono ?_; rintro e w2 ⟨rfl, hc2, ho2⟩; have HC2 := Lib.hid hc2; have HO2 := Lib.hid ho2; clear hc2 ho2) | (go_at_call 34; refine (ref_Name (S t) _ (by simp only [S_size, maxLen]; omega)).mono ?_; rintro e w3 ⟨rfl, rfl⟩))
      go_ret
      rw [HQ.out, if_neg (by rw [HN.out]; simp)]
      exact ⟨rfl, HC2.out.alloc _, HO2.out.alloc _⟩
end Go.Proofs.YtnacklbaphobbaaGreatDoor
