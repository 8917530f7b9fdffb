/- Words for distributions in memory; the contracts of order, Before, and cmp.Compare at ints. -/
import Derived.Test.YtfnfbojaiikigaaGreatDoorP51
import Derived.Test.YtfnfbojaiikigaaGreatDoorR
import Derived.Test.YtfnfbojaiikigaaGreatDoorT1
import Derived.IntWalk
import Derived.BigQuiet
import Derived.Deep.RegionHeld3
import Derived.Deep.OwnRows
set_option linter.unusedSimpArgs false
set_option linter.unusedVariables false
namespace Go.Proofs.YtfnfbojaiikigaaGreatDoor
open Go.RowKit

def elOtc (_ : World) (_ : Nat → Prop) (cs : List Value) (o : Otc) : Prop := cs = [.int .i64 o.runs, .bool o.wick, .int .i64 o.wt]
theorem elOtc_good : Good elOtc := ⟨fun h _ _ => h⟩
/-- The outcome k of a list that lies. -/
theorem otc_at {w : World} {F : Nat → Prop} {A : Option Addr} {n c : Nat} {l : List Otc} (h : Sl 3 elOtc w F (.slice A n c) l) {k : Nat} (hk : k < l.length) :
    ∃ b o, A = some ⟨b, o, none⟩ ∧ F b ∧ w.cell? ⟨b, o + k * 3, none⟩ = some (.int .i64 l[k].runs) ∧ w.cell? ⟨b, o + k * 3 + 1, none⟩ = some (.bool l[k].wick) ∧ w.cell? ⟨b, o + k * 3 + 2, none⟩ = some (.int .i64 l[k].wt) := by
  obtain ⟨b, o, cs, h1, h2, h3, h4, h5⟩ := h.at hk
  have h5' : cs = [.int .i64 l[k].runs, .bool l[k].wick, .int .i64 l[k].wt] := h5
  subst h5'
  have y0 := h4 0 _ rfl
  rw [Nat.add_zero] at y0
  exact ⟨b, o, h1, h2, y0, h4 1 _ rfl, h4 2 _ rfl⟩
/-- The weight k of a list that lies. -/
theorem int_at {w : World} {F : Nat → Prop} {A : Option Addr} {n c : Nat} {l : List Int} (h : Sl 1 elInt w F (.slice A n c) l) {k : Nat} (hk : k < l.length) :
    ∃ b o, A = some ⟨b, o, none⟩ ∧ F b ∧ w.cell? ⟨b, o + k, none⟩ = some (.int .i64 l[k]) := by
  obtain ⟨b, o, cs, h1, h2, h3, h4, h5⟩ := h.at hk
  have h5' : cs = [.int .i64 l[k]] := h5
  subst h5'
  have y0 := h4 0 _ rfl
  rw [Nat.add_zero, Nat.mul_one] at y0
  exact ⟨b, o, h1, h2, y0⟩
def outV (o : Otc) : Value := .agg #[.int .i64 o.runs, .bool o.wick, .int .i64 o.wt]
def cmpI (a b : Int) : Int := if a < b then -1 else if b < a then 1 else 0
set_option maxRecDepth 100000 in
theorem cmp_nan (a : Int) (w : World) : Calls Tryz.prog 132 #[.int .i64 a] w fun e w' => e = .returned (.bool false) ∧ w = w' := by
  go_enter Tryz.func132, Tryz.ntmps132
  go_wp2
  go_ret
  exact ⟨ret_b (by simp), rfl⟩
set_option maxRecDepth 100000 in
theorem cmp_intE (a b : Int) (w : World) : Calls Tryz.prog 100 #[.int .i64 a, .int .i64 b] w fun e w' => e = .returned (.int .i64 (cmpI a b)) ∧ w = w' := by
  unfold cmpI
  by_cases h1 : a < b
  · rw [if_pos h1]
    go_enter Tryz.func100, Tryz.ntmps100
    go_wp2_with (go_at_call 132; refine (cmp_nan _ _).mono ?_; rintro e w2 ⟨rfl, rfl⟩)
    go_ret
    exact ⟨rfl, rfl⟩
  · rw [if_neg h1]
    by_cases h2 : b < a
    · rw [if_pos h2]
      go_enter Tryz.func100, Tryz.ntmps100
      go_wp2_with (go_at_call 132; refine (cmp_nan _ _).mono ?_; rintro e w2 ⟨rfl, rfl⟩)
      go_ret
      exact ⟨rfl, rfl⟩
    · rw [if_neg h2]
      go_enter Tryz.func100, Tryz.ntmps100
      go_wp2_with (go_at_call 132; refine (cmp_nan _ _).mono ?_; rintro e w2 ⟨rfl, rfl⟩)
      go_ret
      exact ⟨rfl, rfl⟩
theorem cmp_int (a b : Int) (w : World) : Calls Tryz.prog 100 #[.int .i64 a, .int .i64 b] w fun e w' => e = .returned (.int .i64 (cmpI a b)) ∧ Below w.heap.size w w' :=
  (cmp_intE a b w).mono fun e w' h => ⟨h.1, by rw [h.2]; exact Below.refl _ _⟩
set_option maxRecDepth 100000 in
set_option maxHeartbeats 1000000 in
theorem ch_orderE (a b : Otc) (w : World) : Calls Tryz.prog 120 #[outV a, outV b] w fun e w' => e = .returned (.int .i64 (ordS a b)) ∧ w' = (w.alloc (.cells #[.int .i64 a.runs, .bool a.wick, .int .i64 a.wt] 46)).alloc (.cells #[.int .i64 b.runs, .bool b.wick, .int .i64 b.wt] 46) := by
  unfold outV
  by_cases hr : a.runs = b.runs
  · have e1 : (a.runs != b.runs) = false := by rw [hr]; simp
    obtain ⟨ar, aw, at_⟩ := a
    obtain ⟨br, bw, bt⟩ := b
    dsimp only at hr e1 ⊢
    have hz : ordS ⟨ar, aw, at_⟩ ⟨br, bw, bt⟩ = if aw = bw then 0 else if bw = true then -1 else 1 := by unfold ordS; rw [if_neg (fun k => k hr)]
    rw [hz]
    clear hz hr
    cases aw <;> cases bw
    all_goals
      go_enter Tryz.func120, Tryz.ntmps120
      go_wp2
      go_ret
      exact ⟨rfl, rfl⟩
  · have e1 : (a.runs != b.runs) = true := by rw [bne_iff_ne]; exact hr
    have hz : ordS a b = cmpI a.runs b.runs := by
      unfold ordS cmpI; rw [if_pos hr]
      by_cases h : a.runs < b.runs
      · rw [if_pos h, if_pos h]
      · rw [if_neg h, if_neg h, if_pos (by omega)]
    rw [hz]
    clear hz hr
    go_enter Tryz.func120, Tryz.ntmps120
    go_wp2_with (go_at_call 100; refine (cmp_intE _ _ _).mono ?_; rintro e w2 ⟨rfl, rfl⟩)
    all_goals go_ret
    all_goals exact ⟨rfl, rfl⟩
theorem ch_order (a b : Otc) (w : World) : Calls Tryz.prog 120 #[outV a, outV b] w fun e w' => e = .returned (.int .i64 (ordS a b)) ∧ Below w.heap.size w w' :=
  (ch_orderE a b w).mono fun e w' h => ⟨h.1, by rw [h.2]; exact Below.alloc (Below.alloc (Below.refl _ _) (Nat.le_refl _) _) (by simp) _⟩
set_option maxRecDepth 100000 in
set_option maxHeartbeats 1000000 in
theorem ref_Before (a b : Otc) (w : World) : Calls Tryz.prog 129 #[outV a, outV b] w fun e w' => e = .returned (.bool (befB a b)) ∧ Below w.heap.size w w' := by
  unfold outV
  have hend : Below w.heap.size w ((w.alloc (.cells #[.int .i64 a.runs, .bool a.wick, .int .i64 a.wt] 46)).alloc (.cells #[.int .i64 b.runs, .bool b.wick, .int .i64 b.wt] 46)) := Below.alloc (Below.alloc (Below.refl _ _) (Nat.le_refl _) _) (by simp) _
  obtain ⟨ar, aw, at_⟩ := a
  obtain ⟨br, bw, bt⟩ := b
  have HE := Lib.hid hend
  clear hend
  dsimp only at HE ⊢
  obtain ⟨z, hz⟩ : ∃ z, z = befB ⟨ar, aw, at_⟩ ⟨br, bw, bt⟩ := ⟨_, rfl⟩
  rw [← hz]
  unfold befB ordS at hz
  by_cases h1 : ar < br
  · have e1 : decide (ar < br) = true := decide_eq_true h1
    have HZ := Lib.hid (show z = true by rw [hz]; simp only; rw [if_pos (by omega), if_pos h1]; rfl)
    clear hz h1
    go_enter Tryz.func129, Tryz.ntmps129
    go_wp2
    go_ret
    exact ⟨ret_b HZ.out.symm, HE.out⟩
  · have e1 : decide (ar < br) = false := decide_eq_false h1
    by_cases h2 : ar = br
    · have e2 : (ar == br) = true := beq_iff_eq.2 h2
      have HZ := Lib.hid (show z = (!aw && bw) by rw [hz]; simp only; rw [if_neg (fun k => k h2)]; cases aw <;> cases bw <;> rfl)
      clear hz h1 h2
      cases aw <;> cases bw
      all_goals
        go_enter Tryz.func129, Tryz.ntmps129
        go_wp2
        go_ret
        exact ⟨ret_b HZ.out.symm, HE.out⟩
    · have e2 : (ar == br) = false := beq_eq_false_iff_ne.2 h2
      have HZ := Lib.hid (show z = false by rw [hz]; simp only; rw [if_pos h2, if_neg h1]; rfl)
      clear hz h1 h2
      go_enter Tryz.func129, Tryz.ntmps129
      go_wp2
      go_ret
      exact ⟨ret_b HZ.out.symm, HE.out⟩
end Go.Proofs.YtfnfbojaiikigaaGreatDoor
