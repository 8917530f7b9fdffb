/- Rules in memory; between, inRange, phases (once U1, U2). -/
import Derived.Test.YtnacklbaphobbaaGreatDoorPP
import Derived.Test.YtnacklbaphobbaaGreatDoorT1
import Derived.Test.YtnacklbaphobbaaGreatDoorR
import Derived.Deep.QuietTactic
import Derived.IntWalk
import Derived.BigQuiet
set_option linter.unusedSimpArgs false
set_option linter.unusedVariables false
namespace Go.Proofs.YtnacklbaphobbaaGreatDoor
section
/-! part U1 -/
open Go.RowKit

def elPha (_ : World) (_ : Nat → Prop) (cs : List Value) (p : Pha) : Prop := cs = [.int .i64 p.fr, .int .i64 p.til, .int .i64 p.out]
theorem elPha_good : Good elPha := ⟨fun h _ _ => h⟩
def rulCells (r : Rul) (pv : Value) : Array Value := #[.string (S r.name), .int .i64 r.side, .int .i64 r.inns, .int .i64 r.overs, .int .i64 r.balls, .int .i64 r.quota, .int .i64 r.wide, .int .i64 r.noball, .bool r.free, .int .i64 r.newball, .int .i64 r.follow, .int .i64 r.reviews, .int .i64 r.outside, pv]
def rulV (r : Rul) (pv : Value) : Value := .agg (rulCells r pv)

theorem rul_between (n lo hi : Int) (w : World) : Calls Tryz.prog 59 #[.int .i64 n, .int .i64 lo, .int .i64 hi] w fun e w' => e = .returned (.bool (inB n lo hi)) ∧ w = w' := by
  by_cases h : lo ≤ n
  · have e1 : decide (lo ≤ n) = true := decide_eq_true h
    go_enter Tryz.func59, Tryz.ntmps59
    go_wp2
    go_ret
    exact ⟨ret_b (by unfold inB; rw [e1]; simp), rfl⟩
  · have e1 : decide (lo ≤ n) = false := decide_eq_false h
    go_enter Tryz.func59, Tryz.ntmps59
    go_wp2
    go_ret
    exact ⟨ret_b (by unfold inB; rw [e1]; simp), rfl⟩
theorem ref_in (n lo hi : Int) (w : World) : Calls Tryz.prog 35 #[.int .i64 n, .int .i64 lo, .int .i64 hi] w fun e w' => e = .returned (.bool (inB n lo hi)) ∧ w = w' := by
  by_cases h : lo ≤ n
  · have e1 : decide (lo ≤ n) = true := decide_eq_true h
    go_enter Tryz.func35, Tryz.ntmps35
    go_wp2
    go_ret
    exact ⟨ret_b (by unfold inB; rw [e1]; simp), rfl⟩
  · have e1 : decide (lo ≤ n) = false := decide_eq_false h
    go_enter Tryz.func35, Tryz.ntmps35
    go_wp2
    go_ret
    exact ⟨ret_b (by unfold inB; rw [e1]; simp), rfl⟩
set_option maxRecDepth 100000 in
set_option maxHeartbeats 2000000 in
theorem rul_inRange (r : Rul) (pv : Value) (w : World) : Calls Tryz.prog 32 #[rulV r pv] w fun e w' => e = .returned (.bool (inRangeS r)) ∧ Below w.heap.size w w' := by
  obtain ⟨z, hz⟩ : ∃ z, z = inRangeS r := ⟨_, rfl⟩
  rw [← hz]
  unfold inRangeS at hz
  have HZ := Lib.hid hz
  clear hz
  unfold rulV rulCells
  go_enter Tryz.func32, Tryz.ntmps32
  go_wp2_with (go_at_call 59; refine (rul_between _ _ _ _).mono ?_; rintro e w2 ⟨rfl, rfl⟩)
  all_goals go_ret
  all_goals refine ⟨ret_b ?_, Below.alloc (Below.refl _ _) (Nat.le_refl _) _⟩
  all_goals (rw [HZ.out]; simp [*])
end

section
/-! part U2 -/
open Go.RowKit

/-- The rules r lie in block g; their powerplays below. -/
structure RulAt (w : World) (g : Nat) (r : Rul) (pv : Value) : Prop where
  blk : Blk w g 24 (rulCells r pv)
  sl : Sl 3 elPha w (· < w.heap.size) pv r.power
theorem RulAt.below {w w' : World} {g : Nat} {r : Rul} {pv : Value} (h : RulAt w g r pv) (hb : Below w.heap.size w w') : RulAt w' g r pv :=
  ⟨h.blk.below hb h.blk.lt, h.sl.keep elPha_good (Same.below hb fun _ h => h) fun b h => Nat.lt_of_lt_of_le h hb.size⟩
theorem RulAt.new {w : World} {r : Rul} {pv : Value} (h : Sl 3 elPha w (· < w.heap.size) pv r.power) : RulAt (w.alloc (.cells (rulCells r pv) 24)) w.heap.size r pv :=
  ⟨Blk.new w _ _, h.keep elPha_good (Same.below (Below.alloc (Below.refl w.heap.size w) (Nat.le_refl _) _) fun _ h => h) fun b h => by simp; omega⟩
/-- The powerplay k of a list that lies. -/
theorem pha_at {w : World} {F : Nat → Prop} {A : Option Addr} {n c : Nat} {l : List Pha} (h : Sl 3 elPha w F (.slice A n c) l) {k : Nat} (hk : k < l.length) :
    ∃ b o, A = some ⟨b, o, none⟩ ∧ F b ∧ w.cell? ⟨b, o + k * 3, none⟩ = some (.int .i64 l[k].fr) ∧ w.cell? ⟨b, o + k * 3 + 1, none⟩ = some (.int .i64 l[k].til) ∧ w.cell? ⟨b, o + k * 3 + 2, none⟩ = some (.int .i64 l[k].out) := by
  obtain ⟨b, o, cs, h1, h2, h3, h4, h5⟩ := h.at hk
  have h5' : cs = [.int .i64 l[k].fr, .int .i64 l[k].til, .int .i64 l[k].out] := h5
  subst h5'
  have y0 := h4 0 _ rfl
  rw [Nat.add_zero] at y0
  exact ⟨b, o, h1, h2, y0, h4 1 _ rfl, h4 2 _ rfl⟩
set_option maxRecDepth 100000 in
set_option maxHeartbeats 2000000 in
theorem rul_phases (r : Rul) (pv : Value) (w : World) (h : Sl 3 elPha w (· < w.heap.size) pv r.power) : Calls Tryz.prog 33 #[rulV r pv] w fun e w' => e = .returned (.int .i64 (phasesS r)) ∧ Below w.heap.size w w' := by
  obtain ⟨z, hz⟩ : ∃ z, z = phasesS r := ⟨_, rfl⟩
  rw [← hz]
  unfold phasesS at hz
  obtain ⟨A, c, rfl, hc, hc2⟩ := h.shape
  have hA := RulAt.new h
  have hb0 : Below w.heap.size w (w.alloc (.cells (rulCells r (.slice A r.power.length c)) 24)) := Below.alloc (Below.refl _ _) (Nat.le_refl _) _
  unfold rulV
  unfold rulCells at *
  by_cases h8 : 8 < r.power.length
  · rw [if_pos h8] at hz
    have HZ := Lib.hid hz
    have h8' : (8 : Int) < (r.power.length : Int) := by omega
    clear hz hA h
    have HB0 := Lib.hid hb0
    clear hb0
    go_enter Tryz.func33, Tryz.ntmps33
    go_wp2
    go_ret
    exact ⟨ret_i HZ.out.symm, HB0.out⟩
  · rw [if_neg h8] at hz
    have h8' : (r.power.length : Int) ≤ 8 := by omega
    have HZ := Lib.hid hz
    have H := Lib.hid h
    have HA := Lib.hid hA
    have HB0 := Lib.hid hb0
    clear hz hA h hb0
    go_enter Tryz.func33, Tryz.ntmps33
    go_wp2
    go_loopw [12] (fun i wr => ∃ k : Nat, k ≤ r.power.length ∧ i = .int .i64 k ∧ Below w.heap.size w wr ∧ RulAt wr w.heap.size r (.slice A r.power.length c) ∧ Hid (z = phasesF r.overs (r.power.drop k) (prevP r.power k)))
      (fun i _ => r.power.length - (intOf i).toNat)
    case atStart => exact ⟨0, Nat.zero_le _, rfl, HB0.out, HA.out, HZ.out⟩
    case round =>
      obtain ⟨k, hk, rfl, hb, ha, hzz⟩ := hrel
      have HB := Lib.hid hb
      have HAA := Lib.hid ha
      by_cases hlt : k < r.power.length
      · obtain ⟨b, o, rfl, hbl, y0, y1, y2⟩ := pha_at ha.sl hlt
        have hzz' := hzz.out
        rw [phasesF_at hlt] at hzz'
        obtain ⟨⟨pf, pt, po⟩, hp⟩ : ∃ p, p = r.power[k] := ⟨_, rfl⟩
        rw [← hp] at y0 y1 y2 hzz'
        have hkb := ha.blk
        have hg := hkb.lt
        unfold rulCells at hkb
        have x3 := hkb.cell 3
        have x13 := hkb.cell 13
        simp only [List.getElem?_toArray, List.getElem?_cons_zero, List.getElem?_cons_succ] at x3 x13
        have HP := Lib.hid hp
        rcases phaB_ways r.overs ⟨pf, pt, po⟩ with ⟨hB, hw⟩ | ⟨hB, e1, e2, e3, e4⟩
        · have hz2 : z = 2 := by rw [hzz', phaErr_two hB]; rfl
          have HZZ := Lib.hid hz2
          clear hb ha hzz hzz' hkb hp hz2 hB
          rcases hw with e1 | ⟨e1, e2⟩ | ⟨e1, e2, e3⟩ | ⟨e1, e2, e3, e4⟩
          all_goals
            dsimp only at *
            go_wp2_with (go_at_call 59; refine (rul_between _ _ _ _).mono ?_; rintro e w2 ⟨rfl, rfl⟩)
            go_ret
            exact ⟨ret_i HZZ.out.symm, Below.alloc HB.out HB.out.size _⟩
        · dsimp only at e1 e2 e3 e4
          by_cases hk0 : k = 0
          · have hz2 : z = phasesF r.overs (r.power.drop (k + 1)) (prevP r.power (k + 1)) := by
              rw [hzz', hk0, prevP_zero, phaErr_none hB]; rfl
            have HZZ := Lib.hid hz2
            have g1 : decide ((0 : Int) < (k : Int)) = false := decide_eq_false (by omega)
            have g2 : decide (0 < k) = false := decide_eq_false (by omega)
            clear hb ha hzz hzz' hkb hp hz2 hB hk0
            go_wp2_with (go_at_call 59; refine (rul_between _ _ _ _).mono ?_; rintro e w2 ⟨rfl, rfl⟩)
            go_quiet (fail)
            go_wp2
            go_roundw
            case rel => exact ⟨k + 1, by omega, by go_num, Below.drewN_ (Below.alloc HB.out HB.out.size _) _, HAA.out.below (Below.drewN_ (Below.alloc (Below.refl _ _) (Nat.le_refl _) _) _), HZZ.out⟩
            case measure => simp [intOf]; omega
          · obtain ⟨b', o', hbo, hbl', q0, q1, q2⟩ := pha_at ha.sl (k := k - 1) (by omega)
            simp only [Option.some.injEq, Addr.mk.injEq] at hbo
            obtain ⟨rfl, rfl, _⟩ := hbo
            obtain ⟨x, hx⟩ : ∃ x, x = r.power[k - 1]'(by omega) := ⟨_, rfl⟩
            have hz2 : z = if (if pf ≤ x.til then (8 : Int) else 0) ≠ 0 then (if pf ≤ x.til then (8 : Int) else 0) else phasesF r.overs (r.power.drop (k + 1)) (prevP r.power (k + 1)) := by
              rw [hzz', prevP_succ hk0 (by omega), phaErr_some hB, ← hx]
            rw [← hx] at q0 q1 q2
            have g1 : decide ((0 : Int) < (k : Int)) = true := decide_eq_true (by omega)
            have g2 : decide (0 < k) = true := decide_eq_true (by omega)
            have s1 : IntKind.i64.wrap ((k : Int) - 1) = (k : Int) - 1 := IntWalk.i64_in _ (by omega)
            have s2 : (0 : Int) ≤ (k : Int) - 1 := by omega
            have s3 : ((k : Int) - 1).toNat = k - 1 := by omega
            have s4 : (k : Int) - 1 < (r.power.length : Int) := by omega
            by_cases hle : pf ≤ x.til
            · rw [if_pos hle, if_pos (by decide)] at hz2
              have HZZ := Lib.hid hz2
              have g3 : decide (pf ≤ x.til) = true := decide_eq_true hle
              clear hb ha hzz hzz' hkb hp hz2 hB hk0 hx
              go_wp2_with (go_at_call 59; refine (rul_between _ _ _ _).mono ?_; rintro e w2 ⟨rfl, rfl⟩)
              go_quiet (fail)
              go_wp2
              go_ret
              exact ⟨ret_i HZZ.out.symm, Below.drewN_ (Below.alloc HB.out HB.out.size _) _⟩
            · rw [if_neg hle, if_neg (by decide)] at hz2
              have HZZ := Lib.hid hz2
              have g3 : decide (pf ≤ x.til) = false := decide_eq_false hle
              clear hb ha hzz hzz' hkb hp hz2 hB hk0 hx
              go_wp2_with (go_at_call 59; refine (rul_between _ _ _ _).mono ?_; rintro e w2 ⟨rfl, rfl⟩)
              go_quiet (fail)
              go_wp2
              go_roundw
              case rel => exact ⟨k + 1, by omega, by go_num, Below.drewN_ (Below.alloc HB.out HB.out.size _) _, HAA.out.below (Below.drewN_ (Below.alloc (Below.refl _ _) (Nat.le_refl _) _) _), HZZ.out⟩
              case measure => simp [intOf]; omega
      · obtain rfl : k = r.power.length := by omega
        have hzz' := hzz.out
        rw [phasesF_end (Nat.le_refl _)] at hzz'
        have HZZ := Lib.hid hzz'
        clear hb ha hzz hzz'
        go_wp2
        go_ret
        exact ⟨ret_i HZZ.out.symm, HB.out⟩
end
end Go.Proofs.YtnacklbaphobbaaGreatDoor
