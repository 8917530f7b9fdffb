/- The contracts of slices.Equal at powerplays, rules.numbers, rules.Same. -/
import Derived.Test.YtnacklbaphobbaaGreatDoorU3
import Derived.Test.YtnacklbaphobbaaGreatDoorPP
import Derived.Laws.StructEq
import Derived.Deep.RegionHeld3
set_option linter.unusedSimpArgs false
set_option linter.unusedVariables false
namespace Go.Proofs.YtnacklbaphobbaaGreatDoor
open Go.RowKit

theorem drew_two (w : World) (n m : Nat) : ∃ k, (w.drewN n).drewN m = w.drewN k := ⟨n + m, by simp [World.drewN, Nat.add_assoc]⟩
set_option maxRecDepth 100000 in
set_option maxHeartbeats 2000000 in
theorem pha_Equal (l m : List Pha) (v v' : Value) (F F' : Nat → Prop) (w : World) (h : Sl 3 elPha w F v l) (h' : Sl 3 elPha w F' v' m) :
    Calls Tryz.prog 37 #[v, v'] w fun e w' => e = .returned (.bool (eqPhas l m)) ∧ ∃ n, w' = w.drewN n := by
  obtain ⟨z, hz⟩ : ∃ z, z = eqPhas l m := ⟨_, rfl⟩
  rw [← hz]
  obtain ⟨A, c, rfl, hc, hc2⟩ := Sl.shape h
  obtain ⟨A', c', rfl, hc', hc2'⟩ := Sl.shape h'
  have H := Lib.hid h
  have H' := Lib.hid h'
  clear h h'
  by_cases hlen : l.length = m.length
  · have HZ := Lib.hid hz
    have e1 : ((l.length : Int) != (m.length : Int)) = false := by simp [hlen]
    have HLEN := Lib.hid hlen
    clear hz hlen
    go_enter Tryz.func37, Tryz.ntmps37
    go_wp2
    go_loopw [13] (fun i wr => ∃ k : Nat, k ≤ l.length ∧ i = .int .i64 k ∧ (∃ n, wr = w.drewN n) ∧ Hid (z = eqPhas (l.drop k) (m.drop k))) (fun i _ => l.length - (intOf i).toNat)
    case atStart => exact ⟨0, Nat.zero_le _, rfl, ⟨0, rfl⟩, HZ.out⟩
    case round =>
      obtain ⟨k, hk, rfl, ⟨n, rfl⟩, hzz⟩ := hrel
      by_cases hlt : k < l.length
      · have hlt' : k < m.length := by rw [← HLEN.out]; exact hlt
        obtain ⟨b, o, rfl, hbl, y0, y1, y2⟩ := pha_at H.out hlt
        obtain ⟨b', o', rfl, hbl', q0, q1, q2⟩ := pha_at H'.out hlt'
        have hzz' := hzz.out
        rw [eqPhas_at hlt hlt'] at hzz'
        obtain ⟨⟨pf, pt, po⟩, hp⟩ : ∃ p, p = l[k] := ⟨_, rfl⟩
        obtain ⟨⟨qf, qt, qo⟩, hq⟩ : ∃ p, p = m[k] := ⟨_, rfl⟩
        rw [← hp] at y0 y1 y2 hzz'
        rw [← hq] at q0 q1 q2 hzz'
        unfold eqPha at hzz'
        dsimp only at y0 y1 y2 q0 q1 q2 hzz'
        rcases boor (pf == qf) with g1 | g1
        · rcases boor (pt == qt) with g2 | g2
          · rcases boor (po == qo) with g3 | g3
            · rw [g1, g2, g3, Bool.and_self, Bool.and_self, Bool.true_and] at hzz'
              have HZZ := Lib.hid hzz'
              clear hzz hzz' hp hq
              go_wp2
              go_quiet (fail)
              go_wp2
              go_roundw
              case rel => exact ⟨k + 1, by omega, by go_num, ⟨_, rfl⟩, HZZ.out⟩
              case measure => simp [intOf]; omega
            · rw [g1, g2, g3, Bool.and_false, Bool.false_and] at hzz'
              have HZZ := Lib.hid hzz'
              clear hzz hzz' hp hq
              go_wp2
              go_quiet (fail)
              go_wp2
              go_ret
              exact ⟨ret_b HZZ.out.symm, drew_two _ _ _⟩
          · rw [g1, g2, Bool.and_false, Bool.false_and, Bool.false_and] at hzz'
            have HZZ := Lib.hid hzz'
            clear hzz hzz' hp hq
            go_wp2
            go_quiet (fail)
            go_wp2
            go_ret
            exact ⟨ret_b HZZ.out.symm, drew_two _ _ _⟩
        · rw [g1, Bool.false_and, Bool.false_and, Bool.false_and] at hzz'
          have HZZ := Lib.hid hzz'
          clear hzz hzz' hp hq
          go_wp2
          go_quiet (fail)
          go_wp2
          go_ret
          exact ⟨ret_b HZZ.out.symm, drew_two _ _ _⟩
      · have hke : k = l.length := by omega
        have hzz' := hzz.out
        rw [List.drop_of_length_le (by omega), List.drop_of_length_le (by rw [← HLEN.out]; omega)] at hzz'
        have HZZ := Lib.hid hzz'
        clear hzz hzz' hke
        go_wp2
        go_ret
        exact ⟨ret_b HZZ.out.symm, _, rfl⟩
  · rw [eqPhas_len hlen] at hz
    have HZ := Lib.hid hz
    have e1 : ((l.length : Int) != (m.length : Int)) = true := by simp; omega
    clear hz hlen
    go_enter Tryz.func37, Tryz.ntmps37
    go_wp2
    go_ret
    exact ⟨ret_b HZ.out.symm, 0, rfl⟩

def numsV (r : Rul) : Value := .agg #[.int .i64 r.side, .int .i64 r.inns, .int .i64 r.overs, .int .i64 r.balls, .int .i64 r.quota, .int .i64 r.wide, .int .i64 r.noball, .int .i64 r.newball, .int .i64 r.follow, .int .i64 r.reviews, .int .i64 r.outside]
set_option maxRecDepth 100000 in
set_option maxHeartbeats 2000000 in
theorem rul_numbers (r : Rul) (pv : Value) (w : World) : Calls Tryz.prog 36 #[rulV r pv] w fun e w' => e = .returned (numsV r) ∧ Below w.heap.size w w' := by
  unfold rulV rulCells numsV
  have hb : ∀ o1 o2, Below w.heap.size w ((w.alloc o1).alloc o2) := fun o1 o2 => Below.alloc (Below.alloc (Below.refl _ _) (Nat.le_refl _) _) (by simp) _
  have HB := Lib.hid hb
  clear hb
  go_enter Tryz.func36, Tryz.ntmps36
  go_wp2
  refine bodyPost_ret (v := .agg #[.int .i64 r.side, .int .i64 r.inns, .int .i64 r.overs, .int .i64 r.balls, .int .i64 r.quota, .int .i64 r.wide, .int .i64 r.noball, .int .i64 r.newball, .int .i64 r.follow, .int .i64 r.reviews, .int .i64 r.outside]) (by simp [results, Tryz.results36, go_sem]) rfl ⟨rfl, HB.out _ _⟩
end Go.Proofs.YtnacklbaphobbaaGreatDoor
