/- The contracts of Unit and CheckSpread, of the program and of the reference. No conditions but that the spread can be read. -/
import Derived.Test.YtdnjcgokcjlkiaaGreatDoorH1
set_option linter.unusedSimpArgs false
set_option linter.unusedVariables false
namespace Go.Proofs.YtdnjcgokcjlkiaaGreatDoor
open Go.RowKit

theorem unitS_bad {n : Int} (h : n < 0 ∨ 12 < n) : unitS n = (0, 2) := by unfold unitS; rw [if_pos h]
theorem unitS_ok {n : Nat} (h : n ≤ 12) : unitS (n : Int) = (unitV n, 0) := by unfold unitS; rw [if_neg (by omega), Int.toNat_natCast]
theorem unitV_succ (n : Nat) : unitV (n + 1) = unitV n * 16 := by unfold unitV; rw [Int.pow_succ]
theorem checkP_bad {s : Spr} (h : s.balls < 0 ∨ 12 < s.balls) : checkP s = 2 := by unfold checkP; rw [if_pos h]
def inU (u x : Int) : Bool := decide (0 ≤ x) && decide (x ≤ u)
theorem checkP_eq {n : Nat} {ws : List Int} (h : n ≤ 12) : checkP ⟨(n : Int), ws⟩ = if ws.length = 0 then 6 else if 7 * (n : Int) + 1 < (ws.length : Int) then 9 else if ws.all (inU (unitV n)) = false then 2 else if ws.getLast? = some 0 then 4 else if sumI ws = unitV n then 0 else 12 := by
  unfold checkP
  rw [if_neg (by simp only; omega)]
  simp only [Int.toNat_natCast]
  rfl
def sprV (s : Spr) (v : Value) : Value := .agg #[.int .i64 s.balls, v]
theorem all_no {l : List Int} {p : Int → Bool} {k : Nat} (hk : k < l.length) (h : p l[k] = false) : l.all p = false := by
  rw [Bool.eq_false_iff]; intro h2
  have := List.all_eq_true.1 h2 _ (List.getElem_mem hk)
  rw [h] at this; cases this
theorem all_take {l : List Int} {p : Int → Bool} {k : Nat} (hk : k < l.length) (h : (l.take k).all p = true) (hx : p l[k] = true) : (l.take (k + 1)).all p = true := by
  rw [List.take_succ_eq_append_getElem hk, List.all_append, h]; simp [hx]
set_option maxRecDepth 100000 in
set_option maxHeartbeats 2000000 in
theorem ch_Unit (n : Int) (w : World) : Calls Tryz.prog 36 #[.int .i64 n] w fun e w' => e = .returned (.tuple #[.int .i64 (unitS n).1, .int .i64 (unitS n).2]) ∧ w = w' := by
  by_cases h1 : n < 0
  · rw [unitS_bad (.inl h1)]
    go_enter Tryz.func36, Tryz.ntmps36
    go_wp2
    go_ret2
    exact ⟨rfl, rfl⟩
  · by_cases h2 : 12 < n
    · rw [unitS_bad (.inr h2)]
      go_enter Tryz.func36, Tryz.ntmps36
      go_wp2
      go_ret2
      exact ⟨rfl, rfl⟩
    · obtain ⟨k, rfl⟩ : ∃ k : Nat, n = (k : Int) := ⟨n.toNat, by omega⟩
      rw [unitS_ok (by omega)]
      have hk : k = 0 ∨ k = 1 ∨ k = 2 ∨ k = 3 ∨ k = 4 ∨ k = 5 ∨ k = 6 ∨ k = 7 ∨ k = 8 ∨ k = 9 ∨ k = 10 ∨ k = 11 ∨ k = 12 := by omega
      clear h1 h2
      rcases hk with rfl | rfl | rfl | rfl | rfl | rfl | rfl | rfl | rfl | rfl | rfl | rfl | rfl
      all_goals
        go_enter Tryz.func36, Tryz.ntmps36
        go_wp2
        go_ret2
        exact ⟨rfl, rfl⟩
set_option maxRecDepth 100000 in
set_option maxHeartbeats 2000000 in
theorem ref_Unit (n : Int) (w : World) : Calls Tryz.prog 37 #[.int .i64 n] w fun e w' => e = .returned (.tuple #[.int .i64 (unitS n).1, .int .i64 (unitS n).2]) ∧ w = w' := by
  by_cases h1 : n < 0
  · rw [unitS_bad (.inl h1)]
    go_enter Tryz.func37, Tryz.ntmps37
    go_wp2
    go_ret2
    exact ⟨rfl, rfl⟩
  · by_cases h2 : 12 < n
    · rw [unitS_bad (.inr h2)]
      go_enter Tryz.func37, Tryz.ntmps37
      go_wp2
      go_ret2
      exact ⟨rfl, rfl⟩
    · obtain ⟨m, rfl⟩ : ∃ k : Nat, n = (k : Int) := ⟨n.toNat, by omega⟩
      rw [unitS_ok (by omega)]
      go_enter Tryz.func37, Tryz.ntmps37
      go_wp2
      go_loop [4, 12] (fun uv i => ∃ (k : Nat) (u : Int), k ≤ m ∧ i = .int .i64 k ∧ uv = .int .i64 u ∧ Hid (u = unitV k)) (fun _ i => m - (intOf i).toNat)
      case atStart => exact ⟨0, 1, Nat.zero_le _, rfl, rfl, Lib.hid rfl⟩
      case round =>
        obtain ⟨k, u, hk, rfl, rfl, hu⟩ := hrel
        have hb := unitV_le (n := k) (by omega)
        rw [← hu.out] at hb
        obtain ⟨hb1, hb2⟩ := hb
        by_cases hlt : k < m
        · have HS := Lib.hid (show u * 16 = unitV (k + 1) by rw [unitV_succ, hu.out])
          clear hu
          go_wp2
          go_round
          case rel => exact ⟨k + 1, u * 16, by omega, by go_num, rfl, HS⟩
          case measure => simp [intOf]; omega
        · obtain rfl : k = m := by omega
          go_wp2
          go_ret2
          exact ⟨by rw [hu.out] <;> rfl, rfl⟩

set_option maxRecDepth 100000 in
set_option maxHeartbeats 2000000 in
theorem ch_CheckP (s : Spr) (v : Value) (w : World) (h : Sl 1 elInt w (· < w.heap.size) v s.ws) : Calls Tryz.prog 102 #[sprV s v] w fun e w' => e = .returned (.int .i64 (checkP s)) ∧ Below w.heap.size w w' := by
  unfold sprV
  obtain ⟨z, hz⟩ : ∃ z, z = checkP s := ⟨_, rfl⟩
  rw [← hz]
  obtain ⟨A, c, rfl, hc, hc2⟩ := h.shape
  have hbl : Below w.heap.size w (w.alloc (.cells #[.int .i64 s.balls, .slice A s.ws.length c] 90)) := Below.alloc (Below.refl _ _) (Nat.le_refl _) _
  have HBL := Lib.hid hbl
  by_cases hb : s.balls < 0 ∨ 12 < s.balls
  · have HZ := Lib.hid (show z = 2 by rw [hz, checkP_bad hb])
    have ku := fun W => ch_Unit s.balls W
    rw [unitS_bad hb] at ku
    have KU := Lib.hid ku
    clear hz ku hb h hbl
    go_enter Tryz.func102, Tryz.ntmps102
    go_wp2_with (go_at_call 36; refine (KU.out _).mono ?_; rintro e w2 ⟨rfl, rfl⟩)
    go_ret
    exact ⟨ret_i HZ.out.symm, HBL.out⟩
  · obtain ⟨sb, ws⟩ := s
    obtain ⟨n, rfl⟩ : ∃ n : Nat, sb = (n : Int) := ⟨sb.toNat, by simp only at hb; omega⟩
    have hn : n ≤ 12 := by simp only at hb; omega
    have ku := fun W => ch_Unit (n : Int) W
    rw [unitS_ok hn] at ku
    rw [checkP_eq hn] at hz
    obtain ⟨hu1, hu2⟩ := unitV_le hn
    obtain ⟨u, hu⟩ : ∃ u, u = unitV n := ⟨_, rfl⟩
    rw [← hu] at ku hz hu1 hu2
    dsimp only at h hc ⊢
    have KU := Lib.hid ku
    have H := Lib.hid h
    clear ku hb h hu hbl
    have hn' : (n : Int) ≤ 12 := by omega
    by_cases h0 : ws.length = 0
    · rw [if_pos h0] at hz
      have HZ := Lib.hid hz
      have e0 : ((ws.length : Int) == 0) = true := by rw [h0]; rfl
      clear hz h0
      go_enter Tryz.func102, Tryz.ntmps102
      go_wp2_with (go_at_call 36; refine (KU.out _).mono ?_; rintro e w2 ⟨rfl, rfl⟩)
      go_ret
      exact ⟨ret_i HZ.out.symm, HBL.out⟩
    · rw [if_neg h0] at hz
      have e0 : ((ws.length : Int) == 0) = false := by rw [beq_eq_false_iff_ne]; omega
      have h0' : 0 < ws.length := by omega
      by_cases h9 : 7 * (n : Int) + 1 < (ws.length : Int)
      · rw [if_pos h9] at hz
        have HZ := Lib.hid hz
        clear hz h0
        go_enter Tryz.func102, Tryz.ntmps102
        go_wp2_with (go_at_call 36; refine (KU.out _).mono ?_; rintro e w2 ⟨rfl, rfl⟩)
        go_ret
        exact ⟨ret_i HZ.out.symm, HBL.out⟩
      · rw [if_neg h9] at hz
        have HZ := Lib.hid hz
        have hw85 : (ws.length : Int) ≤ 85 := by omega
        clear hz h0
        go_enter Tryz.func102, Tryz.ntmps102
        go_wp2_with (go_at_call 36; refine (KU.out _).mono ?_; rintro e w2 ⟨rfl, rfl⟩)
        go_loop [5, 35] (fun sv i => ∃ (k : Nat) (s : Int), k ≤ ws.length ∧ i = .int .i64 k ∧ sv = .int .i64 s ∧ 0 ≤ s ∧ s ≤ 281474976710656 * k ∧ Hid (s = sumI (ws.take k) ∧ (ws.take k).all (inU u) = true)) (fun _ i => ws.length - (intOf i).toNat)
        case atStart => exact ⟨0, 0, Nat.zero_le _, rfl, rfl, by omega, by omega, Lib.hid ⟨rfl, rfl⟩⟩
        case round =>
          obtain ⟨k, s, hk, rfl, rfl, hs0, hs1, HS⟩ := hrel
          by_cases hlt : k < ws.length
          · obtain ⟨b, o, rfl, hbl, y0'⟩ := int_at H.out hlt
            have y0 := (HBL.out.cell (p := ⟨b, o + k, none⟩) hbl).trans y0'
            obtain ⟨x, hx⟩ : ∃ x, x = ws[k] := ⟨_, rfl⟩
            rw [← hx] at y0
            clear y0'
            by_cases hx0 : x < 0
            · have HZ2 := Lib.hid (show z = 2 by rw [HZ.out, if_pos (all_no hlt (by rw [← hx]; unfold inU; rw [decide_eq_false (by omega)]; rfl))])
              clear hx HS
              go_wp2
              go_ret
              exact ⟨ret_i HZ2.out.symm, HBL.out⟩
            · by_cases hxu : u < x
              · have HZ2 := Lib.hid (show z = 2 by rw [HZ.out, if_pos (all_no hlt (by rw [← hx]; unfold inU; rw [decide_eq_false (show ¬ x ≤ u by omega), Bool.and_false]))])
                clear hx HS
                go_wp2
                go_ret
                exact ⟨ret_i HZ2.out.symm, HBL.out⟩
              · have HS2 := Lib.hid (show s + x = sumI (ws.take (k + 1)) ∧ (ws.take (k + 1)).all (inU u) = true from ⟨by rw [sumI_take hlt, ← HS.out.1, hx], all_take hlt HS.out.2 (by rw [← hx]; unfold inU; rw [decide_eq_true (by omega), decide_eq_true (by omega)]; rfl)⟩)
                clear hx HS
                go_wp2
                go_round
                case rel => exact ⟨k + 1, s + x, by omega, by go_num, rfl, by omega, by push_cast; omega, HS2⟩
                case measure => simp [intOf]; omega
          · obtain rfl : k = ws.length := by omega
            obtain ⟨hs, ha⟩ := HS.out
            rw [List.take_of_length_le (Nat.le_refl _)] at hs ha
            have hzz := HZ.out
            rw [ha, if_neg (by simp), ← hs] at hzz
            obtain ⟨b, o, rfl, hbl, y0'⟩ := int_at H.out (k := ws.length - 1) (by omega)
            have y0 := (HBL.out.cell (p := ⟨b, o + (ws.length - 1), none⟩) hbl).trans y0'
            have hlast : ws.getLast? = some (ws[ws.length - 1]'(by omega)) := by rw [List.getLast?_eq_getElem?, List.getElem?_eq_getElem]
            obtain ⟨x, hx⟩ : ∃ x, x = ws[ws.length - 1]'(by omega) := ⟨_, rfl⟩
            rw [← hx] at y0 hlast
            rw [hlast] at hzz
            have s1 : IntKind.i64.wrap ((ws.length : Int) - 1) = (ws.length : Int) - 1 := IntWalk.i64_in _ (by omega)
            have s2 : (0 : Int) ≤ (ws.length : Int) - 1 := by omega
            have s2' : (1 : Int) ≤ (ws.length : Int) := by omega
            have s3 : ((ws.length : Int) - 1).toNat = ws.length - 1 := by omega
            have s4 : (ws.length : Int) - 1 < (ws.length : Int) := by omega
            clear hs ha hx hlast HS y0'
            by_cases hx0 : x = 0
            · have HZ2 := Lib.hid (show z = 4 by rw [hzz, hx0, if_pos rfl])
              have e1 : (x == 0) = true := beq_iff_eq.2 hx0
              clear hzz hx0
              go_wp2
              go_ret
              exact ⟨ret_i HZ2.out.symm, HBL.out⟩
            · have e1 : (x == 0) = false := beq_eq_false_iff_ne.2 hx0
              rw [if_neg (fun k => hx0 (Option.some.inj k))] at hzz
              by_cases hsu : s = u
              · rw [if_pos hsu] at hzz
                have HZ2 := Lib.hid hzz
                have e2 : (s != u) = false := by rw [hsu]; simp
                clear hzz hx0 hsu
                go_wp2
                go_ret
                exact ⟨ret_i HZ2.out.symm, HBL.out⟩
              · rw [if_neg hsu] at hzz
                have HZ2 := Lib.hid hzz
                have e2 : (s != u) = true := by rw [bne_iff_ne]; exact hsu
                clear hzz hx0 hsu
                go_wp2
                go_ret
                exact ⟨ret_i HZ2.out.symm, HBL.out⟩

end Go.Proofs.YtdnjcgokcjlkiaaGreatDoor
