/- The conduct book's points and checkMatches; slices' Index, Contains, Equal at int64. -/
import Derived.Test.YtajcnjehjkpieaaE4
set_option linter.unusedSimpArgs false
set_option linter.unusedVariables false
namespace Go.Proofs.Ytajcnjehjkpieaa
open Go.RowKit

theorem i64_at {w : World} {F : Nat → Prop} {A : Option Addr} {n c : Nat} {l : List Int} (h : Sl 1 elInt w F (.slice A n c) l) {k : Nat} (hk : k < l.length) :
    ∃ b o, A = some ⟨b, o, none⟩ ∧ F b ∧ w.cell? ⟨b, o + k, none⟩ = some (.int .i64 (l.getD k 0)) := by
  obtain ⟨b, o, cs, h1, h2, h3, h4, h5⟩ := h.at hk
  have h5' : cs = [.int .i64 l[k]] := h5
  subst h5'
  have y0 := h4 0 _ rfl
  rw [Nat.add_zero, Nat.mul_one, show l[k] = l.getD k 0 by simp [List.getD_eq_getElem?_getD, hk]] at y0
  exact ⟨b, o, h1, h2, y0⟩
theorem get_i64 {l : List Int} {k : Nat} (hk : k < l.length) : l[k] = l.getD k 0 := by simp [List.getD_eq_getElem?_getD, hk]
set_option maxRecDepth 100000 in
theorem con_clo (d : Int) (w : World) : Calls Try.prog 36 #[.int .i64 d] w fun e w' => e = .returned (.bool (!isDayB d)) ∧ w = w' := by
  have k := con_isDay d w
  obtain ⟨z, hz⟩ : ∃ z, z = isDayB d := ⟨_, rfl⟩
  rw [← hz] at k ⊢
  have K := Lib.hid k
  clear k hz
  go_enter Try.func36, Try.ntmps36
  go_wp2_with (go_at_call 34; refine K.out.mono ?_; rintro e w2 ⟨rfl, rfl⟩)
  go_ret
  exact ⟨rfl, rfl⟩
set_option maxRecDepth 100000 in
set_option maxHeartbeats 2000000 in
theorem con_IndexFunc (l : List Int) (lv : Value) (w : World) (hl : Sl 1 elInt w (· < w.heap.size) lv l) :
    Calls Try.prog 41 #[lv, .func (.func 36) #[] #[]] w fun e w' => e = .returned (.int .i64 (ixF (fun d => !isDayB d) l 0)) ∧ Below w.heap.size w w' := by
  obtain ⟨z, hz⟩ : ∃ z, z = ixF (fun d => !isDayB d) l 0 := ⟨_, rfl⟩
  rw [← hz]
  obtain ⟨A, c, rfl, hc, hc2⟩ := hl.shape
  have HZ : Hid (z = ixF (fun d => !isDayB d) (l.drop 0) 0) := hz
  have HL := Lib.hid hl
  have HB := Lib.hid (Below.refl w.heap.size w)
  clear hz hl
  go_enter Try.func41, Try.ntmps41
  go_wp2
  go_loopw [8] (fun i wr => ∃ k : Nat, k ≤ l.length ∧ i = .int .i64 k ∧ Hid (Below w.heap.size w wr) ∧ Hid (z = ixF (fun d => !isDayB d) (l.drop k) k)) (fun i _ => l.length - (intOf i).toNat)
  case atStart => exact ⟨0, Nat.zero_le _, rfl, HB, HZ⟩
  case round =>
    obtain ⟨k, hk, rfl, hb, hzz⟩ := hrel
    clear HB HZ
    by_cases hlt : k < l.length
    · obtain ⟨b0, o, rfl, hbl, t0⟩ := i64_at HL.out hlt
      have y0 := (hb.out.cell (p := ⟨b0, o + k, none⟩) hbl).trans t0
      have hz2 := hzz.out
      rw [drop_get hlt, ixF, get_i64 hlt] at hz2
      obtain ⟨x, hp⟩ : ∃ p, p = l.getD k 0 := ⟨_, rfl⟩
      rw [← hp] at y0 hz2
      have kc := fun W => con_clo x W
      clear hzz hp t0
      cases d1 : isDayB x
      · rw [d1] at kc hz2
        rw [if_pos (show (!false) = true from rfl)] at hz2
        have KC := Lib.hid kc
        have HZZ := Lib.hid hz2
        clear hz2 kc d1
        go_wp2_with (go_at_call 36; refine (KC.out _).mono ?_; rintro e w2 ⟨rfl, rfl⟩)
        go_ret
        exact ⟨ret_i HZZ.out.symm, hb.out⟩
      · rw [d1] at kc hz2
        rw [if_neg (by simp)] at hz2
        have KC := Lib.hid kc
        have HZZ := Lib.hid hz2
        clear hz2 kc d1
        go_wp2_with (go_at_call 36; refine (KC.out _).mono ?_; rintro e w2 ⟨rfl, rfl⟩)
        go_roundw
        case rel => exact ⟨k + 1, by omega, by go_num, hb, HZZ⟩
        case measure => simp [intOf]; omega
    · obtain rfl : k = l.length := by omega
      have hz2 := hzz.out
      rw [List.drop_of_length_le (Nat.le_refl _), ixF] at hz2
      have HZZ := Lib.hid hz2
      clear hzz hz2
      go_wp2
      go_ret
      exact ⟨ret_i HZZ.out.symm, hb.out⟩
set_option maxRecDepth 100000 in
theorem con_ContainsFunc (l : List Int) (lv : Value) (w : World) (hl : Sl 1 elInt w (· < w.heap.size) lv l) :
    Calls Try.prog 35 #[lv, .func (.func 36) #[] #[]] w fun e w' => e = .returned (.bool (l.any fun d => !isDayB d)) ∧ Below w.heap.size w w' := by
  have hm := ixF_any (fun d => !isDayB d) l 0
  have hi := con_IndexFunc l lv w hl
  obtain ⟨i, hie⟩ : ∃ i, i = ixF (fun d => !isDayB d) l 0 := ⟨_, rfl⟩
  rw [← hie] at hm hi
  have HM := Lib.hid hm
  have HI := Lib.hid hi
  obtain ⟨A, c, rfl, hc, hc2⟩ := hl.shape
  clear hm hi hie hl
  go_enter Try.func35, Try.ntmps35
  go_wp2_with (go_at_call 41; refine HI.out.mono ?_; rintro e w2 ⟨rfl, hb2⟩)
  go_ret
  exact ⟨ret_b HM.out, hb2⟩
set_option maxRecDepth 100000 in
set_option maxHeartbeats 2000000 in
theorem con_checkMatches (l : List Int) (lv : Value) (w : World) (hl : Sl 1 elInt w (· < w.heap.size) lv l) :
    Calls Try.prog 23 #[lv] w fun e w' => e = .returned (.int .i64 (matS l)) ∧ Below w.heap.size w w' := by
  obtain ⟨A, c, rfl, hc, hc2⟩ := hl.shape
  have kc := con_ContainsFunc l _ w hl
  obtain ⟨z, hz⟩ : ∃ z, z = matS l := ⟨_, rfl⟩
  rw [← hz]
  unfold matS at hz
  have HL := Lib.hid hl
  have HB := Lib.hid (Below.refl w.heap.size w)
  clear hl
  by_cases hbig : 400 < l.length
  · rw [if_pos hbig] at hz
    have HZ := Lib.hid hz
    have g1 : (400 : Int) < (l.length : Int) := by omega
    clear hz kc
    go_enter Try.func23, Try.ntmps23
    go_wp2
    go_ret
    exact ⟨ret_i HZ.out.symm, HB.out⟩
  rw [if_neg hbig] at hz
  have g1 : ¬ (400 : Int) < (l.length : Int) := by omega
  cases ha : l.any fun d => !isDayB d
  case true =>
    rw [ha] at kc hz
    rw [if_pos rfl] at hz
    have HZ := Lib.hid hz
    have KC := Lib.hid kc
    clear hz kc ha
    go_enter Try.func23, Try.ntmps23
    go_wp2_with (go_at_call 35; refine KC.out.mono ?_; rintro e w2 ⟨rfl, hb2⟩; have HB2 := Lib.hid hb2; clear hb2)
    go_ret
    exact ⟨ret_i HZ.out.symm, HB2.out⟩
  rw [ha] at kc hz
  rw [if_neg (by simp)] at hz
  have HZ : Hid (z = fst0 (fun k => if l.getD (k + 1) 0 ≤ l.getD k 0 then 8 else 0) (l.length - 1 - 0) 0) := Lib.hid hz
  have KC := Lib.hid kc
  clear hz kc ha
  go_enter Try.func23, Try.ntmps23
  go_wp2_with (go_at_call 35; refine KC.out.mono ?_; rintro e w2 ⟨rfl, hb2⟩; have HB2 := Lib.hid hb2; clear hb2)
  go_loopw [3] (fun i wr => ∃ (k : Nat) (x : Int), k ≤ l.length - 1 ∧ i = .int .i64 x ∧ x = (k : Int) + 1 ∧ Hid (Below w.heap.size w wr) ∧ Hid (z = fst0 (fun k => if l.getD (k + 1) 0 ≤ l.getD k 0 then 8 else 0) (l.length - 1 - k) k)) (fun i _ => l.length - (intOf i).toNat)
  case atStart => exact ⟨0, _, Nat.zero_le _, rfl, rfl, HB2, HZ⟩
  case round =>
    obtain ⟨k, x, hk, rfl, hx, hb, hzz⟩ := hrel
    clear HB2 HZ KC HB
    by_cases hlt : k < l.length - 1
    · obtain rfl : x = ((k + 1 : Nat) : Int) := by omega
      obtain ⟨b, o, rfl, hbl, t0⟩ := i64_at HL.out (show k < l.length by omega)
      obtain ⟨b', o', e, _, t1⟩ := i64_at HL.out (show k + 1 < l.length by omega)
      injection e with e; injection e with e1 e2; subst e1 e2
      have y0 := (hb.out.cell (p := ⟨b, o + k, none⟩) hbl).trans t0
      have y1 := (hb.out.cell (p := ⟨b, o + (k + 1), none⟩) hbl).trans t1
      have ke : (if l.getD (k + 1) 0 ≤ l.getD k 0 then (8 : Int) else 0) = if decide (l.getD (k + 1) 0 ≤ l.getD k 0) then 8 else 0 := by simp
      have ez : ∀ e : Int, e ≠ 0 → (if l.getD (k + 1) 0 ≤ l.getD k 0 then (8 : Int) else 0) = e → z = e := fun e he h => hzz.out.trans (fst0_err hlt h he)
      have en := fun h => hzz.out.trans (fst0_next (f := fun k => if l.getD (k + 1) 0 ≤ l.getD k 0 then (8 : Int) else 0) hlt h)
      rw [ke] at ez en
      obtain ⟨u, hu⟩ : ∃ u, u = l.getD k 0 := ⟨_, rfl⟩
      obtain ⟨v, hv⟩ : ∃ u, u = l.getD (k + 1) 0 := ⟨_, rfl⟩
      rw [← hu] at y0 ez en
      rw [← hv] at y1 ez en
      have g2 : IntKind.i64.wrap (((k + 1 : Nat) : Int) - 1) = (k : Int) := by rw [show ((k + 1 : Nat) : Int) - 1 = k by omega]; exact IntWalk.i64_in _ (by omega)
      have g3 : ((k + 1 : Nat) : Int) < (l.length : Int) := by omega
      have g4 : (k : Int) < (l.length : Int) := by omega
      have g5 : k + 1 < l.length := by omega
      have g6 : k < l.length := by omega
      have g7 : IntKind.i64.wrap (((k + 1 : Nat) : Int) + 1) = ((k + 1 : Nat) : Int) + 1 := IntWalk.i64_in _ (by omega)
      clear hx t0 t1 ke hu hv hzz
      cases d1 : decide (v ≤ u)
      · have HZZ := Lib.hid (en (by rw [d1]; rfl))
        clear ez en
        go_wp2
        go_quiet (fail)
        go_wp2
        go_roundw
        case rel => exact ⟨k + 1, _, by omega, rfl, by omega, Lib.hid (Below.drewN_ hb.out _), HZZ⟩
        case measure => simp [intOf]; omega
      · have HZZ := Lib.hid (ez 8 (by decide) (by rw [d1]; rfl))
        clear ez en
        go_wp2
        go_quiet (fail)
        go_wp2
        go_ret
        exact ⟨ret_i HZZ.out.symm, Below.drewN_ hb.out _⟩
    · have g2 : ¬ x < (l.length : Int) := by omega
      have hz2 := hzz.out
      rw [show l.length - 1 - k = 0 by omega, fst0] at hz2
      have HZZ := Lib.hid hz2
      clear hzz hz2 hx hk hlt
      go_wp2
      go_ret
      exact ⟨ret_i HZZ.out.symm, hb.out⟩
theorem pts_step {l : List Off} {p : List UInt8} {d : Int} {k : Nat} (hk : k < l.length) : ptsS (l.take (k + 1)) p d = if countsB p d (ofn l k) then ptsS (l.take k) p d + (ofn l k).pts else ptsS (l.take k) p d := by
  unfold ptsS
  rw [List.take_succ_eq_append_getElem hk, List.foldl_append, ofn_at hk]
  rfl
/-- An offence in its box. -/
theorem blk_four {w : World} {g : Nat} {t : TypeId} {a b c d : Value} (h : Blk w g t #[a, b, c, d]) : w.cell? ⟨g, 0, none⟩ = some a ∧ w.cell? ⟨g, 1, none⟩ = some b ∧ w.cell? ⟨g, 2, none⟩ = some c ∧ w.cell? ⟨g, 3, none⟩ = some d := ⟨h.cell 0, h.cell 1, h.cell 2, h.cell 3⟩
set_option maxRecDepth 100000 in
set_option maxHeartbeats 2000000 in
theorem con_points (l : List Off) (lv : Value) (p : List UInt8) (d : Int) (w : World) (hl : Sl 4 elOff w (· < w.heap.size) lv l) (hn : l.length ≤ 2000) (hp : ∀ x ∈ l, 1 ≤ x.pts ∧ x.pts ≤ 8) :
    Calls Try.prog 24 #[lv, .string (S p), .int .i64 d] w fun e w' => e = .returned (.int .i64 (ptsS l p d)) ∧ Below w.heap.size w w' := by
  obtain ⟨A, c, rfl, hc, hc2⟩ := hl.shape
  have HL := Lib.hid hl
  have HP := Lib.hid hp
  have HB := Lib.hid (Below.refl w.heap.size w)
  obtain ⟨z, hz⟩ : ∃ z, z = ptsS l p d := ⟨_, rfl⟩
  rw [← hz]
  have HZ := Lib.hid hz
  clear hl hp hz
  go_enter Try.func24, Try.ntmps24
  go_wp2
  go_loopw [7, 12] (fun v i wr => ∃ (k : Nat) (n : Int), k ≤ l.length ∧ i = .int .i64 k ∧ v = .int .i64 n ∧ Hid (Below w.heap.size w wr) ∧ Hid (n = ptsS (l.take k) p d) ∧ 0 ≤ n ∧ n ≤ 8 * k) (fun _ i _ => l.length - (intOf i).toNat)
  case atStart => exact ⟨0, 0, Nat.zero_le _, rfl, rfl, HB, rfl, by omega, by omega⟩
  case round =>
    obtain ⟨k, n, hk, rfl, rfl, hb, hnn, hn0, hn1⟩ := hrel
    clear HB
    by_cases hlt : k < l.length
    · obtain ⟨b, o, rfl, hbl, t0, t1, t2, t3, _⟩ := off_at HL.out hlt
      have y0 := (hb.out.cell (p := ⟨b, o + k * 4, none⟩) hbl).trans t0
      have y1 := (hb.out.cell (p := ⟨b, o + k * 4 + 1, none⟩) hbl).trans t1
      have y2 := (hb.out.cell (p := ⟨b, o + k * 4 + 2, none⟩) hbl).trans t2
      have y3 := (hb.out.cell (p := ⟨b, o + k * 4 + 3, none⟩) hbl).trans t3
      have hst := pts_step (p := p) (d := d) hlt
      rw [← hnn.out] at hst
      obtain ⟨hp1, hp8⟩ := HP.out (ofn l k) (by rw [← ofn_at hlt]; exact List.getElem_mem hlt)
      have hbx := Below.alloc hb.out hb.out.size (.cells #[.int .i64 (ofn l k).id, .string (S (ofn l k).player), .int .i64 (ofn l k).day, .int .i64 (ofn l k).pts] 35)
      obtain ⟨x, hx⟩ : ∃ x, x = ofn l k := ⟨_, rfl⟩
      rw [← hx] at y0 y1 y2 y3 hst hp1 hp8 hbx
      have hcb : countsB p d x = (x.player == p && decide (x.day ≤ d) && decide (wrap64 (d - 730) < x.day)) := rfl
      rw [hcb] at hst
      obtain ⟨xi, xp, xd, xn⟩ := x
      dsimp only at y0 y1 y2 y3 hst hp1 hp8 hbx
      have g1 : IntKind.i64.wrap (n + xn) = n + xn := IntWalk.i64_in _ (by omega)
      have HBX := Lib.hid hbx
      clear hx hcb t0 t1 t2 t3 hnn hbx
      cases c1 : (xp == p)
      · rw [c1] at hst
        have HN := Lib.hid (show n = ptsS (l.take (k + 1)) p d by rw [hst]; rfl)
        clear hst
        go_wp2
        go_roundw
        case rel => exact ⟨k + 1, n, by omega, by go_num, rfl, HBX, HN, by omega, by omega⟩
        case measure => simp [intOf]; omega
      cases c2 : decide (xd ≤ d)
      · rw [c1, c2] at hst
        have HN := Lib.hid (show n = ptsS (l.take (k + 1)) p d by rw [hst]; rfl)
        clear hst
        go_wp2
        go_roundw
        case rel => exact ⟨k + 1, n, by omega, by go_num, rfl, HBX, HN, by omega, by omega⟩
        case measure => simp [intOf]; omega
      cases c3 : decide (wrap64 (d - 730) < xd)
      · rw [c1, c2, c3] at hst
        have HN := Lib.hid (show n = ptsS (l.take (k + 1)) p d by rw [hst]; rfl)
        clear hst
        go_wp2
        go_roundw
        case rel => exact ⟨k + 1, n, by omega, by go_num, rfl, HBX, HN, by omega, by omega⟩
        case measure => simp [intOf]; omega
      · rw [c1, c2, c3] at hst
        have HN := Lib.hid (show n + xn = ptsS (l.take (k + 1)) p d by rw [hst]; rfl)
        clear hst
        go_wp2
        go_roundw
        case rel => exact ⟨k + 1, n + xn, by omega, by go_num, rfl, HBX, HN, by omega, by omega⟩
        case measure => simp [intOf]; omega
    · obtain rfl : k = l.length := by omega
      have hz2 := hnn.out
      rw [List.take_length, ← HZ.out] at hz2
      have HZZ := Lib.hid hz2
      clear hnn hz2
      go_wp2
      go_ret
      exact ⟨ret_i HZZ.out, hb.out⟩
end Go.Proofs.Ytajcnjehjkpieaa
