/- What lies in an office's slices; isDay of both packages; checkWindows. -/
import Derived.Test.YtajcnjehjkpieaaP90
import Derived.Test.YtajcnjehjkpieaaT1
import Derived.BigQuiet
set_option linter.unusedSimpArgs false
set_option linter.unusedVariables false
namespace Go.Proofs.Ytajcnjehjkpieaa
open Go.RowKit

def elTra (_ : World) (_ : Nat → Prop) (cs : List Value) (x : Tra) : Prop := cs = [.string (S x.player), .string (S x.team), .int .i64 x.day] ∧ x.player.length ≤ maxLen ∧ x.team.length ≤ maxLen
theorem elTra_good : Good elTra := ⟨fun h _ _ => h⟩
def elWin (_ : World) (_ : Nat → Prop) (cs : List Value) (x : Win) : Prop := cs = [.int .i64 x.fr, .int .i64 x.til]
theorem elWin_good : Good elWin := ⟨fun h _ _ => h⟩
def elOff (_ : World) (_ : Nat → Prop) (cs : List Value) (x : Off) : Prop := cs = [.int .i64 x.id, .string (S x.player), .int .i64 x.day, .int .i64 x.pts] ∧ x.player.length ≤ maxLen
theorem elOff_good : Good elOff := ⟨fun h _ _ => h⟩
theorem tra_at {w : World} {F : Nat → Prop} {A : Option Addr} {n c : Nat} {l : List Tra} (h : Sl 3 elTra w F (.slice A n c) l) {k : Nat} (hk : k < l.length) :
    ∃ b o, A = some ⟨b, o, none⟩ ∧ F b ∧ w.cell? ⟨b, o + k * 3, none⟩ = some (.string (S (tr l k).player)) ∧ w.cell? ⟨b, o + k * 3 + 1, none⟩ = some (.string (S (tr l k).team)) ∧ w.cell? ⟨b, o + k * 3 + 2, none⟩ = some (.int .i64 (tr l k).day) ∧ (tr l k).player.length ≤ maxLen ∧ (tr l k).team.length ≤ maxLen := by
  obtain ⟨b, o, cs, h1, h2, h3, h4, h5, h6, h7⟩ := h.at hk
  rw [tr_at hk] at h5 h6 h7
  subst h5
  have y0 := h4 0 _ rfl
  rw [Nat.add_zero] at y0
  exact ⟨b, o, h1, h2, y0, h4 1 _ rfl, h4 2 _ rfl, h6, h7⟩
theorem win_at {w : World} {F : Nat → Prop} {A : Option Addr} {n c : Nat} {l : List Win} (h : Sl 2 elWin w F (.slice A n c) l) {k : Nat} (hk : k < l.length) :
    ∃ b o, A = some ⟨b, o, none⟩ ∧ F b ∧ w.cell? ⟨b, o + k * 2, none⟩ = some (.int .i64 (wi l k).fr) ∧ w.cell? ⟨b, o + k * 2 + 1, none⟩ = some (.int .i64 (wi l k).til) := by
  obtain ⟨b, o, cs, h1, h2, h3, h4, h5⟩ := h.at hk
  have h5 : cs = [.int .i64 l[k].fr, .int .i64 l[k].til] := h5
  rw [wi_at hk] at h5
  subst h5
  have y0 := h4 0 _ rfl
  rw [Nat.add_zero] at y0
  exact ⟨b, o, h1, h2, y0, h4 1 _ rfl⟩
theorem off_at {w : World} {F : Nat → Prop} {A : Option Addr} {n c : Nat} {l : List Off} (h : Sl 4 elOff w F (.slice A n c) l) {k : Nat} (hk : k < l.length) :
    ∃ b o, A = some ⟨b, o, none⟩ ∧ F b ∧ w.cell? ⟨b, o + k * 4, none⟩ = some (.int .i64 (ofn l k).id) ∧ w.cell? ⟨b, o + k * 4 + 1, none⟩ = some (.string (S (ofn l k).player)) ∧ w.cell? ⟨b, o + k * 4 + 2, none⟩ = some (.int .i64 (ofn l k).day) ∧ w.cell? ⟨b, o + k * 4 + 3, none⟩ = some (.int .i64 (ofn l k).pts) ∧ (ofn l k).player.length ≤ maxLen := by
  obtain ⟨b, o, cs, h1, h2, h3, h4, h5, h6⟩ := h.at hk
  rw [ofn_at hk] at h5 h6
  subst h5
  have y0 := h4 0 _ rfl
  rw [Nat.add_zero] at y0
  exact ⟨b, o, h1, h2, y0, h4 1 _ rfl, h4 2 _ rfl, h4 3 _ rfl, h6⟩
theorem reg_isDay (n : Int) (w : World) : Calls Try.prog 17 #[.int .i64 n] w fun e w' => e = .returned (.bool (isDayB n)) ∧ w = w' := by
  by_cases h : 0 ≤ n
  · have e1 : decide (0 ≤ n) = true := decide_eq_true h
    go_enter Try.func17, Try.ntmps17
    go_wp2
    go_ret
    exact ⟨ret_b (by unfold isDayB; rw [e1]; simp), rfl⟩
  · have e1 : decide (0 ≤ n) = false := decide_eq_false h
    go_enter Try.func17, Try.ntmps17
    go_wp2
    go_ret
    exact ⟨ret_b (by unfold isDayB; rw [e1]; simp), rfl⟩
theorem con_isDay (n : Int) (w : World) : Calls Try.prog 34 #[.int .i64 n] w fun e w' => e = .returned (.bool (isDayB n)) ∧ w = w' := by
  by_cases h : 0 ≤ n
  · have e1 : decide (0 ≤ n) = true := decide_eq_true h
    go_enter Try.func34, Try.ntmps34
    go_wp2
    go_ret
    exact ⟨ret_b (by unfold isDayB; rw [e1]; simp), rfl⟩
  · have e1 : decide (0 ≤ n) = false := decide_eq_false h
    go_enter Try.func34, Try.ntmps34
    go_wp2
    go_ret
    exact ⟨ret_b (by unfold isDayB; rw [e1]; simp), rfl⟩
set_option maxRecDepth 100000 in
set_option maxHeartbeats 2000000 in
theorem reg_checkWindows (l : List Win) (v : Value) (w : World) (h : Sl 2 elWin w (· < w.heap.size) v l) :
    Calls Try.prog 15 #[v] w fun e w' => e = .returned (.int .i64 (winS l)) ∧ Below w.heap.size w w' := by
  obtain ⟨A, c, rfl, hc, hc2⟩ := h.shape
  obtain ⟨z, hz⟩ : ∃ z, z = winS l := ⟨_, rfl⟩
  rw [← hz]
  unfold winS at hz
  have H := Lib.hid h
  have HB := Lib.hid (Below.refl w.heap.size w)
  clear h
  by_cases hbig : 32 < l.length
  · rw [if_pos hbig] at hz
    have HZ := Lib.hid hz
    have g1 : (32 : Int) < (l.length : Int) := by omega
    clear hz
    go_enter Try.func15, Try.ntmps15
    go_wp2
    go_ret
    exact ⟨ret_i HZ.out.symm, HB.out⟩
  rw [if_neg hbig] at hz
  have g1 : ¬ (32 : Int) < (l.length : Int) := by omega
  have HZ : Hid (z = fst0 (winE l) (l.length - 0) 0) := Lib.hid hz
  clear hz
  go_enter Try.func15, Try.ntmps15
  go_wp2
  go_loopw [10] (fun i wr => ∃ k : Nat, k ≤ l.length ∧ i = .int .i64 k ∧ Hid (Below w.heap.size w wr) ∧ Hid (z = fst0 (winE l) (l.length - k) k)) (fun i _ => l.length - (intOf i).toNat)
  case atStart => exact ⟨0, Nat.zero_le _, rfl, HB, HZ⟩
  case round =>
    obtain ⟨k, hk, rfl, hb, hzz⟩ := hrel
    clear HB HZ
    by_cases hlt : k < l.length
    · obtain ⟨b, o, rfl, hbl, y0, y1⟩ := win_at H.out hlt
      have x0 := (hb.out.cell (p := ⟨b, o + k * 2, none⟩) hbl).trans y0
      have x1 := (hb.out.cell (p := ⟨b, o + k * 2 + 1, none⟩) hbl).trans y1
      have hbw : b < wr.heap.size := Nat.lt_of_lt_of_le hbl hb.out.size
      have hba := Below.alloc hb.out hb.out.size (.cells #[.int .i64 (wi l k).fr, .int .i64 (wi l k).til] 48)
      have hpre : 0 < k → wr.cell? ⟨b, o + (k - 1) * 2 + 1, none⟩ = some (.int .i64 (wi l (k - 1)).til) := fun h0 => by
        obtain ⟨b', o', e, _, _, t1⟩ := win_at H.out (k := k - 1) (by omega)
        injection e with e; injection e with e1 e2; subst e1 e2
        exact (hb.out.cell (p := ⟨b, o + (k - 1) * 2 + 1, none⟩) hbl).trans t1
      have ke : winE l k = if !isDayB (wi l k).fr || !isDayB (wi l k).til then 2
  else if decide ((wi l k).til < (wi l k).fr) || (decide (0 < k) && decide ((wi l k).fr ≤ (wi l (k - 1)).til)) then 8 else 0 := rfl
      obtain ⟨⟨f, t⟩, hx⟩ : ∃ x, x = wi l k := ⟨_, rfl⟩
      obtain ⟨pt, hpt⟩ : ∃ x, x = (wi l (k - 1)).til := ⟨_, rfl⟩
      rw [← hpt] at hpre
      rw [← hx] at x0 x1 hba
      rw [← hx, ← hpt] at ke
      dsimp only at x0 x1 ke hba
      have HBA := Lib.hid hba
      clear y0 y1 hx hpt hba hbl
      have k1 := fun W => reg_isDay f W
      have k2 := fun W => reg_isDay t W
      have ez : ∀ e : Int, e ≠ 0 → winE l k = e → z = e := fun e he h => hzz.out.trans (fst0_err hlt h he)
      have en : winE l k = 0 → z = fst0 (winE l) (l.length - (k + 1)) (k + 1) := fun h => hzz.out.trans (fst0_next hlt h)
      have tok0 : True := trivial
      cases d1 : isDayB f
      · rw [d1] at k1 ke
        have K1 := Lib.hid k1
        have HZZ := Lib.hid (ez 2 (by decide) (by rw [ke]; rfl))
        clear k1 k2 ke ez en d1 hpre
        go_wp2_with (clear tok0; go_at_call 17; refine (K1.out _).mono ?_; rintro e w2 ⟨rfl, rfl⟩; have tok1 : True := trivial)
        go_ret
        exact ⟨ret_i HZZ.out.symm, HBA.out⟩
      cases d2 : isDayB t
      · rw [d1] at k1 ke
        rw [d2] at k2 ke
        have K1 := Lib.hid k1
        have K2 := Lib.hid k2
        have HZZ := Lib.hid (ez 2 (by decide) (by rw [ke]; rfl))
        clear k1 k2 ke ez en d1 d2 hpre
        go_wp2_with (first
          | (clear tok0; go_at_call 17; refine (K1.out _).mono ?_; rintro e w2 ⟨rfl, rfl⟩; have tok1 : True := trivial)
          | (clear tok1; go_at_call 17; refine (K2.out _).mono ?_; rintro e w2 ⟨rfl, rfl⟩; have tok2 : True := trivial))
        go_ret
        exact ⟨ret_i HZZ.out.symm, HBA.out⟩
      rw [d1] at k1 ke
      rw [d2] at k2 ke
      have K1 := Lib.hid k1
      have K2 := Lib.hid k2
      clear k1 k2 d1 d2
      cases d3 : decide (t < f)
      · rw [d3] at ke
        by_cases h0 : 0 < k
        · have y2 := hpre h0
          have g2 : (0 : Int) < (k : Int) := by omega
          have g3 : IntKind.i64.wrap ((k : Int) - 1) = ((k - 1 : Nat) : Int) := by rw [show ((k - 1 : Nat) : Int) = (k : Int) - 1 by omega]; exact IntWalk.i64_in _ (by omega)
          have g4 : ((k - 1 : Nat) : Int) < (l.length : Int) := by omega
          have g5 : k - 1 < l.length := by omega
          cases d4 : decide (f ≤ pt)
          · have HZZ := Lib.hid (en (by rw [ke, d4]; simp))
            clear ke ez en hpre
            go_wp2_with (first
              | (clear tok0; go_at_call 17; refine (K1.out _).mono ?_; rintro e w2 ⟨rfl, rfl⟩; have tok1 : True := trivial)
              | (clear tok1; go_at_call 17; refine (K2.out _).mono ?_; rintro e w2 ⟨rfl, rfl⟩; have tok2 : True := trivial))
            go_quiet (fail)
            go_wp2
            go_roundw
            case rel => exact ⟨k + 1, by omega, by go_num, Lib.hid (Below.drewN_ HBA.out _), HZZ⟩
            case measure => simp [intOf]; omega
          · have HZZ := Lib.hid (ez 8 (by decide) (by rw [ke, d4, decide_eq_true h0]; rfl))
            clear ke ez en hpre
            go_wp2_with (first
              | (clear tok0; go_at_call 17; refine (K1.out _).mono ?_; rintro e w2 ⟨rfl, rfl⟩; have tok1 : True := trivial)
              | (clear tok1; go_at_call 17; refine (K2.out _).mono ?_; rintro e w2 ⟨rfl, rfl⟩; have tok2 : True := trivial))
            go_quiet (fail)
            go_wp2
            go_ret
            exact ⟨ret_i HZZ.out.symm, Below.drewN_ HBA.out _⟩
        · have g2 : decide (0 < k) = false := decide_eq_false (by omega)
          have HZZ := Lib.hid (en (by rw [ke, decide_eq_false h0]; rfl))
          clear ke ez en hpre h0
          go_wp2_with (first
            | (clear tok0; go_at_call 17; refine (K1.out _).mono ?_; rintro e w2 ⟨rfl, rfl⟩; have tok1 : True := trivial)
            | (clear tok1; go_at_call 17; refine (K2.out _).mono ?_; rintro e w2 ⟨rfl, rfl⟩; have tok2 : True := trivial))
          go_quiet (fail)
          go_wp2
          go_roundw
          case rel => exact ⟨k + 1, by omega, by go_num, Lib.hid (Below.drewN_ HBA.out _), HZZ⟩
          case measure => simp [intOf]; omega
      · have HZZ := Lib.hid (ez 8 (by decide) (by rw [ke, d3]; rfl))
        clear ke ez en hpre
        go_wp2_with (first
          | (clear tok0; go_at_call 17; refine (K1.out _).mono ?_; rintro e w2 ⟨rfl, rfl⟩; have tok1 : True := trivial)
          | (clear tok1; go_at_call 17; refine (K2.out _).mono ?_; rintro e w2 ⟨rfl, rfl⟩; have tok2 : True := trivial))
        go_quiet (fail)
        go_wp2
        go_ret
        exact ⟨ret_i HZZ.out.symm, Below.drewN_ HBA.out _⟩
    · obtain rfl : k = l.length := by omega
      have hz2 := hzz.out
      rw [Nat.sub_self, fst0] at hz2
      have HZZ := Lib.hid hz2
      clear hz2 hzz
      go_wp2
      go_ret
      exact ⟨ret_i HZZ.out.symm, hb.out⟩
end Go.Proofs.Ytajcnjehjkpieaa
