/- The contract of the reference's Dominates. -/
import Derived.Test.YtoeeodemimndlaaGreatDoorH16
set_option linter.unusedSimpArgs false
set_option linter.unusedVariables false
namespace Go.Proofs.YtoeeodemimndlaaGreatDoor
open Go.RowKit

set_option maxRecDepth 100000 in
set_option maxHeartbeats 2000000 in
theorem ref_Dominates (a b : Spr) (va vb : Value) (w : World) (h1 : Sl 1 elInt w (· < w.heap.size) va a.ws) (h2 : Sl 1 elInt w (· < w.heap.size) vb b.ws) :
    Calls Tryz.prog 34 #[sprV a va, sprV b vb] w fun e w' => e = .returned (.tuple #[.bool (domS a b).1, .int .i64 (domS a b).2]) ∧ Below w.heap.size w w' := by
  obtain ⟨A, ca, rfl, hca, hca2⟩ := h1.shape
  obtain ⟨B, cb, rfl, hcb, hcb2⟩ := h2.shape
  have t0 := Th.new2 w a b (.slice A a.ws.length ca) (.slice B b.ws.length cb)
  have hsl : ∀ W, Below w.heap.size w W → Sl 1 elInt W (· < W.heap.size) (.slice A a.ws.length ca) a.ws ∧ Sl 1 elInt W (· < W.heap.size) (.slice B b.ws.length cb) b.ws := fun W hW => ⟨int_below h1 hW, int_below h2 hW⟩
  obtain ⟨ea, hea⟩ : ∃ e, e = checkP a := ⟨_, rfl⟩
  obtain ⟨eb, heb⟩ : ∃ e, e = checkP b := ⟨_, rfl⟩
  have ka : ∀ W, Th w W a b (.slice A a.ws.length ca) (.slice B b.ws.length cb) false → Calls Tryz.prog 35 #[.agg #[.int .i64 a.balls, .slice A a.ws.length ca]] W fun e w' => e = .returned (.int .i64 ea) ∧ Th w w' a b (.slice A a.ws.length ca) (.slice B b.ws.length cb) false := fun W hW => by
    refine (ref_CheckP a _ W (hsl W hW.bel).1).mono ?_
    rintro e w' ⟨rfl, hb⟩
    exact ⟨by rw [hea], hW.below hb⟩
  have kb : ∀ W, Th w W a b (.slice A a.ws.length ca) (.slice B b.ws.length cb) false → Calls Tryz.prog 35 #[.agg #[.int .i64 b.balls, .slice B b.ws.length cb]] W fun e w' => e = .returned (.int .i64 eb) ∧ Th w w' a b (.slice A a.ws.length ca) (.slice B b.ws.length cb) false := fun W hW => by
    refine (ref_CheckP b _ W (hsl W hW.bel).2).mono ?_
    rintro e w' ⟨rfl, hb⟩
    exact ⟨by rw [heb], hW.below hb⟩
  obtain ⟨⟨u0, u1, _⟩, ⟨v0, v1, _⟩⟩ := (⟨t0.ba.two, t0.bb.two⟩ : _ ∧ _)
  have T0 := Lib.hid t0
  have KA := Lib.hid ka
  have KB := Lib.hid kb
  have tok0 : True := trivial
  clear t0 ka kb
  obtain ⟨z, hz⟩ : ∃ z, z = domS a b := ⟨_, rfl⟩
  rw [← hz]
  unfold domS at hz
  unfold sprV
  by_cases ha0 : checkP a = 0
  case neg =>
    rw [if_pos ha0, ← hea] at hz
    rw [← hea] at ha0
    have g1 : (ea != 0) = true := by rw [bne_iff_ne]; exact ha0
    have HZ := Lib.hid hz
    clear hz ha0 hea heb hsl h1 h2
    go_enter Tryz.func34, Tryz.ntmps34
    go_wp2_with (clear tok0; go_at_call 35; refine (KA.out _ T0.out).mono ?_; rintro e w1 ⟨rfl, t1⟩; obtain ⟨⟨u0, u1, _⟩, ⟨v0, v1, _⟩⟩ := (⟨t1.ba.two, t1.bb.two⟩ : _ ∧ _); have T1 := Lib.hid t1; have tok1 : True := trivial; clear t1)
    go_ret2
    exact ⟨by rw [HZ.out] <;> rfl, T1.out.bel⟩
  rw [if_neg (fun k => k ha0)] at hz
  have g1 : (ea != 0) = false := by rw [hea, ha0]; rfl
  by_cases hb0 : checkP b = 0
  case neg =>
    rw [if_pos hb0, ← heb] at hz
    rw [← heb] at hb0
    have g2 : (eb != 0) = true := by rw [bne_iff_ne]; exact hb0
    have HZ := Lib.hid hz
    clear hz ha0 hb0 hea heb hsl h1 h2
    go_enter Tryz.func34, Tryz.ntmps34
    go_wp2_with (first
      | (clear tok0; go_at_call 35; refine (KA.out _ T0.out).mono ?_; rintro e w1 ⟨rfl, t1⟩; obtain ⟨⟨u0, u1, _⟩, ⟨v0, v1, _⟩⟩ := (⟨t1.ba.two, t1.bb.two⟩ : _ ∧ _); have T1 := Lib.hid t1; have tok1 : True := trivial; clear t1)
      | (clear tok1; go_at_call 35; refine (KB.out _ T1.out).mono ?_; rintro e w2 ⟨rfl, t2⟩; obtain ⟨⟨u0, u1, _⟩, ⟨v0, v1, _⟩⟩ := (⟨t2.ba.two, t2.bb.two⟩ : _ ∧ _); have T2 := Lib.hid t2; have tok2 : True := trivial; clear t2))
    go_ret2
    exact ⟨by rw [HZ.out] <;> rfl, T2.out.bel⟩
  rw [if_neg (fun k => k hb0)] at hz
  have g2 : (eb != 0) = false := by rw [heb, hb0]; rfl
  by_cases hne : a.balls = b.balls
  case neg =>
    rw [if_pos hne] at hz
    have g3 : (a.balls != b.balls) = true := by rw [bne_iff_ne]; exact hne
    have HZ := Lib.hid hz
    clear hz ha0 hb0 hea heb hsl h1 h2 hne
    go_enter Tryz.func34, Tryz.ntmps34
    go_wp2_with (first
      | (clear tok0; go_at_call 35; refine (KA.out _ T0.out).mono ?_; rintro e w1 ⟨rfl, t1⟩; obtain ⟨⟨u0, u1, _⟩, ⟨v0, v1, _⟩⟩ := (⟨t1.ba.two, t1.bb.two⟩ : _ ∧ _); have T1 := Lib.hid t1; have tok1 : True := trivial; clear t1)
      | (clear tok1; go_at_call 35; refine (KB.out _ T1.out).mono ?_; rintro e w2 ⟨rfl, t2⟩; obtain ⟨⟨u0, u1, _⟩, ⟨v0, v1, _⟩⟩ := (⟨t2.ba.two, t2.bb.two⟩ : _ ∧ _); have T2 := Lib.hid t2; have tok2 : True := trivial; clear t2))
    go_ret2
    exact ⟨by rw [HZ.out] <;> rfl, T2.out.bel⟩
  rw [if_neg (fun k => k hne)] at hz
  have g3 : (a.balls != b.balls) = false := by rw [hne]; simp
  have hl85 : b.ws.length ≤ 85 := by obtain ⟨m, hm, hob⟩ := checkP_ok hb0; have := hob.len.2; have := hob.n12; omega
  have kc : ∀ W (k : Nat), Th w W a b (.slice A a.ws.length ca) (.slice B b.ws.length cb) false → Calls Tryz.prog 31 #[.agg #[.int .i64 a.balls, .slice A a.ws.length ca], .int .i64 (k : Int)] W fun e w' => e = .returned (.tuple #[.int .i64 (atLeastL a.ws (k : Int)), .int .i64 0]) ∧ Th w w' a b (.slice A a.ws.length ca) (.slice B b.ws.length cb) false := fun W k hW => by
    refine (ref_AtLeast a _ (k : Int) W (hsl W hW.bel).1).mono ?_
    rintro e w' ⟨rfl, hb⟩
    exact ⟨by unfold atLeastS; rw [if_neg (fun k => k ha0)], hW.below hb⟩
  have kd : ∀ W (k : Nat), Th w W a b (.slice A a.ws.length ca) (.slice B b.ws.length cb) false → Calls Tryz.prog 31 #[.agg #[.int .i64 b.balls, .slice B b.ws.length cb], .int .i64 (k : Int)] W fun e w' => e = .returned (.tuple #[.int .i64 (atLeastL b.ws (k : Int)), .int .i64 0]) ∧ Th w w' a b (.slice A a.ws.length ca) (.slice B b.ws.length cb) false := fun W k hW => by
    refine (ref_AtLeast b _ (k : Int) W (hsl W hW.bel).2).mono ?_
    rintro e w' ⟨rfl, hb⟩
    exact ⟨by unfold atLeastS; rw [if_neg (fun k => k hb0)], hW.below hb⟩
  have KC := Lib.hid kc
  have KD := Lib.hid kd
  have HZ := Lib.hid hz
  clear hz ha0 hb0 hea heb hsl h1 h2 hne kc kd
  go_enter Tryz.func34, Tryz.ntmps34
  go_wp2_with (first
    | (clear tok0; go_at_call 35; refine (KA.out _ T0.out).mono ?_; rintro e w1 ⟨rfl, t1⟩; obtain ⟨⟨u0, u1, _⟩, ⟨v0, v1, _⟩⟩ := (⟨t1.ba.two, t1.bb.two⟩ : _ ∧ _); have T1 := Lib.hid t1; have tok1 : True := trivial; clear t1)
    | (clear tok1; go_at_call 35; refine (KB.out _ T1.out).mono ?_; rintro e w2 ⟨rfl, t2⟩; obtain ⟨⟨u0, u1, _⟩, ⟨v0, v1, _⟩⟩ := (⟨t2.ba.two, t2.bb.two⟩ : _ ∧ _); have T2 := Lib.hid t2; have tok2 : True := trivial; clear t2))
  go_loopw [31] (fun i wr => ∃ k : Nat, k ≤ b.ws.length ∧ i = .int .i64 k ∧ Th w wr a b (.slice A a.ws.length ca) (.slice B b.ws.length cb) false ∧ Hid (z = (domF a.ws b.ws k (b.ws.length - k), 0))) (fun i _ => b.ws.length - (intOf i).toNat)
  case atStart => exact ⟨0, Nat.zero_le _, rfl, T2.out, Lib.hid HZ.out⟩
  case round =>
    obtain ⟨k, hk, rfl, t3, HS⟩ := hrel
    by_cases hlt : k < b.ws.length
    · have hst := HS.out
      obtain ⟨r, hr⟩ : ∃ r, b.ws.length - k = r + 1 := ⟨b.ws.length - k - 1, by omega⟩
      rw [hr, domF] at hst
      have hr' : b.ws.length - (k + 1) = r := by omega
      rw [← hr'] at hst
      have KC3 := Lib.hid fun W => KC.out W k
      have KD3 := Lib.hid fun W => KD.out W k
      obtain ⟨xa, hxa⟩ : ∃ x, x = atLeastL a.ws (k : Int) := ⟨_, rfl⟩
      obtain ⟨xb, hxb⟩ : ∃ x, x = atLeastL b.ws (k : Int) := ⟨_, rfl⟩
      rw [← hxa] at KC3 hst
      rw [← hxb] at KD3 hst
      obtain ⟨⟨u0, u1, _⟩, ⟨v0, v1, _⟩⟩ := (⟨t3.ba.two, t3.bb.two⟩ : _ ∧ _)
      have T3 := Lib.hid t3
      clear t3 hxa hxb hr hr' r HS
      by_cases hx : xa < xb
      · rw [if_pos hx] at hst
        have HS2 := Lib.hid hst
        clear hst
        go_wp2_with (first
          | (clear tok2; go_at_call 31; refine (KC3.out _ T3.out).mono ?_; rintro e w4 ⟨rfl, t4⟩; obtain ⟨⟨u0, u1, _⟩, ⟨v0, v1, _⟩⟩ := (⟨t4.ba.two, t4.bb.two⟩ : _ ∧ _); have T4 := Lib.hid t4; have tok3 : True := trivial; clear t4)
          | (clear tok3; go_at_call 31; refine (KD3.out _ T4.out).mono ?_; rintro e w5 ⟨rfl, t5⟩; obtain ⟨⟨u0, u1, _⟩, ⟨v0, v1, _⟩⟩ := (⟨t5.ba.two, t5.bb.two⟩ : _ ∧ _); have T5 := Lib.hid t5; have tok4 : True := trivial; clear t5))
        go_ret2
        exact ⟨by rw [HS2.out] <;> rfl, T5.out.bel⟩
      · rw [if_neg hx] at hst
        have HS2 := Lib.hid hst
        clear hst
        go_wp2_with (first
          | (clear tok2; go_at_call 31; refine (KC3.out _ T3.out).mono ?_; rintro e w4 ⟨rfl, t4⟩; obtain ⟨⟨u0, u1, _⟩, ⟨v0, v1, _⟩⟩ := (⟨t4.ba.two, t4.bb.two⟩ : _ ∧ _); have T4 := Lib.hid t4; have tok3 : True := trivial; clear t4)
          | (clear tok3; go_at_call 31; refine (KD3.out _ T4.out).mono ?_; rintro e w5 ⟨rfl, t5⟩; obtain ⟨⟨u0, u1, _⟩, ⟨v0, v1, _⟩⟩ := (⟨t5.ba.two, t5.bb.two⟩ : _ ∧ _); have T5 := Lib.hid t5; have tok4 : True := trivial; clear t5))
        go_roundw
        case rel => exact ⟨k + 1, by omega, by go_num, T5.out, HS2⟩
        case measure => simp [intOf]; omega
    · have hst := HS.out
      have hkl : b.ws.length - k = 0 := by omega
      rw [hkl, domF] at hst
      have HZ2 := Lib.hid hst
      have T3 := Lib.hid t3
      clear HS hst t3 hkl
      go_wp2
      go_ret2
      exact ⟨by rw [HZ2.out] <;> rfl, T3.out.bel⟩
end Go.Proofs.YtoeeodemimndlaaGreatDoor
