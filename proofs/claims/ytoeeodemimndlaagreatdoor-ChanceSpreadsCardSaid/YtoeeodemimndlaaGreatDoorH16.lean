/- The contract of chance.Dominates. -/
import Derived.Test.YtoeeodemimndlaaGreatDoorH13
set_option linter.unusedSimpArgs false
set_option linter.unusedVariables false
namespace Go.Proofs.YtoeeodemimndlaaGreatDoor
open Go.RowKit

theorem Th.drew {w W : World} {a b : Spr} {va vb : Value} {r : Bool} (h : Th w W a b va vb r) : Th w W.drew a b va vb r := h.below (Below.drew (Below.refl _ _))
set_option maxRecDepth 100000 in
set_option maxHeartbeats 2000000 in
theorem ch_Dominates (a b : Spr) (va vb : Value) (w : World) (h1 : Sl 1 elInt w (· < w.heap.size) va a.ws) (h2 : Sl 1 elInt w (· < w.heap.size) vb b.ws) :
    Calls Tryz.prog 33 #[sprV a va, sprV b vb] w fun e w' => e = .returned (.tuple #[.bool (domS a b).1, .int .i64 (domS a b).2]) ∧ Below w.heap.size w w' := by
  obtain ⟨A, ca, rfl, hca, hca2⟩ := h1.shape
  obtain ⟨B, cb, rfl, hcb, hcb2⟩ := h2.shape
  obtain ⟨W0, hW0⟩ : ∃ W0, W0 = (w.alloc (.cells #[.int .i64 a.balls, .slice A a.ws.length ca] 26)).alloc (.cells #[.int .i64 b.balls, .slice B b.ws.length cb] 26) := ⟨_, rfl⟩
  have t0 : Th w W0 a b (.slice A a.ws.length ca) (.slice B b.ws.length cb) false := by rw [hW0]; exact Th.new2 _ _ _ _ _
  have hsl : ∀ W, Below w.heap.size w W → Sl 1 elInt W (· < W.heap.size) (.slice A a.ws.length ca) a.ws ∧ Sl 1 elInt W (· < W.heap.size) (.slice B b.ws.length cb) b.ws := fun W hW => ⟨int_below h1 hW, int_below h2 hW⟩
  obtain ⟨e0, he0⟩ : ∃ e0, e0 = bothS a b := ⟨_, rfl⟩
  have kb : ∀ W, Th w W a b (.slice A a.ws.length ca) (.slice B b.ws.length cb) false → Calls Tryz.prog 55 #[.agg #[.int .i64 a.balls, .slice A a.ws.length ca], .agg #[.int .i64 b.balls, .slice B b.ws.length cb]] W fun e w' => e = .returned (.int .i64 e0) ∧ Th w w' a b (.slice A a.ws.length ca) (.slice B b.ws.length cb) false := fun W hW => by
    refine (ch_both a b _ _ W (hsl W hW.bel).1 (hsl W hW.bel).2).mono ?_
    rintro e w' ⟨rfl, hb⟩
    exact ⟨by rw [he0], hW.below hb⟩
  rw [hW0] at t0
  obtain ⟨⟨u0, u1, _⟩, ⟨v0, v1, _⟩⟩ := (⟨t0.ba.two, t0.bb.two⟩ : _ ∧ _)
  have T0 := Lib.hid t0
  have KB := Lib.hid kb
  clear hW0 t0 kb
  obtain ⟨z, hz⟩ : ∃ z, z = domS a b := ⟨_, rfl⟩
  rw [← hz]
  unfold domS at hz
  unfold sprV
  by_cases h0 : e0 = 0
  · have ha0 : checkP a = 0 := by
      rw [he0] at h0; unfold bothS at h0
      by_cases hx : checkP a = 0
      · exact hx
      · rw [if_pos hx] at h0; exact h0
    have hb0 : checkP b = 0 := by
      rw [he0] at h0; unfold bothS at h0
      rw [if_neg (fun k => k ha0)] at h0; exact h0
    rw [if_neg (fun k => k ha0), if_neg (fun k => k hb0)] at hz
    have g1 : (e0 != 0) = false := by rw [h0]; rfl
    obtain ⟨n, hn, hoa⟩ := checkP_ok ha0
    obtain ⟨m, hm, hob⟩ := checkP_ok hb0
    have hl85 : b.ws.length ≤ 85 := by have := hob.len.2; have := hob.n12; omega
    by_cases hne : a.balls = b.balls
    · rw [if_neg (fun k => k hne)] at hz
      have g2 : (a.balls != b.balls) = false := by rw [hne]; simp
      have ka : ∀ W (k : Nat), Th w W a b (.slice A a.ws.length ca) (.slice B b.ws.length cb) false → Calls Tryz.prog 56 #[.agg #[.int .i64 a.balls, .slice A a.ws.length ca], .int .i64 (k : Int)] W fun e w' => e = .returned (.int .i64 (atLeastL a.ws (k : Int))) ∧ Th w w' a b (.slice A a.ws.length ca) (.slice B b.ws.length cb) false := fun W k hW => by
        refine (ch_atLeast a _ (k : Int) n hoa W (hsl W hW.bel).1).mono ?_
        rintro e w' ⟨rfl, hb⟩
        exact ⟨rfl, hW.below hb⟩
      have kc : ∀ W (k : Nat), Th w W a b (.slice A a.ws.length ca) (.slice B b.ws.length cb) false → Calls Tryz.prog 56 #[.agg #[.int .i64 b.balls, .slice B b.ws.length cb], .int .i64 (k : Int)] W fun e w' => e = .returned (.int .i64 (atLeastL b.ws (k : Int))) ∧ Th w w' a b (.slice A a.ws.length ca) (.slice B b.ws.length cb) false := fun W k hW => by
        refine (ch_atLeast b _ (k : Int) m hob W (hsl W hW.bel).2).mono ?_
        rintro e w' ⟨rfl, hb⟩
        exact ⟨rfl, hW.below hb⟩
      have KA := Lib.hid ka
      have KC := Lib.hid kc
      have HZ := Lib.hid hz
      clear hz h0 ha0 hb0 hoa hob hn hm he0 hsl h1 h2 hne ka kc
      go_enter Tryz.func33, Tryz.ntmps33
      go_wp2_with (go_at_call 55; refine (KB.out _ T0.out).mono ?_; rintro e w2 ⟨rfl, t2⟩; obtain ⟨⟨u0, u1, _⟩, ⟨v0, v1, _⟩⟩ := (⟨t2.ba.two, t2.bb.two⟩ : _ ∧ _); have T2 := Lib.hid t2; clear t2)
      go_loopw [22] (fun i wr => ∃ k : Nat, k ≤ b.ws.length ∧ i = .int .i64 k ∧ Th w wr a b (.slice A a.ws.length ca) (.slice B b.ws.length cb) false ∧ Hid (z = (domF a.ws b.ws k (b.ws.length - k), 0))) (fun i _ => b.ws.length - (intOf i).toNat)
      case atStart => exact ⟨0, Nat.zero_le _, rfl, T2.out, Lib.hid HZ.out⟩
      case round =>
        obtain ⟨k, hk, rfl, t3, HS⟩ := hrel
        by_cases hlt : k < b.ws.length
        · have hst := HS.out
          obtain ⟨r, hr⟩ : ∃ r, b.ws.length - k = r + 1 := ⟨b.ws.length - k - 1, by omega⟩
          rw [hr, domF] at hst
          have hr' : b.ws.length - (k + 1) = r := by omega
          rw [← hr'] at hst
          have KA3 := Lib.hid fun W => KA.out W k
          have KC3 := Lib.hid fun W => KC.out W k
          obtain ⟨xa, hxa⟩ : ∃ x, x = atLeastL a.ws (k : Int) := ⟨_, rfl⟩
          obtain ⟨xb, hxb⟩ : ∃ x, x = atLeastL b.ws (k : Int) := ⟨_, rfl⟩
          rw [← hxa] at KA3 hst
          rw [← hxb] at KC3 hst
          obtain ⟨⟨u0, u1, _⟩, ⟨v0, v1, _⟩⟩ := (⟨t3.ba.two, t3.bb.two⟩ : _ ∧ _)
          have T3 := Lib.hid t3
          have tok0 : True := trivial
          clear t3 hxa hxb hr hr' r HS
          by_cases hx : xa < xb
          · rw [if_pos hx] at hst
            have HS2 := Lib.hid hst
            clear hst
            go_wp2
            go_region_held3 (fun w' => w'.cell? ⟨w.heap.size, 0, none⟩ = some (.int .i64 a.balls) ∧ w'.cell? ⟨w.heap.size, 1, none⟩ = some (.slice A a.ws.length ca) ∧ w'.cell? ⟨w.heap.size + 1, 0, none⟩ = some (.int .i64 b.balls) ∧ w'.cell? ⟨w.heap.size + 1, 1, none⟩ = some (.slice B b.ws.length cb)) (first | exact ⟨u0, u1, v0, v1⟩ | go_keep) (first
              | (clear tok0; go_at_call 56; refine (KA3.out _ T3.out.drew).mono ?_; rintro e w4 ⟨rfl, t4⟩; obtain ⟨⟨u0, u1, _⟩, ⟨v0, v1, _⟩⟩ := (⟨t4.ba.two, t4.bb.two⟩ : _ ∧ _); have T4 := Lib.hid t4; have tok1 : True := trivial; clear t4)
              | (clear tok1; go_at_call 56; refine (KC3.out _ T4.out).mono ?_; rintro e w5 ⟨rfl, t5⟩; obtain ⟨⟨u0, u1, _⟩, ⟨v0, v1, _⟩⟩ := (⟨t5.ba.two, t5.bb.two⟩ : _ ∧ _); have T5 := Lib.hid t5; have tok2 : True := trivial; clear t5))
            all_goals go_wp2
            all_goals go_ret2
            all_goals exact ⟨by rw [HS2.out] <;> rfl, T5.out.bel⟩
          · rw [if_neg hx] at hst
            have HS2 := Lib.hid hst
            clear hst
            go_wp2
            go_region_held3 (fun w' => w'.cell? ⟨w.heap.size, 0, none⟩ = some (.int .i64 a.balls) ∧ w'.cell? ⟨w.heap.size, 1, none⟩ = some (.slice A a.ws.length ca) ∧ w'.cell? ⟨w.heap.size + 1, 0, none⟩ = some (.int .i64 b.balls) ∧ w'.cell? ⟨w.heap.size + 1, 1, none⟩ = some (.slice B b.ws.length cb)) (first | exact ⟨u0, u1, v0, v1⟩ | go_keep) (first
              | (clear tok0; go_at_call 56; refine (KA3.out _ T3.out.drew).mono ?_; rintro e w4 ⟨rfl, t4⟩; obtain ⟨⟨u0, u1, _⟩, ⟨v0, v1, _⟩⟩ := (⟨t4.ba.two, t4.bb.two⟩ : _ ∧ _); have T4 := Lib.hid t4; have tok1 : True := trivial; clear t4)
              | (clear tok1; go_at_call 56; refine (KC3.out _ T4.out).mono ?_; rintro e w5 ⟨rfl, t5⟩; obtain ⟨⟨u0, u1, _⟩, ⟨v0, v1, _⟩⟩ := (⟨t5.ba.two, t5.bb.two⟩ : _ ∧ _); have T5 := Lib.hid t5; have tok2 : True := trivial; clear t5))
            all_goals
              go_wp2
              go_roundw
              case rel => exact ⟨k + 1, by omega, by go_num, T5.out, HS2⟩
              case measure => simp [intOf]; omega
        · have hst := HS.out
          have hkl : b.ws.length - k = 0 := by omega
          rw [hkl, domF] at hst
          have HZ2 := Lib.hid hst
          have T3 := Lib.hid t3
          clear HS hst t3 hkl
          go_wp2
          go_ret2
          exact ⟨by rw [HZ2.out] <;> rfl, T3.out.bel⟩
    · rw [if_pos hne] at hz
      have g2 : (a.balls != b.balls) = true := by rw [bne_iff_ne]; exact hne
      have HZ := Lib.hid hz
      clear hz h0 ha0 hb0 hoa hob hn hm he0 hsl h1 h2 hne
      go_enter Tryz.func33, Tryz.ntmps33
      go_wp2_with (go_at_call 55; refine (KB.out _ T0.out).mono ?_; rintro e w2 ⟨rfl, t2⟩; obtain ⟨⟨u0, u1, _⟩, ⟨v0, v1, _⟩⟩ := (⟨t2.ba.two, t2.bb.two⟩ : _ ∧ _); have T2 := Lib.hid t2; clear t2)
      go_ret2
      exact ⟨by rw [HZ.out] <;> rfl, T2.out.bel⟩
  · have hz2 : z = (false, e0) := by
      rw [hz, he0]; unfold bothS
      rw [he0] at h0; unfold bothS at h0
      by_cases hx : checkP a = 0
      · rw [if_neg (fun k => k hx)] at h0
        rw [if_neg (fun k => k hx), if_pos h0, if_neg (fun k => k hx)]
      · rw [if_pos hx, if_pos hx]
    have g1 : (e0 != 0) = true := by rw [bne_iff_ne]; exact h0
    have HZ := Lib.hid hz2
    clear hz hz2 h0 he0 hsl h1 h2
    go_enter Tryz.func33, Tryz.ntmps33
    go_wp2_with (go_at_call 55; refine (KB.out _ T0.out).mono ?_; rintro e w2 ⟨rfl, t2⟩; obtain ⟨⟨u0, u1, _⟩, ⟨v0, v1, _⟩⟩ := (⟨t2.ba.two, t2.bb.two⟩ : _ ∧ _); have T2 := Lib.hid t2; clear t2)
    go_ret2
    exact ⟨by rw [HZ.out] <;> rfl, T2.out.bel⟩
end Go.Proofs.YtoeeodemimndlaaGreatDoor
