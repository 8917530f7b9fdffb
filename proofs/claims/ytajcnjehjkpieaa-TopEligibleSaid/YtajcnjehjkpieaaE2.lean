/- The register's teamBefore, last, Team, Eligible. -/
import Derived.Test.YtajcnjehjkpieaaE1
set_option linter.unusedSimpArgs false
set_option linter.unusedVariables false
namespace Go.Proofs.Ytajcnjehjkpieaa
open Go.RowKit

set_option maxRecDepth 100000 in
set_option maxHeartbeats 2000000 in
theorem reg_teamBefore (l : List Tra) (v : Value) (n : Nat) (hn : n < l.length) (w : World) (h : Sl 3 elTra w (· < w.heap.size) v l) :
    Calls Try.prog 19 #[v, .int .i64 n] w fun e w' => e = .returned (.string (S (befT l (tr l n).player n))) ∧ Below w.heap.size w w' := by
  obtain ⟨A, c, rfl, hc, hc2⟩ := h.shape
  obtain ⟨b, o, rfl, hbl, t0, _⟩ := tra_at h hn
  obtain ⟨p, hp⟩ : ∃ p, p = (tr l n).player := ⟨_, rfl⟩
  rw [← hp] at t0 ⊢
  obtain ⟨z, hz⟩ : ∃ z, z = befT l p n := ⟨_, rfl⟩
  rw [← hz]
  have g1 : IntKind.i64.wrap ((n : Int) - 1) = (n : Int) - 1 := IntWalk.i64_in _ (by omega)
  have HZ := Lib.hid hz
  have H := Lib.hid h
  have HB := Lib.hid (Below.refl w.heap.size w)
  have HN := Lib.hid hn
  clear h hp hz
  go_enter Try.func19, Try.ntmps19
  go_wp2
  go_loopw [5] (fun i wr => ∃ (k : Nat) (x : Int), k ≤ n ∧ i = .int .i64 x ∧ x = (k : Int) - 1 ∧ Hid (Below w.heap.size w wr) ∧ Hid (z = befT l p k)) (fun i _ => (intOf i + 1).toNat)
  case atStart => exact ⟨n, _, Nat.le_refl _, rfl, rfl, HB, HZ⟩
  case round =>
    obtain ⟨k, x, hk, rfl, hx, hb, hzz⟩ := hrel
    clear HB HZ
    cases k with
    | zero =>
      obtain rfl : x = -1 := by omega
      clear hx
      go_wp2
      go_ret
      exact ⟨by rw [hzz.out]; rfl, hb.out⟩
    | succ j =>
      obtain rfl : x = (j : Int) := by omega
      have hlt : j < l.length := by have := HN.out; omega
      obtain ⟨b', o', e, _, y0, y1, _⟩ := tra_at H.out hlt
      injection e with e; injection e with e1 e2; subst e1 e2
      have x0 := (hb.out.cell (p := ⟨b, o + j * 3, none⟩) hbl).trans y0
      have x1 := (hb.out.cell (p := ⟨b, o + j * 3 + 1, none⟩) hbl).trans y1
      have x2 := (hb.out.cell (p := ⟨b, o + n * 3, none⟩) hbl).trans t0
      have hz2 := hzz.out
      unfold befT at hz2
      obtain ⟨⟨q, t, d⟩, hq⟩ : ∃ q, q = tr l j := ⟨_, rfl⟩
      rw [← hq] at x0 x1 hz2
      dsimp only at x0 x1 hz2
      have g2 : IntKind.i64.wrap ((j : Int) - 1) = (j : Int) - 1 := IntWalk.i64_in _ (by omega)
      have g3 : (j : Int) < (l.length : Int) := by omega
      have g4 : (n : Int) < (l.length : Int) := by have := HN.out; omega
      have g5 := HN.out
      clear hx y0 y1 hq
      cases d1 : (q == p)
      · rw [if_neg (by simpa using d1)] at hz2
        have HZZ := Lib.hid hz2
        clear hz2 hzz
        go_wp2
        go_quiet (fail)
        go_wp2
        go_roundw
        case rel => exact ⟨j, _, by omega, rfl, rfl, Lib.hid (Below.drewN_ hb.out _), HZZ⟩
        case measure => simp [intOf]
      · rw [if_pos (by simpa using d1)] at hz2
        have HZZ := Lib.hid hz2
        clear hz2 hzz
        go_wp2
        go_quiet (fail)
        go_wp2
        go_ret
        exact ⟨by rw [HZZ.out]; rfl, Below.drewN_ hb.out _⟩
set_option maxRecDepth 100000 in
set_option maxHeartbeats 2000000 in
theorem reg_last (l : List Tra) (v : Value) (p : List UInt8) (d : Int) (w : World) (h : Sl 3 elTra w (· < w.heap.size) v l) :
    Calls Try.prog 26 #[v, .string (S p), .int .i64 d] w fun e w' => e = .returned (.int .i64 (optI (lastF l p d l.length))) ∧ Below w.heap.size w w' := by
  obtain ⟨A, c, rfl, hc, hc2⟩ := h.shape
  obtain ⟨z, hz⟩ : ∃ z, z = lastF l p d l.length := ⟨_, rfl⟩
  rw [← hz]
  have g1 : IntKind.i64.wrap ((l.length : Int) - 1) = (l.length : Int) - 1 := IntWalk.i64_in _ (by omega)
  have HZ := Lib.hid hz
  have H := Lib.hid h
  have HB := Lib.hid (Below.refl w.heap.size w)
  clear h hz
  go_enter Try.func26, Try.ntmps26
  go_wp2
  go_loopw [7] (fun i wr => ∃ (k : Nat) (x : Int), k ≤ l.length ∧ i = .int .i64 x ∧ x = (k : Int) - 1 ∧ Hid (Below w.heap.size w wr) ∧ Hid (z = lastF l p d k)) (fun i _ => (intOf i + 1).toNat)
  case atStart => exact ⟨l.length, _, Nat.le_refl _, rfl, rfl, HB, HZ⟩
  case round =>
    obtain ⟨k, x, hk, rfl, hx, hb, hzz⟩ := hrel
    clear HB HZ
    cases k with
    | zero =>
      obtain rfl : x = -1 := by omega
      clear hx
      go_wp2
      go_ret
      exact ⟨by rw [hzz.out]; rfl, hb.out⟩
    | succ j =>
      obtain rfl : x = (j : Int) := by omega
      have hlt : j < l.length := by omega
      obtain ⟨b, o, rfl, hbl, y0, _, y2, _⟩ := tra_at H.out hlt
      have x0 := (hb.out.cell (p := ⟨b, o + j * 3, none⟩) hbl).trans y0
      have x2 := (hb.out.cell (p := ⟨b, o + j * 3 + 2, none⟩) hbl).trans y2
      have hz2 := hzz.out
      unfold lastF at hz2
      obtain ⟨⟨q, t, e⟩, hq⟩ : ∃ q, q = tr l j := ⟨_, rfl⟩
      rw [← hq] at x0 x2 hz2
      dsimp only at x0 x2 hz2
      have g2 : IntKind.i64.wrap ((j : Int) - 1) = (j : Int) - 1 := IntWalk.i64_in _ (by omega)
      have g3 : (j : Int) < (l.length : Int) := by omega
      clear hx y0 y2 hq
      cases d1 : (q == p)
      · rw [if_neg (fun hh => by rw [hh.1] at d1; simp at d1)] at hz2
        have HZZ := Lib.hid hz2
        clear hz2 hzz
        go_wp2
        go_roundw
        case rel => exact ⟨j, _, by omega, rfl, rfl, hb, HZZ⟩
        case measure => simp [intOf]
      · cases d2 : decide (e ≤ d)
        · rw [if_neg (fun hh => by rw [decide_eq_true hh.2] at d2; cases d2)] at hz2
          have HZZ := Lib.hid hz2
          clear hz2 hzz
          go_wp2
          go_roundw
          case rel => exact ⟨j, _, by omega, rfl, rfl, hb, HZZ⟩
          case measure => simp [intOf]
        · rw [if_pos ⟨by simpa using d1, of_decide_eq_true d2⟩] at hz2
          have HZZ := Lib.hid hz2
          clear hz2 hzz
          go_wp2
          go_ret
          exact ⟨by rw [HZZ.out]; rfl, hb.out⟩
set_option maxRecDepth 100000 in
theorem reg_Team (l : List Tra) (v : Value) (p : List UInt8) (d : Int) (w : World) (h : Sl 3 elTra w (· < w.heap.size) v l) :
    Calls Try.prog 12 #[v, .string (S p), .int .i64 d] w fun e w' => e = .returned (.string (S (teamD l p d))) ∧ Below w.heap.size w w' := by
  obtain ⟨A, c, rfl, hc, hc2⟩ := h.shape
  have kl := reg_last l _ p d w h
  have H := Lib.hid h
  unfold teamD
  cases hz : lastF l p d l.length with
  | none =>
    rw [hz, show optI none = -1 from rfl] at kl
    have KL := Lib.hid kl
    clear kl hz h
    dsimp only
    go_enter Try.func12, Try.ntmps12
    go_wp2_with (go_at_call 26; refine KL.out.mono ?_; rintro e w2 ⟨rfl, hb⟩; have HB := Lib.hid hb; clear hb)
    go_ret
    exact ⟨rfl, HB.out⟩
  | some i =>
    obtain ⟨hi, _⟩ := lastF_some hz
    rw [hz, show optI (some i) = (i : Int) from rfl] at kl
    have KL := Lib.hid kl
    obtain ⟨b, o, rfl, hbl, _, y1, _⟩ := tra_at h hi
    obtain ⟨t, ht⟩ : ∃ t, t = (tr l i).team := ⟨_, rfl⟩
    rw [← ht] at y1
    dsimp only
    rw [← ht]
    have g1 : (i : Int) < (l.length : Int) := by omega
    clear kl hz h ht
    go_enter Try.func12, Try.ntmps12
    go_wp2_with (go_at_call 26; refine KL.out.mono ?_; rintro e w2 ⟨rfl, hb⟩; have x1 := (hb.cell (p := ⟨b, o + i * 3 + 1, none⟩) hbl).trans y1; have HB := Lib.hid hb; clear hb)
    go_ret
    exact ⟨rfl, HB.out⟩
set_option maxRecDepth 100000 in
set_option maxHeartbeats 2000000 in
theorem reg_Eligible (l : List Tra) (v : Value) (p t : List UInt8) (d : Int) (w : World) (h : Sl 3 elTra w (· < w.heap.size) v l) :
    Calls Try.prog 9 #[v, .string (S p), .string (S t), .int .i64 d] w fun e w' => e = .returned (.bool (eligS l p t d)) ∧ Below w.heap.size w w' := by
  obtain ⟨A, c, rfl, hc, hc2⟩ := h.shape
  have kl := reg_last l _ p d w h
  have H := Lib.hid h
  unfold eligS
  cases hz : lastF l p d l.length with
  | none =>
    rw [hz, show optI none = -1 from rfl] at kl
    have KL := Lib.hid kl
    clear kl hz h
    dsimp only
    cases d1 : (t == [])
    · go_enter Try.func9, Try.ntmps9
      go_wp2_with (go_at_call 26; refine KL.out.mono ?_; rintro e w2 ⟨rfl, hb⟩; have HB := Lib.hid hb; clear hb)
      go_ret
      exact ⟨rfl, HB.out⟩
    · go_enter Try.func9, Try.ntmps9
      go_wp2_with (go_at_call 26; refine KL.out.mono ?_; rintro e w2 ⟨rfl, hb⟩; have HB := Lib.hid hb; clear hb)
      go_ret
      exact ⟨rfl, HB.out⟩
  | some i =>
    obtain ⟨hi, _⟩ := lastF_some hz
    rw [hz, show optI (some i) = (i : Int) from rfl] at kl
    have KL := Lib.hid kl
    obtain ⟨b, o, rfl, hbl, _, y1, y2, _⟩ := tra_at h hi
    have kb := fun W (hW : Below w.heap.size w W) => reg_teamBefore l _ i hi W (h.keep elTra_good (Same.of_below hW) fun _ h => Nat.lt_of_lt_of_le h hW.size)
    obtain ⟨q, hq⟩ : ∃ q, q = befT l (tr l i).player i := ⟨_, rfl⟩
    rw [← hq] at kb
    obtain ⟨u, hu⟩ : ∃ t, t = (tr l i).team := ⟨_, rfl⟩
    obtain ⟨g, hg⟩ : ∃ t, t = (tr l i).day := ⟨_, rfl⟩
    rw [← hu] at y1
    rw [← hg] at y2
    dsimp only
    rw [← hu, ← hg, ← hq]
    have KB := Lib.hid kb
    have g1 : (i : Int) < (l.length : Int) := by omega
    clear kl hz h hu hg hq kb
    have ht : (t != []) = !(t == []) := rfl
    rw [ht]
    have tok0 : True := trivial
    cases d1 : (t == [])
    · cases d2 : (u == t)
      · have e2 : (u != t) = true := by simp [bne, d2]
        go_enter Try.func9, Try.ntmps9
        go_wp2_with (go_at_call 26; refine KL.out.mono ?_; rintro e w2 ⟨rfl, hb⟩; have x1 := (hb.cell (p := ⟨b, o + i * 3 + 1, none⟩) hbl).trans y1; have HB := Lib.hid hb; clear hb)
        go_ret
        exact ⟨rfl, HB.out⟩
      · have e2 : (u != t) = false := by simp [bne, d2]
        cases d3 : (q == [])
        · cases d4 : farB d g
          all_goals
            unfold farB at d4
            go_enter Try.func9, Try.ntmps9
            go_wp2_with (first
              | (go_at_call 26; refine KL.out.mono ?_; rintro e w2 ⟨rfl, hb⟩; have x1 := (hb.cell (p := ⟨b, o + i * 3 + 1, none⟩) hbl).trans y1; have HB := Lib.hid hb; clear hb)
              | (go_at_call 19; refine (KB.out _ HB.out).mono ?_; rintro e w3 ⟨rfl, hb⟩; have hb3 := HB.out.trans (hb.mono HB.out.size); have x2 := (hb3.cell (p := ⟨b, o + i * 3 + 2, none⟩) hbl).trans y2; have HB3 := Lib.hid hb3; clear hb hb3))
            go_ret
            exact ⟨rfl, HB3.out⟩
        · go_enter Try.func9, Try.ntmps9
          go_wp2_with (first
            | (go_at_call 26; refine KL.out.mono ?_; rintro e w2 ⟨rfl, hb⟩; have x1 := (hb.cell (p := ⟨b, o + i * 3 + 1, none⟩) hbl).trans y1; have HB := Lib.hid hb; clear hb)
            | (go_at_call 19; refine (KB.out _ HB.out).mono ?_; rintro e w3 ⟨rfl, hb⟩; have hb3 := HB.out.trans (hb.mono HB.out.size); have HB3 := Lib.hid hb3; clear hb hb3))
          go_ret
          exact ⟨rfl, HB3.out⟩
    · go_enter Try.func9, Try.ntmps9
      go_wp2_with (go_at_call 26; refine KL.out.mono ?_; rintro e w2 ⟨rfl, hb⟩; have HB := Lib.hid hb; clear hb)
      go_ret
      exact ⟨rfl, HB.out⟩
end Go.Proofs.Ytajcnjehjkpieaa
