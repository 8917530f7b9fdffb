/- The contract of the reference's Shift (chapter 43). -/
import Derived.Test.YtcbkpjiaipabbaaGreatDoorJ8
set_option linter.unusedSimpArgs false
set_option linter.unusedVariables false
namespace Go.Proofs.YtcbkpjiaipabbaaGreatDoor
open Go.RowKit

/-- While the reference shifts: the list that lies is fit to be moved in. -/
structure Sf (w W : World) (v : Value) (l : List Otc) (n : Nat) : Prop where
  bel : Below w.heap.size w W
  sl : Sl 3 elOtc W (· < W.heap.size) v l
  uni : Uni l
  sum : sumK (wAt l) 16 0 = 16
  len : l.length ≤ 16 + n
theorem Sf.ok {w W : World} {v : Value} {l : List Otc} {n : Nat} (h : Sf w W v l n) : ∀ o ∈ l, OkN o := h.uni.small h.sum
theorem Sf.below {w W W' : World} {v : Value} {l : List Otc} {n : Nat} (h : Sf w W v l n) (hb : Below W.heap.size W W') : Sf w W' v l n :=
  ⟨h.bel.trans (hb.mono h.bel.size), h.sl.keep elOtc_good (Same.of_below hb) fun _ hx => Nat.lt_of_lt_of_le hx hb.size, h.uni, h.sum, h.len⟩
theorem fit_uni {l : List Otc} (h : Uni l) (hs : sumK (wAt l) 16 0 = 16) : Fit (wAt l) := ⟨fun j _ => wAt_nonneg (fun o ho => (h.each o ho).2.2) j, hs⟩
theorem Sf.hard {w W W' : World} {v v' : Value} {l : List Otc} {n : Nat} (h : Sf w W v l n) (k : Nat) (hp : ∃ v, Ending.returned v' = .returned v ∧ Sl 3 elOtc W' (· < W'.heap.size) v (hardL k l) ∧ Below W.heap.size W W') : Sf w W' v' (hardL k l) (n + 1) := by
  obtain ⟨v2, e, hs, hb⟩ := hp
  injection e with e
  subst e
  obtain ⟨h1, h2, h3⟩ := hardL_law h.uni k
  exact ⟨h.bel.trans (hb.mono h.bel.size), hs, h1, by rw [h2]; exact ((fit_uni h.uni h.sum).hard k).sum, by have := h.len; omega⟩
theorem Sf.easy {w W W' : World} {v v' : Value} {l : List Otc} {n : Nat} (h : Sf w W v l n) (hp : ∃ v, Ending.returned v' = .returned v ∧ Sl 3 elOtc W' (· < W'.heap.size) v (easyL l) ∧ Below W.heap.size W W') : Sf w W' v' (easyL l) (n + 1) := by
  obtain ⟨v2, e, hs, hb⟩ := hp
  injection e with e
  subst e
  obtain ⟨h1, h2, h3⟩ := easyL_law h.uni
  exact ⟨h.bel.trans (hb.mono h.bel.size), hs, h1, by rw [h2]; exact (fit_uni h.uni h.sum).easy.sum, by have := h.len; omega⟩
theorem Sf.more {w W : World} {v : Value} {l : List Otc} {n m : Nat} (h : Sf w W v l n) (hm : n ≤ m) : Sf w W v l m := ⟨h.bel, h.sl, h.uni, h.sum, by have := h.len; omega⟩
/-- What most and dot hand back lies in the list, or is below 0. -/
theorem most_in (l : List Otc) : mostS l = -1 ∨ ∃ i : Nat, i < l.length ∧ mostS l = i := by
  rcases mostK_at l l.length (Nat.le_refl _) with ⟨h, _⟩ | ⟨i, hi, _, h, _⟩
  · exact .inl h
  · exact .inr ⟨i, hi, h⟩
theorem dot_in (l : List Otc) (t : Bool) : dotS l t = -1 ∨ ∃ i : Nat, i < l.length ∧ dotS l t = i := by
  rcases dotF_at t l 0 with ⟨h, _⟩ | ⟨i, hi, h, _⟩
  · exact .inl h
  · exact .inr ⟨i, hi, by unfold dotS; rw [h]; congr 1; omega⟩
theorem hard_is {l : List Otc} {i : Nat} (h : mostS l = i) (k : Nat) : hardL k l = moveL l i 0 (decide (k % 2 = 1)) := by unfold hardL; rw [h, if_pos (by omega), Int.toNat_natCast]
theorem hard_not {l : List Otc} (h : mostS l = -1) (k : Nat) : hardL k l = l := by unfold hardL; rw [h, if_neg (by omega)]
theorem easy_true {l : List Otc} {i : Nat} (h : dotS l true = i) : easyL l = moveL l i 1 false := by
  have e : easyI l = i := by unfold easyI; rw [if_neg (by omega), h]
  unfold easyL; rw [e, if_pos (by omega), Int.toNat_natCast]
theorem easy_false {l : List Otc} {i : Nat} (h1 : dotS l true = -1) (h : dotS l false = i) : easyL l = moveL l i 1 false := by
  have e : easyI l = i := by unfold easyI; rw [if_pos (by omega), h]
  unfold easyL; rw [e, if_pos (by omega), Int.toNat_natCast]
theorem easy_not {l : List Otc} (h1 : dotS l true = -1) (h : dotS l false = -1) : easyL l = l := by
  have e : easyI l = -1 := by unfold easyI; rw [if_pos (by omega), h]
  unfold easyL; rw [e, if_neg (by omega)]
@[go_sem] theorem build_otcW (b : Bool) (w : World) : (Instr.build 45 #[(1, .bool b)]).run Tryz.prog w = .ok (.agg #[.int .i64 0, .bool b, .int .i64 0]) w := run_build w 45 _ _ (by kernel_rfl)
@[go_sem] theorem build_otcR (x : Int) (w : World) : (Instr.build 45 #[(0, .int .i64 x)]).run Tryz.prog w = .ok (.agg #[.int .i64 x, .bool false, .int .i64 0]) w := run_build w 45 _ _ (by kernel_rfl)
set_option maxRecDepth 100000 in
set_option maxHeartbeats 4000000 in
theorem r_Shift (d : List Otc) (v : Value) (n : Int) (w : World) (h : Sl 3 elOtc w (· < w.heap.size) v d) : Calls Tryz.prog 51 #[v, .int .i64 n] w (OtcPost w (shiftS d n)) := by
  obtain ⟨z, hz⟩ : ∃ z, z = shiftS d n := ⟨_, rfl⟩
  rw [← hz]
  obtain ⟨A, c, rfl, hc, hc2⟩ := h.shape
  have kch := ref_CCheck d _ w h
  have hbad := fun h0 : checkD d ≠ 0 => shift_bad (n := n) h0
  have hfar := fun (h0 : checkD d = 0) => shift_far (n := n) h0
  have hok := fun (h0 : checkD d = 0) (h1 : -12 ≤ n) (h2 : n ≤ 12) => shiftL_norm (n := n) h0 h1 h2
  have hsf : checkD d = 0 → ∀ W, Below w.heap.size w W → Sf w W (.slice A d.length c) (hardLK d 0) 0 := fun h0 W hb =>
    ⟨hb, h.keep elOtc_good (Same.of_below hb) fun _ hx => Nat.lt_of_lt_of_le hx hb.size, uni_of h0, (fit_of h0).sum, by have := (checkD_ok h0).len; show d.length ≤ 16 + 0; omega⟩
  obtain ⟨cd, hcd⟩ : ∃ cd, cd = checkD d := ⟨_, rfl⟩
  rw [← hcd] at kch hbad hfar hok hsf
  have HZ := Lib.hid hz
  have KCH := Lib.hid kch
  clear h hz kch hcd
  go_enter Tryz.func51, Tryz.ntmps51
  by_cases h0 : cd = 0
  · by_cases h1 : n < -12 ∨ 12 < n
    · have hz2 := HZ.out
      rw [hfar h0 h1] at hz2
      have HZ2 := Lib.hid hz2
      have e0 : (cd != 0) = false := by simpa using h0
      clear hz2 hbad hfar hok hsf h0
      rcases h1 with h1 | h1
      · have e1 : decide (n < -12) = true := decide_eq_true h1
        go_wp2_with (go_at_call 59; refine KCH.out.mono ?_; rintro e w1 ⟨rfl, hb1⟩; have HB1 := Lib.hid hb1; clear hb1)
        go_ret2
        exact otc_nil HB1.out HZ2.out
      · have e1 : decide (n < -12) = false := decide_eq_false (by omega)
        have e2 : decide (12 < n) = true := decide_eq_true h1
        go_wp2_with (go_at_call 59; refine KCH.out.mono ?_; rintro e w1 ⟨rfl, hb1⟩; have HB1 := Lib.hid hb1; clear hb1)
        go_ret2
        exact otc_nil HB1.out HZ2.out
    · have hz2 := HZ.out
      rw [← hok h0 (by omega) (by omega)] at hz2
      have HZ2 := Lib.hid hz2
      have HSF := Lib.hid (hsf h0)
      have e0 : (cd != 0) = false := by simpa using h0
      have e1 : decide (n < -12) = false := decide_eq_false (by omega)
      have e2 : decide (12 < n) = false := decide_eq_false (by omega)
      have n0 : -12 ≤ n := by omega
      have n1 : n ≤ 12 := by omega
      clear hz2 hbad hfar hok hsf h0 h1 HZ
      go_wp2_with (go_at_call 59; refine KCH.out.mono ?_; rintro e w1 ⟨rfl, hb1⟩; have HF1 := Lib.hid (HSF.out _ hb1); clear hb1)
      go_loopw [7, 0] (fun i dv wr => ∃ k : Nat, (k = 0 ∨ (k : Int) ≤ n) ∧ i = .int .i64 k ∧ Hid (Sf w wr dv (hardLK d k) k)) (fun i _ _ => 12 - (intOf i).toNat)
      case atStart => exact ⟨0, .inl rfl, rfl, HF1⟩
      case round =>
        obtain ⟨k, hk, rfl, HS⟩ := hrel
        have hk12 : k ≤ 12 := by omega
        by_cases hlt : (k : Int) < n
        · have el : decide ((k : Int) < n) = true := decide_eq_true hlt
          obtain ⟨l, hl⟩ : ∃ l, l = hardLK d k := ⟨_, rfl⟩
          have hnx : hardLK d (k + 1) = hardL k l := by rw [hl]; rfl
          rw [← hl] at HS
          have HNX := Lib.hid hnx
          have km := r_most l _ _ _ HS.out.sl fun _ h => h
          obtain ⟨m, hm⟩ : ∃ m, m = mostS l := ⟨_, rfl⟩
          rw [← hm] at km
          rcases most_in l with h1 | ⟨i, hi, h1⟩
          · obtain rfl : m = -1 := by rw [hm, h1]
            have KM := Lib.hid km
            have HE := Lib.hid (show hardLK d (k + 1) = l from by rw [hnx, hard_not h1])
            clear hm h1 km hnx hl hk
            go_wp2_with (go_at_call 73; refine KM.out.mono ?_; rintro e w2 ⟨rfl, hb2⟩; have HS2 := Lib.hid (HS.out.below hb2); clear hb2)
            go_roundw
            case rel => exact ⟨k + 1, .inr (by omega), by go_num, Lib.hid (by rw [HE.out]; exact HS2.out.more (Nat.le_succ _))⟩
            case measure => simp [intOf]; omega
          · obtain rfl : m = (i : Int) := by rw [hm, h1]
            obtain ⟨b, hb⟩ : ∃ b, b = decide (k % 2 = 1) := ⟨_, rfl⟩
            have em : ((k : Int) % 2 == 1) = b := by
              rw [hb, Bool.eq_iff_iff, beq_iff_eq, decide_eq_true_eq]; omega
            have KM := Lib.hid km
            have hlen := HS.out.len
            have hnew : ∀ W W' v', Below w.heap.size w W → Sf w W v' l k → ∀ v3, Sl 3 elOtc W' (· < W'.heap.size) v3 (moveL l i 0 b) → Below W.heap.size W W' → Sf w W' v3 (hardLK d (k + 1)) (k + 1) := fun W W' v' _ hs v3 h3 hb3 => by
              rw [hnx]; exact hs.hard k ⟨v3, rfl, by rw [hard_is h1, ← hb]; exact h3, hb3⟩
            have HNW := Lib.hid hnew
            have kv := fun W v' (hs : Sf w W v' l k) => r_move l v' i 0 b W hs.sl hi hs.ok (by omega)
            have KV := Lib.hid kv
            clear hm h1 km hnx hl hk hb hnew kv hlen hi
            go_wp2_with (first
              | (go_at_call 73; refine KM.out.mono ?_; rintro e w2 ⟨rfl, hb2⟩; have HS2 := Lib.hid (HS.out.below hb2); clear hb2)
              | (go_at_call 74; refine (KV.out _ _ HS2.out).mono ?_; rintro e w3 ⟨v3, rfl, hs3, hb3⟩; have HS3 := Lib.hid (HNW.out _ w3 _ HS2.out.bel HS2.out v3 hs3 hb3); clear hs3 hb3))
            go_roundw
            case rel => exact ⟨k + 1, .inr (by omega), by go_num, HS3⟩
            case measure => simp [intOf]; omega
        · have el : decide ((k : Int) < n) = false := decide_eq_false hlt
          obtain ⟨d1, hd1⟩ : ∃ d1, d1 = hardLK d n.toNat := ⟨_, rfl⟩
          have hs1 := HS.out.more hk12
          rw [show hardLK d k = d1 from by rw [hd1]; congr 1; omega] at hs1
          have HS1 := Lib.hid hs1
          have hz3 := HZ2.out
          unfold shiftL at hz3
          rw [← hd1] at hz3
          have HZ3 := Lib.hid hz3
          clear hs1 hz3 hd1 HS hlt hk HZ2
          go_wp2
          go_loopw [9, 0] (fun i dv wr => ∃ k : Nat, (k = 0 ∨ (k : Int) ≤ -n) ∧ i = .int .i64 k ∧ Hid (Sf w wr dv (easyLK d1 k) (12 + k))) (fun i _ _ => 12 - (intOf i).toNat)
          case atStart => exact ⟨0, .inl rfl, rfl, HS1⟩
          case round =>
            obtain ⟨k, hk, rfl, HS⟩ := hrel
            have hk12 : k ≤ 12 := by omega
            by_cases hlt : (k : Int) < -n
            · have el : decide ((k : Int) < -n) = true := decide_eq_true hlt
              obtain ⟨l, hl⟩ : ∃ l, l = easyLK d1 k := ⟨_, rfl⟩
              have hnx : easyLK d1 (k + 1) = easyL l := by rw [hl]; rfl
              rw [← hl] at HS
              have kd := fun t W v' (hs : Sf w W v' l (12 + k)) => r_dot l v' t _ W hs.sl fun _ h => h
              have hnew : ∀ i : Nat, easyL l = moveL l i 1 false → ∀ W W' v', Sf w W v' l (12 + k) → ∀ v3, Sl 3 elOtc W' (· < W'.heap.size) v3 (moveL l i 1 false) → Below W.heap.size W W' → Sf w W' v3 (easyLK d1 (k + 1)) (12 + (k + 1)) := fun i he W W' v' hs v3 h3 hb3 => by
                rw [hnx]; exact hs.easy ⟨v3, rfl, by rw [he]; exact h3, hb3⟩
              have kv := fun (i : Nat) (hi : i < l.length) W v' (hs : Sf w W v' l (12 + k)) => r_move l v' i 1 false W hs.sl hi hs.ok (by have := hs.len; omega)
              have hsame : easyL l = l → easyLK d1 (k + 1) = l := fun h => by rw [hnx, h]
              have ht := fun i (h : dotS l true = ((i : Nat) : Int)) => easy_true h
              have hf := fun i (h1 : dotS l true = -1) (h : dotS l false = ((i : Nat) : Int)) => easy_false h1 h
              have hn := fun (h1 : dotS l true = -1) (h : dotS l false = -1) => easy_not h1 h
              have dt := dot_in l true
              have df := dot_in l false
              have kt := kd true
              have kf := kd false
              obtain ⟨mt, hmt⟩ : ∃ m, m = dotS l true := ⟨_, rfl⟩
              obtain ⟨mf, hmf⟩ : ∃ m, m = dotS l false := ⟨_, rfl⟩
              rw [← hmt] at dt kt ht
              rw [← hmf] at df kf
              simp only [← hmt, ← hmf] at hf hn
              have HNW := Lib.hid hnew
              have KV := Lib.hid kv
              have KT := Lib.hid kt
              have KF := Lib.hid kf
              have tokT : True := trivial
              clear hnx hl hk kd hnew kv kt kf hmt hmf
              rcases dt with rfl | ⟨i, hi, rfl⟩
              · rcases df with rfl | ⟨i, hi, rfl⟩
                · have HE := Lib.hid (hsame (hn rfl rfl))
                  clear hsame ht hf hn
                  go_wp2_with (first
                    | (clear tokT; go_at_call 75; refine (KT.out _ _ HS.out).mono ?_; rintro e w2 ⟨rfl, hb2⟩; have HS2 := Lib.hid (HS.out.below hb2); clear hb2; have tokF : True := trivial)
                    | (clear tokF; go_at_call 75; refine (KF.out _ _ HS2.out).mono ?_; rintro e w3 ⟨rfl, hb3⟩; have HS3 := Lib.hid (HS2.out.below hb3); clear hb3))
                  go_roundw
                  case rel => exact ⟨k + 1, .inr (by omega), by go_num, Lib.hid (by rw [HE.out]; exact HS3.out.more (by omega))⟩
                  case measure => simp [intOf]; omega
                · have HE := Lib.hid (hf i rfl rfl)
                  have HI := Lib.hid hi
                  clear hsame ht hf hn hi
                  go_wp2_with (first
                    | (clear tokT; go_at_call 75; refine (KT.out _ _ HS.out).mono ?_; rintro e w2 ⟨rfl, hb2⟩; have HS2 := Lib.hid (HS.out.below hb2); clear hb2; have tokF : True := trivial)
                    | (clear tokF; go_at_call 75; refine (KF.out _ _ HS2.out).mono ?_; rintro e w3 ⟨rfl, hb3⟩; have HS3 := Lib.hid (HS2.out.below hb3); clear hb3; have tokM : True := trivial)
                    | (clear tokM; go_at_call 74; refine (KV.out i HI.out _ _ HS3.out).mono ?_; rintro e w4 ⟨v4, rfl, hs4, hb4⟩; have HS4 := Lib.hid (HNW.out i HE.out _ w4 _ HS3.out v4 hs4 hb4); clear hs4 hb4))
                  go_roundw
                  case rel => exact ⟨k + 1, .inr (by omega), by go_num, HS4⟩
                  case measure => simp [intOf]; omega
              · have HE := Lib.hid (ht i rfl)
                have HI := Lib.hid hi
                clear hsame ht hf hn hi df
                go_wp2_with (first
                  | (clear tokT; go_at_call 75; refine (KT.out _ _ HS.out).mono ?_; rintro e w2 ⟨rfl, hb2⟩; have HS2 := Lib.hid (HS.out.below hb2); clear hb2; have tokM : True := trivial)
                  | (clear tokM; go_at_call 74; refine (KV.out i HI.out _ _ HS2.out).mono ?_; rintro e w4 ⟨v4, rfl, hs4, hb4⟩; have HS4 := Lib.hid (HNW.out i HE.out _ w4 _ HS2.out v4 hs4 hb4); clear hs4 hb4))
                go_roundw
                case rel => exact ⟨k + 1, .inr (by omega), by go_num, HS4⟩
                case measure => simp [intOf]; omega
            · have el : decide ((k : Int) < -n) = false := decide_eq_false hlt
              have hs2 := HS.out
              have hz4 := HZ3.out
              rw [show (-n).toNat = k from by omega] at hz4
              have KN := Lib.hid (hz4 ▸ ref_Norm _ _ _ hs2.sl)
              have HBE := Lib.hid hs2.bel
              clear hs2 hz4 HZ3 HS hlt hk
              go_wp2_with (go_at_call 76; refine KN.out.mono ?_; rintro e w7 ⟨v7, rfl, hs7, hb7⟩; have HS7 := Lib.hid hs7; have HB7 := Lib.hid hb7; clear hs7 hb7)
              go_ret2
              exact ⟨v7, rfl, HS7.out.keep elOtc_good (Same.refl _ _) (fun b hx => ⟨Nat.le_trans HBE.out.size hx.1, hx.2⟩), HBE.out.trans (HB7.out.mono HBE.out.size)⟩
  · have hz2 := HZ.out
    rw [hbad h0] at hz2
    have HZ2 := Lib.hid hz2
    have e0 : (cd != 0) = true := by simp [h0]
    clear hz2 hbad hfar hok hsf h0
    go_wp2_with (go_at_call 59; refine KCH.out.mono ?_; rintro e w1 ⟨rfl, hb1⟩; have HB1 := Lib.hid hb1; clear hb1)
    go_ret2
    exact otc_nil HB1.out (by rw [HZ2.out])
end Go.Proofs.YtcbkpjiaipabbaaGreatDoor
