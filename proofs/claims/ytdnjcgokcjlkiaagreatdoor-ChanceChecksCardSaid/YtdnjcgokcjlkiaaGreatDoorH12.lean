/- The contract of the law's awake (chapter 42): the chapter's examples. -/
import Derived.Test.YtdnjcgokcjlkiaaGreatDoorH11
set_option linter.unusedSimpArgs false
set_option linter.unusedVariables false
namespace Go.Proofs.YtdnjcgokcjlkiaaGreatDoor
open Go.RowKit

theorem itoa_dig (n : Nat) (h : n < 10) : Lib.itoa (n : Int) = [UInt8.ofNat (48 + n)] := by
  unfold Lib.itoa
  rw [if_neg (by omega), Int.toNat_natCast, Lib.decDigits, dif_pos h]
def exA : List UInt8 := [48, 58, 56, 32, 48, 87, 58, 49, 32, 49, 58, 53, 32, 52, 58, 50]
def exAd : List Otc := [⟨0, false, 8⟩, ⟨0, true, 1⟩, ⟨1, false, 5⟩, ⟨4, false, 2⟩]
def exB : List UInt8 := [48, 58, 56, 32, 49, 58, 56]
def exBd : List Otc := [⟨0, false, 8⟩, ⟨1, false, 8⟩]
theorem otcW_dig (r t : Nat) (b : Bool) (hr : r < 10) (ht : t < 10) : otcW ⟨(r : Int), b, (t : Int)⟩ = UInt8.ofNat (48 + r) :: ((if b = true then [87] else []) ++ [58, UInt8.ofNat (48 + t)]) := by
  unfold otcW
  simp only
  rw [itoa_dig r hr, itoa_dig t ht]
  simp
theorem exA_text : textC exAd = (exA, 0) := by
  have h0 : checkD exAd = 0 := by kernel_rfl
  have e0 := otcW_dig 0 8 false (by omega) (by omega)
  have e1 := otcW_dig 0 1 true (by omega) (by omega)
  have e2 := otcW_dig 1 5 false (by omega) (by omega)
  have e3 := otcW_dig 4 2 false (by omega) (by omega)
  unfold textC
  rw [if_neg (fun k => k h0)]
  show (Lib.join [otcW ⟨((0 : Nat) : Int), false, ((8 : Nat) : Int)⟩, otcW ⟨((0 : Nat) : Int), true, ((1 : Nat) : Int)⟩, otcW ⟨((1 : Nat) : Int), false, ((5 : Nat) : Int)⟩, otcW ⟨((4 : Nat) : Int), false, ((2 : Nat) : Int)⟩] [32], (0 : Int)) = _
  rw [e0, e1, e2, e3]
  kernel_rfl
theorem exB_text : textC exBd = (exB, 0) := by
  have h0 : checkD exBd = 0 := by kernel_rfl
  have e0 := otcW_dig 0 8 false (by omega) (by omega)
  have e1 := otcW_dig 1 8 false (by omega) (by omega)
  unfold textC
  rw [if_neg (fun k => k h0)]
  show (Lib.join [otcW ⟨((0 : Nat) : Int), false, ((8 : Nat) : Int)⟩, otcW ⟨((1 : Nat) : Int), false, ((8 : Nat) : Int)⟩] [32], (0 : Int)) = _
  rw [e0, e1]
  kernel_rfl
theorem exA_parse : parseC exA = (exAd, 0) := by
  have h1 : (pieces 32 exA).all pieceOk = true := by kernel_rfl
  have h2 : (pieces 32 exA).map pieceO = exAd := by kernel_rfl
  unfold parseC
  rw [h1, if_neg (by simp), h2, exA_text, if_neg (by simp)]
theorem exB_parse : parseC exB = (exBd, 0) := by
  have h1 : (pieces 32 exB).all pieceOk = true := by kernel_rfl
  have h2 : (pieces 32 exB).map pieceO = exBd := by kernel_rfl
  unfold parseC
  rw [h1, if_neg (by simp), h2, exB_text, if_neg (by simp)]
theorem exA_mean : meanS exAd = (13, 0) := by kernel_rfl
theorem exA_risk : riskS exAd = (1, 0) := by kernel_rfl
theorem exB_pow : powS exBd 2 = (⟨2, [64, 128, 64]⟩, 0) := by kernel_rfl
theorem exS_least : atLeastS ⟨2, [64, 128, 64]⟩ 1 = (192, 0) := by kernel_rfl
theorem exP : pctS 192 2 = ([55, 53, 46, 48, 48], 0) := by
  have h : pctH 192 2 = 7500 := by kernel_rfl
  unfold pctS
  rw [if_neg (by omega), if_neg (by have : unitV (2 : Int).toNat = 256 := by kernel_rfl
                                    rw [this]; omega)]
  rw [show (2 : Int).toNat = 2 from rfl, h]
  have e1 : Lib.itoa (7500 / 100) = [55, 53] := by
    show Lib.itoa 75 = _
    unfold Lib.itoa
    rw [if_neg (by omega), show (75 : Int).toNat = 75 from rfl, Lib.decDigits, dif_neg (by omega), Lib.decDigits, dif_pos (by omega)]
    rfl
  have e2 : padS (7500 % 100) 2 = [48, 48] := by
    show padS 0 2 = _
    have e : Lib.decDigits 0 = [48] := by rw [Lib.decDigits, dif_pos (by omega)]; rfl
    have e2 : (0 : Int).natAbs = 0 := rfl
    unfold padS
    rw [e2, e]
    rfl
  rw [e1, e2]
  rfl
theorem fresh_3 (W : World) (a b c : Int) : Sl 1 elInt (W.alloc (.cells #[.int .i64 a, .int .i64 b, .int .i64 c] 2)) (fun x => x = W.heap.size) (.slice (some ⟨W.heap.size, 0, none⟩) 3 3) [a, b, c] := by
  have hb := Blk.new W 2 #[.int .i64 a, .int .i64 b, .int .i64 c]
  refine ⟨some ⟨W.heap.size, 0, none⟩, 3, rfl, Nat.le_refl _, by decide, fun _ => ⟨W.heap.size, 0, rfl, rfl, fun i s hi => ⟨[.int .i64 s], rfl, fun j u hj => ?_, rfl⟩⟩⟩
  cases j with
  | succ j => simp at hj
  | zero =>
    simp at hj
    subst hj
    rw [hb.cell]
    match i, hi with
    | 0, hi => simp at hi; subst hi; rfl
    | 1, hi => simp at hi; subst hi; rfl
    | 2, hi => simp at hi; subst hi; rfl
/-- A slice that lies below. -/
theorem otc_below {w w' : World} {v : Value} {d : List Otc} (h : Sl 3 elOtc w (· < w.heap.size) v d) (hb : Below w.heap.size w w') : Sl 3 elOtc w' (· < w'.heap.size) v d := h.keep elOtc_good (Same.of_below hb) fun _ h => Nat.lt_of_lt_of_le h hb.size
theorem int_below {w w' : World} {v : Value} {d : List Int} (h : Sl 1 elInt w (· < w.heap.size) v d) (hb : Below w.heap.size w w') : Sl 1 elInt w' (· < w'.heap.size) v d := h.keep elInt_good (Same.of_below hb) fun _ h => Nat.lt_of_lt_of_le h hb.size
set_option maxRecDepth 100000 in
set_option maxHeartbeats 2000000 in
theorem law42_awake (w : World) (hg : GlobN w) : Calls Tryz.prog 31 #[] w fun e w' => e = .returned (.bool true) ∧ Below w.heap.size w w' := by
  have kp1 : ∀ W, Below w.heap.size w W → Calls Tryz.prog 40 #[.string ⟨#[48, 58, 56, 32, 48, 87, 58, 49, 32, 49, 58, 53, 32, 52, 58, 50]⟩] W fun e W' => ∃ A c, e = .returned (.tuple #[.slice A 4 c, .int .i64 0]) ∧ Sl 3 elOtc W' (· < W'.heap.size) (.slice A 4 c) exAd ∧ Below w.heap.size w W' ∧ Below W.heap.size W W' := fun W hW => by
    refine (ch_Parse (S exA) W (hg.below hW) (by decide)).mono ?_
    rintro e W' ⟨v, rfl, hs, hb⟩
    rw [S_data, exA_parse] at hs ⊢
    obtain ⟨A, c, rfl, _⟩ := hs.shape
    exact ⟨A, c, rfl, hs.keep elOtc_good (Same.refl _ _) fun _ h => h.2, hW.trans (hb.mono hW.size), hb⟩
  have kp2 : ∀ W, Below w.heap.size w W → Calls Tryz.prog 40 #[.string ⟨#[48, 58, 56, 32, 49, 58, 56]⟩] W fun e W' => ∃ A c, e = .returned (.tuple #[.slice A 2 c, .int .i64 0]) ∧ Sl 3 elOtc W' (· < W'.heap.size) (.slice A 2 c) exBd ∧ Below w.heap.size w W' ∧ Below W.heap.size W W' := fun W hW => by
    refine (ch_Parse (S exB) W (hg.below hW) (by decide)).mono ?_
    rintro e W' ⟨v, rfl, hs, hb⟩
    rw [S_data, exB_parse] at hs ⊢
    obtain ⟨A, c, rfl, _⟩ := hs.shape
    exact ⟨A, c, rfl, hs.keep elOtc_good (Same.refl _ _) fun _ h => h.2, hW.trans (hb.mono hW.size), hb⟩
  have km : ∀ W A c, Below w.heap.size w W → Sl 3 elOtc W (· < W.heap.size) (.slice A 4 c) exAd → Calls Tryz.prog 15 #[.slice A 4 c] W fun e W' => e = .returned (.tuple #[.int .i64 13, .int .i64 0]) ∧ Below w.heap.size w W' ∧ Sl 3 elOtc W' (· < W'.heap.size) (.slice A 4 c) exAd := fun W A c hW h => by
    refine (ch_Mean exAd _ W h).mono ?_
    rintro e W' ⟨rfl, hb⟩
    rw [exA_mean]
    exact ⟨rfl, hW.trans (hb.mono hW.size), otc_below h hb⟩
  have kr : ∀ W A c, Below w.heap.size w W → Sl 3 elOtc W (· < W.heap.size) (.slice A 4 c) exAd → Calls Tryz.prog 16 #[.slice A 4 c] W fun e W' => e = .returned (.tuple #[.int .i64 1, .int .i64 0]) ∧ Below w.heap.size w W' := fun W A c hW h => by
    refine (ch_Risk exAd _ W h).mono ?_
    rintro e W' ⟨rfl, hb⟩
    rw [exA_risk]
    exact ⟨rfl, hW.trans (hb.mono hW.size)⟩
  have ko : ∀ W A c, Below w.heap.size w W → Sl 3 elOtc W (· < W.heap.size) (.slice A 2 c) exBd → Calls Tryz.prog 63 #[.slice A 2 c, .int .i64 2] W fun e W' => ∃ D k, e = .returned (.tuple #[.agg #[.int .i64 2, .slice D 3 k], .int .i64 0]) ∧ Below w.heap.size w W' ∧ Sl 1 elInt W' (· < W'.heap.size) (.slice D 3 k) [64, 128, 64] := fun W A c hW h => by
    refine (ch_Power exBd _ 2 W h).mono ?_
    rintro e W' ⟨v, rfl, hs, hb⟩
    rw [exB_pow] at hs ⊢
    obtain ⟨D, k, rfl, _⟩ := hs.shape
    exact ⟨D, k, rfl, hW.trans (hb.mono hW.size), hs.keep elInt_good (Same.refl _ _) fun _ h => h.2⟩
  have kl : ∀ W D k, Below w.heap.size w W → Sl 1 elInt W (· < W.heap.size) (.slice D 3 k) [64, 128, 64] → Calls Tryz.prog 64 #[.agg #[.int .i64 2, .slice D 3 k], .int .i64 1] W fun e W' => e = .returned (.tuple #[.int .i64 192, .int .i64 0]) ∧ Below w.heap.size w W' ∧ Below W.heap.size W W' := fun W D k hW h => by
    refine (ch_AtLeast ⟨2, [64, 128, 64]⟩ _ 1 W h).mono ?_
    rintro e W' ⟨rfl, hb⟩
    rw [exS_least]
    exact ⟨rfl, hW.trans (hb.mono hW.size), hb⟩
  have kq : ∀ W, Below w.heap.size w W → Calls Tryz.prog 65 #[.int .i64 192, .int .i64 2] W fun e W' => e = .returned (.tuple #[.string ⟨#[55, 53, 46, 48, 48]⟩, .int .i64 0]) ∧ Below w.heap.size w W' ∧ Below W.heap.size W W' := fun W hW => by
    refine (ch_Percent 192 2 W (hg.below hW)).mono ?_
    rintro e W' ⟨rfl, hb⟩
    rw [exP]
    exact ⟨rfl, hW.trans (hb.mono hW.size), hb⟩
  have ks : ∀ W D k, Below w.heap.size w W → Sl 1 elInt W (· < W.heap.size) (.slice D 3 k) [64, 128, 64] → Calls Tryz.prog 66 #[.agg #[.int .i64 2, .slice D 3 k], .agg #[.int .i64 2, .slice (some ⟨W.heap.size, 0, none⟩) 3 3]] (W.alloc (.cells #[.int .i64 64, .int .i64 128, .int .i64 64] 2)) fun e W' => e = .returned (.bool true) ∧ Below w.heap.size w W' := fun W D k hW h => by
    have hb0 := Below.alloc (Below.refl W.heap.size W) (Nat.le_refl _) (.cells #[.int .i64 64, .int .i64 128, .int .i64 64] 2)
    refine (law_same ⟨2, [64, 128, 64]⟩ _ _ (· < W.heap.size) (fun x => x = W.heap.size) _ (h.keep elInt_good (Same.of_below hb0) fun _ h => h) (fresh_3 W 64 128 64) (fun x hx => by have : x < W.heap.size := hx; simp; omega) (fun x hx => by simp; omega)).mono ?_
    rintro e W' ⟨rfl, hb⟩
    exact ⟨rfl, (hW.trans (hb0.mono hW.size)).trans (hb.mono (by have := hW.size; simp; omega))⟩
  have KP1 := Lib.hid kp1
  have KP2 := Lib.hid kp2
  have KM := Lib.hid km
  have KR := Lib.hid kr
  have KO := Lib.hid ko
  have KL := Lib.hid kl
  have KQ := Lib.hid kq
  have KSM := Lib.hid ks
  clear kp1 kp2 km kr ko kl kq ks hg
  go_enter Tryz.func31, Tryz.ntmps31
  go_wp2_with (first
    | (go_at_call 40; ((with_reducible refine (KP1.out _ (Below.refl _ _)).mono ?_); rintro e w1 ⟨A, c, rfl, hs1, hb1, _⟩; have HS1 := Lib.hid hs1; have HB1 := Lib.hid hb1; clear hs1 hb1))
    | (go_at_call 15; refine (KM.out _ _ _ HB1.out HS1.out).mono ?_; rintro e w2 ⟨rfl, hb2, hs2⟩; have HB2 := Lib.hid hb2; have HS2 := Lib.hid hs2; clear hb2 hs2)
    | (go_at_call 16; refine (KR.out _ _ _ HB2.out HS2.out).mono ?_; rintro e w3 ⟨rfl, hb3⟩; have HB3 := Lib.hid hb3; clear hb3)
    | (go_at_call 40; ((with_reducible refine (KP2.out _ HB3.out).mono ?_); rintro e w4 ⟨A4, c4, rfl, hs4, hb4, _⟩; have HS4 := Lib.hid hs4; have HB4 := Lib.hid hb4; clear hs4 hb4))
    | (go_at_call 63; refine (KO.out _ _ _ HB4.out HS4.out).mono ?_; rintro e w5 ⟨D, k, rfl, hb5, hs5⟩; have hbx := Below.alloc (Below.refl w5.heap.size w5) (Nat.le_refl _) (.cells #[.int .i64 2, .slice D 3 k] 90); have HK5 := Lib.hid (Blk.new w5 90 #[.int .i64 2, .slice D 3 k]); have HB5 := Lib.hid (hb5.trans (hbx.mono hb5.size)); have HS5 := Lib.hid (int_below hs5 hbx); clear hb5 hs5 hbx)
    | (go_at_call 64; refine (KL.out _ _ _ HB5.out HS5.out).mono ?_; rintro e w6 ⟨rfl, hb6, hc6⟩; have hk6 := HK5.out.below hc6 HK5.out.lt; have HS6 := Lib.hid (int_below HS5.out hc6); have HK6 := Lib.hid hk6; have HB6 := Lib.hid hb6; clear hb6 hc6 hk6)
    | (go_at_call 65; refine (KQ.out _ HB6.out).mono ?_; rintro e w7 ⟨rfl, hb7, hc7⟩; have hk7 := HK6.out.below hc7 HK6.out.lt; obtain ⟨y0, y1, _⟩ := hk7.two; have HS7 := Lib.hid (int_below HS6.out hc7); have HB7 := Lib.hid hb7; clear hb7 hc7 hk7)
    | (go_at_call 66; refine (KSM.out _ _ _ HB7.out HS7.out).mono ?_; rintro e w8 ⟨rfl, hb8⟩; have HB8 := Lib.hid hb8; clear hb8))
  go_ret
  exact ⟨rfl, HB8.out⟩
end Go.Proofs.YtdnjcgokcjlkiaaGreatDoor
