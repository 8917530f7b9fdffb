/- The contracts of the law's awake and equal (chapter 43): the chapter's examples. -/
import Derived.Test.YticfopjbaoigfaaGreatDoorJ9
import Derived.Test.YticfopjbaoigfaaGreatDoorH11
set_option linter.unusedSimpArgs false
set_option linter.unusedVariables false
namespace Go.Proofs.YticfopjbaoigfaaGreatDoor
open Go.RowKit

theorem otc_ex3 {W w' : World} {l : List Otc} {u : Int} {e : Ending} (h : OtcPost W (l, u) e w') : ∃ A n c, e = .returned (.tuple #[.slice A n c, .int .i64 u]) ∧ Below W.heap.size W w' ∧ Sl 3 elOtc w' (· < w'.heap.size) (.slice A n c) l := by
  obtain ⟨v, rfl, hs, hb⟩ := h
  obtain ⟨A, c, rfl, _⟩ := hs.shape
  exact ⟨A, _, c, rfl, hb, hs.keep elOtc_good (Same.refl _ _) fun b h => h.2⟩
theorem sl_on3 {w W : World} {v : Value} {l : List Otc} (h : Sl 3 elOtc w (· < w.heap.size) v l) (hb : Below w.heap.size w W) : Sl 3 elOtc W (· < W.heap.size) v l := h.keep elOtc_good (Same.of_below hb) fun b hx => Nat.lt_of_lt_of_le hx hb.size
theorem itoa_dig3 (n : Nat) (h : n < 10) : Lib.itoa (n : Int) = [UInt8.ofNat (48 + n)] := by
  unfold Lib.itoa
  rw [if_neg (by omega), Int.toNat_natCast, Lib.decDigits, dif_pos h]
theorem otcW_dig3 (r t : Nat) (b : Bool) (hr : r < 10) (ht : t < 10) : otcW ⟨(r : Int), b, (t : Int)⟩ = UInt8.ofNat (48 + r) :: ((if b = true then [87] else []) ++ [58, UInt8.ofNat (48 + t)]) := by
  unfold otcW
  simp only
  rw [itoa_dig3 r hr, itoa_dig3 t ht]
  simp
theorem dec_two (n : Nat) (h : 10 ≤ n) (h2 : n < 100) : Lib.itoa (n : Int) = [UInt8.ofNat (48 + n / 10), UInt8.ofNat (48 + n % 10)] := by
  unfold Lib.itoa
  rw [if_neg (by omega), Int.toNat_natCast, Lib.decDigits, dif_neg (by omega), Lib.decDigits, dif_pos (by omega)]
  rfl
theorem otcW_dig2 (r t : Nat) (b : Bool) (hr : r < 10) (h : 10 ≤ t) (ht : t < 100) : otcW ⟨(r : Int), b, (t : Int)⟩ = UInt8.ofNat (48 + r) :: ((if b = true then [87] else []) ++ [58, UInt8.ofNat (48 + t / 10), UInt8.ofNat (48 + t % 10)]) := by
  unfold otcW
  simp only
  rw [itoa_dig3 r hr, dec_two t h ht]
  simp
def exmM1 : List UInt8 := [48, 58, 56, 32, 49, 58, 52, 32, 52, 58, 52]
def exmM1d : List Otc := [⟨0, false, 8⟩, ⟨1, false, 4⟩, ⟨4, false, 4⟩]
theorem exmM1_text : textC exmM1d = (exmM1, 0) := by
  have h0 : checkD exmM1d = 0 := by kernel_rfl
  have e0 := otcW_dig3 0 8 false (by omega) (by omega)
  have e1 := otcW_dig3 1 4 false (by omega) (by omega)
  have e2 := otcW_dig3 4 4 false (by omega) (by omega)
  unfold textC
  rw [if_neg (fun k => k h0)]
  show (Lib.join [otcW ⟨((0 : Nat) : Int), false, ((8 : Nat) : Int)⟩, otcW ⟨((1 : Nat) : Int), false, ((4 : Nat) : Int)⟩, otcW ⟨((4 : Nat) : Int), false, ((4 : Nat) : Int)⟩] [32], (0 : Int)) = _
  rw [e0, e1, e2]
  kernel_rfl
def exmM2 : List UInt8 := [48, 58, 49, 53, 32, 49, 58, 49]
def exmM2d : List Otc := [⟨0, false, 15⟩, ⟨1, false, 1⟩]
theorem exmM2_text : textC exmM2d = (exmM2, 0) := by
  have h0 : checkD exmM2d = 0 := by kernel_rfl
  have e0 := otcW_dig2 0 15 false (by omega) (by omega) (by omega)
  have e1 := otcW_dig3 1 1 false (by omega) (by omega)
  unfold textC
  rw [if_neg (fun k => k h0)]
  show (Lib.join [otcW ⟨((0 : Nat) : Int), false, ((15 : Nat) : Int)⟩, otcW ⟨((1 : Nat) : Int), false, ((1 : Nat) : Int)⟩] [32], (0 : Int)) = _
  rw [e0, e1]
  kernel_rfl
def exmA : List UInt8 := [48, 58, 49, 48, 32, 48, 87, 58, 49, 32, 49, 58, 52, 32, 52, 58, 49]
def exmAd : List Otc := [⟨0, false, 10⟩, ⟨0, true, 1⟩, ⟨1, false, 4⟩, ⟨4, false, 1⟩]
theorem exmA_text : textC exmAd = (exmA, 0) := by
  have h0 : checkD exmAd = 0 := by kernel_rfl
  have e0 := otcW_dig2 0 10 false (by omega) (by omega) (by omega)
  have e1 := otcW_dig3 0 1 true (by omega) (by omega)
  have e2 := otcW_dig3 1 4 false (by omega) (by omega)
  have e3 := otcW_dig3 4 1 false (by omega) (by omega)
  unfold textC
  rw [if_neg (fun k => k h0)]
  show (Lib.join [otcW ⟨((0 : Nat) : Int), false, ((10 : Nat) : Int)⟩, otcW ⟨((0 : Nat) : Int), true, ((1 : Nat) : Int)⟩, otcW ⟨((1 : Nat) : Int), false, ((4 : Nat) : Int)⟩, otcW ⟨((4 : Nat) : Int), false, ((1 : Nat) : Int)⟩] [32], (0 : Int)) = _
  rw [e0, e1, e2, e3]
  kernel_rfl
def exmB : List UInt8 := [48, 58, 55, 32, 49, 58, 53, 32, 52, 58, 52]
def exmBd : List Otc := [⟨0, false, 7⟩, ⟨1, false, 5⟩, ⟨4, false, 4⟩]
theorem exmB_text : textC exmBd = (exmB, 0) := by
  have h0 : checkD exmBd = 0 := by kernel_rfl
  have e0 := otcW_dig3 0 7 false (by omega) (by omega)
  have e1 := otcW_dig3 1 5 false (by omega) (by omega)
  have e2 := otcW_dig3 4 4 false (by omega) (by omega)
  unfold textC
  rw [if_neg (fun k => k h0)]
  show (Lib.join [otcW ⟨((0 : Nat) : Int), false, ((7 : Nat) : Int)⟩, otcW ⟨((1 : Nat) : Int), false, ((5 : Nat) : Int)⟩, otcW ⟨((4 : Nat) : Int), false, ((4 : Nat) : Int)⟩] [32], (0 : Int)) = _
  rw [e0, e1, e2]
  kernel_rfl
def exmC : List UInt8 := [48, 58, 49, 54]
def exmCd : List Otc := [⟨0, false, 16⟩]
theorem exmC_text : textC exmCd = (exmC, 0) := by
  have h0 : checkD exmCd = 0 := by kernel_rfl
  have e0 := otcW_dig2 0 16 false (by omega) (by omega) (by omega)
  unfold textC
  rw [if_neg (fun k => k h0)]
  show (Lib.join [otcW ⟨((0 : Nat) : Int), false, ((16 : Nat) : Int)⟩] [32], (0 : Int)) = _
  rw [e0]
  kernel_rfl
theorem exmM1_parse : parseC exmM1 = (exmM1d, 0) := by
  have h1 : (pieces 32 exmM1).all pieceOk = true := by kernel_rfl
  have h2 : (pieces 32 exmM1).map pieceO = exmM1d := by kernel_rfl
  unfold parseC
  rw [h1, if_neg (by simp), h2, exmM1_text, if_neg (by simp)]
theorem exmM2_parse : parseC exmM2 = (exmM2d, 0) := by
  have h1 : (pieces 32 exmM2).all pieceOk = true := by kernel_rfl
  have h2 : (pieces 32 exmM2).map pieceO = exmM2d := by kernel_rfl
  unfold parseC
  rw [h1, if_neg (by simp), h2, exmM2_text, if_neg (by simp)]
theorem exm_A : shiftS exmM1d 3 = (exmAd, 0) := by kernel_rfl
theorem exm_B : shiftS exmM1d (-1) = (exmBd, 0) := by kernel_rfl
theorem exm_C : shiftS exmM2d 5 = (exmCd, 0) := by kernel_rfl
set_option maxRecDepth 100000 in
set_option maxHeartbeats 1000000 in
theorem law43_equal (l : List Otc) (v v' : Value) (F F' : Nat → Prop) (w : World) (h : Sl 3 elOtc w F v l) (h' : Sl 3 elOtc w F' v' l) :
    Calls Tryz.prog 12 #[v, v'] w fun e w' => e = .returned (.bool true) ∧ Below w.heap.size w w' := by
  obtain ⟨A, c, rfl, hc, hc2⟩ := h.shape
  obtain ⟨A', c', rfl, hc', hc2'⟩ := h'.shape
  have H := Lib.hid h
  have H' := Lib.hid h'
  clear h h'
  go_enter Tryz.func12, Tryz.ntmps12
  go_wp2
  go_loopw [13] (fun i wr => ∃ k : Nat, k ≤ l.length ∧ i = .int .i64 k ∧ ∃ n, wr = w.drewN n) (fun i _ => l.length - (intOf i).toNat)
  case atStart => exact ⟨0, Nat.zero_le _, rfl, 0, rfl⟩
  case round =>
    obtain ⟨k, hk, rfl, n, rfl⟩ := hrel
    by_cases hlt : k < l.length
    · obtain ⟨b, o, rfl, hbl, y0, y1, y2⟩ := otc_at H.out hlt
      obtain ⟨b', o', rfl, hbl', z0, z1, z2⟩ := otc_at H'.out hlt
      obtain ⟨⟨pr, pw, pt⟩, hp⟩ : ∃ p, p = l[k] := ⟨_, rfl⟩
      rw [← hp] at y0 y1 y2 z0 z1 z2
      dsimp only at y0 y1 y2 z0 z1 z2
      clear hp
      go_wp2
      go_quiet (fail)
      go_wp2
      go_roundw
      case rel => exact ⟨k + 1, by omega, by go_num, _, rfl⟩
      case measure => simp [intOf]; omega
    · obtain rfl : k = l.length := by omega
      go_wp2
      go_ret
      exact ⟨rfl, Below.drewN_ (Below.refl _ _) _⟩
set_option maxRecDepth 100000 in
set_option maxHeartbeats 2000000 in
theorem law43_awake (w : World) (hg : GlobN w) : Calls Tryz.prog 9 #[] w fun e w' => e = .returned (.bool true) ∧ Below w.heap.size w w' := by
  have k1 : ∀ W, Below w.heap.size w W → Calls Tryz.prog 30 #[.string ⟨#[48, 58, 56, 32, 49, 58, 52, 32, 52, 58, 52]⟩] W fun e W' => ∃ A c, e = .returned (.tuple #[.slice A 3 c, .int .i64 0]) ∧ Sl 3 elOtc W' (· < W'.heap.size) (.slice A 3 c) exmM1d ∧ Below W.heap.size W W' := fun W hW => by
    refine (ch_Parse (S exmM1) W (hg.below hW) (by decide)).mono ?_
    rintro e W' ⟨v, rfl, hs, hb⟩
    rw [S_data, exmM1_parse] at hs ⊢
    obtain ⟨A, c, rfl, _⟩ := hs.shape
    exact ⟨A, c, rfl, hs.keep elOtc_good (Same.refl _ _) fun _ h => h.2, hb⟩
  have k2 : ∀ W A c, Sl 3 elOtc W (· < W.heap.size) (.slice A 3 c) exmM1d → Calls Tryz.prog 10 #[.slice A 3 c, .int .i64 (3)] W fun e W' => ∃ A c, e = .returned (.tuple #[.slice A 4 c, .int .i64 0]) ∧ Sl 3 elOtc W' (· < W'.heap.size) (.slice A 4 c) exmAd ∧ Below W.heap.size W W' := fun W A c h => by
    refine (m_Shift exmM1d _ (3) W h).mono ?_
    rintro e W' ⟨v, rfl, hs, hb⟩
    rw [exm_A] at hs ⊢
    obtain ⟨A, c, rfl, _⟩ := hs.shape
    exact ⟨A, c, rfl, hs.keep elOtc_good (Same.refl _ _) fun _ h => h.2, hb⟩
  have k3 : ∀ W A c, Sl 3 elOtc W (· < W.heap.size) (.slice A 3 c) exmM1d → Calls Tryz.prog 10 #[.slice A 3 c, .int .i64 (-1)] W fun e W' => ∃ A c, e = .returned (.tuple #[.slice A 3 c, .int .i64 0]) ∧ Sl 3 elOtc W' (· < W'.heap.size) (.slice A 3 c) exmBd ∧ Below W.heap.size W W' := fun W A c h => by
    refine (m_Shift exmM1d _ (-1) W h).mono ?_
    rintro e W' ⟨v, rfl, hs, hb⟩
    rw [exm_B] at hs ⊢
    obtain ⟨A, c, rfl, _⟩ := hs.shape
    exact ⟨A, c, rfl, hs.keep elOtc_good (Same.refl _ _) fun _ h => h.2, hb⟩
  have k4 : ∀ W, Below w.heap.size w W → Calls Tryz.prog 30 #[.string ⟨#[48, 58, 49, 53, 32, 49, 58, 49]⟩] W fun e W' => ∃ A c, e = .returned (.tuple #[.slice A 2 c, .int .i64 0]) ∧ Sl 3 elOtc W' (· < W'.heap.size) (.slice A 2 c) exmM2d ∧ Below W.heap.size W W' := fun W hW => by
    refine (ch_Parse (S exmM2) W (hg.below hW) (by decide)).mono ?_
    rintro e W' ⟨v, rfl, hs, hb⟩
    rw [S_data, exmM2_parse] at hs ⊢
    obtain ⟨A, c, rfl, _⟩ := hs.shape
    exact ⟨A, c, rfl, hs.keep elOtc_good (Same.refl _ _) fun _ h => h.2, hb⟩
  have k5 : ∀ W A c, Sl 3 elOtc W (· < W.heap.size) (.slice A 2 c) exmM2d → Calls Tryz.prog 10 #[.slice A 2 c, .int .i64 (5)] W fun e W' => ∃ A c, e = .returned (.tuple #[.slice A 1 c, .int .i64 0]) ∧ Sl 3 elOtc W' (· < W'.heap.size) (.slice A 1 c) exmCd ∧ Below W.heap.size W W' := fun W A c h => by
    refine (m_Shift exmM2d _ (5) W h).mono ?_
    rintro e W' ⟨v, rfl, hs, hb⟩
    rw [exm_C] at hs ⊢
    obtain ⟨A, c, rfl, _⟩ := hs.shape
    exact ⟨A, c, rfl, hs.keep elOtc_good (Same.refl _ _) fun _ h => h.2, hb⟩
  have k6 : ∀ W A c, Below w.heap.size w W → Sl 3 elOtc W (· < W.heap.size) (.slice A 4 c) exmAd → Calls Tryz.prog 31 #[.slice A 4 c] W fun e W' => e = .returned (.tuple #[.string ⟨#[48, 58, 49, 48, 32, 48, 87, 58, 49, 32, 49, 58, 52, 32, 52, 58, 49]⟩, .int .i64 0]) ∧ Below W.heap.size W W' := fun W A c hW h => by
    refine (ch_Text exmAd _ W (hg.below hW) h).mono ?_
    rintro e W' ⟨rfl, hb⟩
    rw [exmA_text]
    exact ⟨rfl, hb⟩
  have k7 : ∀ W A c, Below w.heap.size w W → Sl 3 elOtc W (· < W.heap.size) (.slice A 3 c) exmBd → Calls Tryz.prog 31 #[.slice A 3 c] W fun e W' => e = .returned (.tuple #[.string ⟨#[48, 58, 55, 32, 49, 58, 53, 32, 52, 58, 52]⟩, .int .i64 0]) ∧ Below W.heap.size W W' := fun W A c hW h => by
    refine (ch_Text exmBd _ W (hg.below hW) h).mono ?_
    rintro e W' ⟨rfl, hb⟩
    rw [exmB_text]
    exact ⟨rfl, hb⟩
  have k8 : ∀ W A c, Below w.heap.size w W → Sl 3 elOtc W (· < W.heap.size) (.slice A 1 c) exmCd → Calls Tryz.prog 31 #[.slice A 1 c] W fun e W' => e = .returned (.tuple #[.string ⟨#[48, 58, 49, 54]⟩, .int .i64 0]) ∧ Below W.heap.size W W' := fun W A c hW h => by
    refine (ch_Text exmCd _ W (hg.below hW) h).mono ?_
    rintro e W' ⟨rfl, hb⟩
    rw [exmC_text]
    exact ⟨rfl, hb⟩
  have K1 := Lib.hid k1
  have K2 := Lib.hid k2
  have K3 := Lib.hid k3
  have K4 := Lib.hid k4
  have K5 := Lib.hid k5
  have K6 := Lib.hid k6
  have K7 := Lib.hid k7
  have K8 := Lib.hid k8
  clear k1 k2 k3 k4 k5 k6 k7 k8 hg
  have tok0 : True := trivial
  have HB0 := Lib.hid (Below.refl w.heap.size w)
  go_enter Tryz.func9, Tryz.ntmps9
  go_wp2_with (first
    | (clear tok0; go_at_call 30; refine (K1.out _ HB0.out).mono ?_; rintro e w1 ⟨A1, c1, rfl, hs, hb⟩; have P1_1 := Lib.hid hs; have HB1 := Lib.hid (HB0.out.trans (hb.mono HB0.out.size)); clear hb hs; have tok1 : True := trivial)
    | (clear tok1; go_at_call 10; refine (K2.out _ _ _ P1_1.out).mono ?_; rintro e w2 ⟨A2, c2, rfl, hs, hb⟩; have P2_2 := Lib.hid hs; have P1_2 := Lib.hid (sl_on3 P1_1.out hb); have HB2 := Lib.hid (HB1.out.trans (hb.mono HB1.out.size)); clear hb hs; have tok2 : True := trivial)
    | (clear tok2; go_at_call 10; refine (K3.out _ _ _ P1_2.out).mono ?_; rintro e w3 ⟨A3, c3, rfl, hs, hb⟩; have P3_3 := Lib.hid hs; have P2_3 := Lib.hid (sl_on3 P2_2.out hb); have HB3 := Lib.hid (HB2.out.trans (hb.mono HB2.out.size)); clear hb hs; have tok3 : True := trivial)
    | (clear tok3; go_at_call 30; refine (K4.out _ HB3.out).mono ?_; rintro e w4 ⟨A4, c4, rfl, hs, hb⟩; have P4_4 := Lib.hid hs; have P2_4 := Lib.hid (sl_on3 P2_3.out hb); have P3_4 := Lib.hid (sl_on3 P3_3.out hb); have HB4 := Lib.hid (HB3.out.trans (hb.mono HB3.out.size)); clear hb hs; have tok4 : True := trivial)
    | (clear tok4; go_at_call 10; refine (K5.out _ _ _ P4_4.out).mono ?_; rintro e w5 ⟨A5, c5, rfl, hs, hb⟩; have P5_5 := Lib.hid hs; have P2_5 := Lib.hid (sl_on3 P2_4.out hb); have P3_5 := Lib.hid (sl_on3 P3_4.out hb); have HB5 := Lib.hid (HB4.out.trans (hb.mono HB4.out.size)); clear hb hs; have tok5 : True := trivial)
    | (clear tok5; go_at_call 31; refine (K6.out _ _ _ HB5.out P2_5.out).mono ?_; rintro e w6 ⟨rfl, hb⟩; have P3_6 := Lib.hid (sl_on3 P3_5.out hb); have P5_6 := Lib.hid (sl_on3 P5_5.out hb); have HB6 := Lib.hid (HB5.out.trans (hb.mono HB5.out.size)); clear hb; have tok6 : True := trivial)
    | (clear tok6; go_at_call 31; refine (K7.out _ _ _ HB6.out P3_6.out).mono ?_; rintro e w7 ⟨rfl, hb⟩; have P5_7 := Lib.hid (sl_on3 P5_6.out hb); have HB7 := Lib.hid (HB6.out.trans (hb.mono HB6.out.size)); clear hb; have tok7 : True := trivial)
    | (clear tok7; go_at_call 31; refine (K8.out _ _ _ HB7.out P5_7.out).mono ?_; rintro e w8 ⟨rfl, hb⟩; have HB8 := Lib.hid (HB7.out.trans (hb.mono HB7.out.size)); clear hb; have tok8 : True := trivial))
  go_ret
  exact ⟨rfl, HB8.out⟩
end Go.Proofs.YticfopjbaoigfaaGreatDoor
