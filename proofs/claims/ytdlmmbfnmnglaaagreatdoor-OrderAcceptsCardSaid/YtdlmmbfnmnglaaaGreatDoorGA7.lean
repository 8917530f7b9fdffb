/- Several texts of this family in one: Y10 J10 Y11 V12 V13 FS FC V33. -/
import Derived.Test.YtdlmmbfnmnglaaaGreatDoorGA6
import Derived.Test.YtdlmmbfnmnglaaaGreatDoorGA2
import Derived.Test.YtdlmmbfnmnglaaaGreatDoorGA1
import Derived.Test.YtdlmmbfnmnglaaaGreatDoorGA4
import Derived.Deep.AppendSrc
set_option linter.unusedSimpArgs false
set_option linter.unusedVariables false
namespace Go.Proofs.YtdlmmbfnmnglaaaGreatDoor
open Go.RowKit Go.Maps

theorem small44_drop {l : List Bat} {k : Nat} (hk : k < l.length) : (l.drop k).all (fun b => decide (b.dist.length ≤ 100)) = (decide (l[k].dist.length ≤ 100) && (l.drop (k + 1)).all (fun b => decide (b.dist.length ≤ 100))) := by
  rw [drop_get hk, List.all_cons]
end Go.Proofs.YtdlmmbfnmnglaaaGreatDoor

namespace Go.Proofs.YtdlmmbfnmnglaaaGreatDoor
open Go.RowKit

theorem itoa_dig3 (n : Nat) (h : n < 10) : Lib.itoa (n : Int) = [UInt8.ofNat (48 + n)] := by
  unfold Lib.itoa
  rw [if_neg (by omega), Int.toNat_natCast, Lib.decDigits, dif_pos h]
theorem otcW_dig3 (r t : Nat) (b : Bool) (hr : r < 10) (ht : t < 10) : otcW ⟨(r : Int), b, (t : Int)⟩ = UInt8.ofNat (48 + r) :: ((if b = true then [87] else []) ++ [58, UInt8.ofNat (48 + t)]) := by
  unfold otcW
  simp only
  rw [itoa_dig3 r hr, itoa_dig3 t ht]
  simp
theorem dec_two (n : Nat) (h : 10 ≤ n) (h2 : n < 100) : Lib.itoa (n : Int) = [UInt8.ofNat (48 + n / 10), UInt8.ofNat (48 + n % 10)] := by
  unfold Lib.itoa
  rw [if_neg (by omega), Int.toNat_natCast, Lib.decDigits, dif_neg (by omega), Lib.decDigits, dif_pos (by omega)]
  rfl
theorem otcW_dig2 (r t : Nat) (b : Bool) (hr : r < 10) (h : 10 ≤ t) (ht : t < 100) : otcW ⟨(r : Int), b, (t : Int)⟩ = UInt8.ofNat (48 + r) :: ((if b = true then [87] else []) ++ [58, UInt8.ofNat (48 + t / 10), UInt8.ofNat (48 + t % 10)]) := by
  unfold otcW
  simp only
  rw [itoa_dig3 r hr, dec_two t h ht]
  simp
def exmM1d : List Otc := [⟨0, false, 8⟩, ⟨1, false, 4⟩, ⟨4, false, 4⟩]
end Go.Proofs.YtdlmmbfnmnglaaaGreatDoor

namespace Go.Proofs.YtdlmmbfnmnglaaaGreatDoor
open Go.RowKit

theorem bows_lit (W : World) (x : List UInt8) (n : Int) (hx : x.length ≤ maxLen) :
    Sl 2 elBow (W.alloc (.cells #[.string (S x), .int .i64 n] 62)) (· < (W.alloc (.cells #[.string (S x), .int .i64 n] 62)).heap.size) (.slice (some ⟨W.heap.size, 0, none⟩) 1 1) [⟨x, n⟩] := by
  have hk := Blk.new W 62 #[.string (S x), .int .i64 n]
  refine ⟨_, 1, rfl, Nat.le_refl _, by decide, fun h0 => ⟨W.heap.size, 0, rfl, by simp, fun i a hi => ?_⟩⟩
  have hlt := (List.getElem?_eq_some_iff.1 hi).1
  obtain rfl : i = 0 := by simp at hlt; omega
  simp at hi; subst hi
  refine ⟨[.string (S x), .int .i64 n], rfl, fun j u hu => ?_, rfl, hx⟩
  have hj : j = 0 ∨ j = 1 := by have := (List.getElem?_eq_some_iff.1 hu).1; simp at this; omega
  rcases hj with rfl | rfl
  · simp at hu; subst hu; exact hk.cell 0
  · simp at hu; subst hu; exact hk.cell 1
theorem ints_one (W : World) (a : Int) (e : TypeId) : Sl 1 elInt (W.alloc (.cells #[.int .i64 a] e)) (· < (W.alloc (.cells #[.int .i64 a] e)).heap.size) (.slice (some ⟨W.heap.size, 0, none⟩) 1 1) [a] := by
  have hk := Blk.new W e #[.int .i64 a]
  refine ⟨_, 1, rfl, Nat.le_refl _, by decide, fun h0 => ⟨W.heap.size, 0, rfl, by simp, fun i b hi => ?_⟩⟩
  have hlt := (List.getElem?_eq_some_iff.1 hi).1
  obtain rfl : i = 0 := by simp at hlt; omega
  simp at hi; subst hi
  refine ⟨[.int .i64 a], rfl, fun j u hu => ?_, rfl⟩
  obtain rfl : j = 0 := by have := (List.getElem?_eq_some_iff.1 hu).1; simp at this; omega
  simp at hu; subst hu; exact hk.cell 0
def chM : Mdl := ⟨[⟨[65], exmM1d⟩, ⟨[66], exmM1d⟩], [⟨[67], 0⟩]⟩
def ch1 : Chs := ⟨chM, [0], 6, 0, 2, [0, 1]⟩
/-- The first chase laid, in a world that has gone on. -/
structure AwI (w1 W : World) : Prop where
  bel : Below w1.heap.size w1 W
  ch : ChAt W (· < w1.heap.size + 1 + 1 + 1 + 1 + 1) (.slice (some ⟨w1.heap.size, 0, none⟩) 2 2) (.slice (some ⟨w1.heap.size + 1, 0, none⟩) 1 1) (.slice (some ⟨w1.heap.size + 1 + 1 + 1, 0, none⟩) 1 1) (.slice (some ⟨w1.heap.size + 1 + 1 + 1 + 1, 0, none⟩) 2 2) ch1
  blk : Blk W (w1.heap.size + 1 + 1 + 1 + 1 + 1) 28 #[.slice (some ⟨w1.heap.size, 0, none⟩) 2 2, .slice (some ⟨w1.heap.size + 1, 0, none⟩) 1 1, .slice (some ⟨w1.heap.size + 1 + 1 + 1, 0, none⟩) 1 1, .int .i64 6, .int .i64 0, .int .i64 2, .slice (some ⟨w1.heap.size + 1 + 1 + 1 + 1, 0, none⟩) 2 2]
theorem AwI.below {w1 W W' : World} (h : AwI w1 W) (hb : Below W.heap.size W W') : AwI w1 W' :=
  ⟨h.bel.trans (hb.mono h.bel.size), h.ch.keep (Same.below hb fun b hb => Nat.lt_trans hb h.blk.lt) fun b hb => hb, h.blk.below hb h.blk.lt⟩
theorem AwI.in {w1 W : World} (h : AwI w1 W) : ChAt W (· < W.heap.size) (.slice (some ⟨w1.heap.size, 0, none⟩) 2 2) (.slice (some ⟨w1.heap.size + 1, 0, none⟩) 1 1) (.slice (some ⟨w1.heap.size + 1 + 1 + 1, 0, none⟩) 1 1) (.slice (some ⟨w1.heap.size + 1 + 1 + 1 + 1, 0, none⟩) 2 2) ch1 := h.ch.keep (Same.refl _ _) fun b hb => Nat.lt_trans hb h.blk.lt
theorem AwI.cells {w1 W : World} (h : AwI w1 W) (k : Nat) (u : Value) (hk : #[Value.slice (some ⟨w1.heap.size, 0, none⟩) 2 2, .slice (some ⟨w1.heap.size + 1, 0, none⟩) 1 1, .slice (some ⟨w1.heap.size + 1 + 1 + 1, 0, none⟩) 1 1, .int .i64 6, .int .i64 0, .int .i64 2, .slice (some ⟨w1.heap.size + 1 + 1 + 1 + 1, 0, none⟩) 2 2][k]? = some u) : W.cell? ⟨w1.heap.size + 1 + 1 + 1 + 1 + 1, k, none⟩ = some u := (h.blk.cell k).trans hk
theorem Sl.up {α : Type} {size : Nat} {R : World → (Nat → Prop) → List Value → α → Prop} (hR : Good R) {W W' : World} {n m : Nat} {v : Value} {l : List α} (h : Sl size R W (· < W.heap.size) v l) (hb : Below W.heap.size W W') (hn : W.heap.size ≤ m) : Sl size R W' (· < m) v l :=
  h.keep hR (Same.of_below hb) fun b hb => Nat.lt_of_lt_of_le hb hn
end Go.Proofs.YtdlmmbfnmnglaaaGreatDoor

namespace Go.Proofs.YtdlmmbfnmnglaaaGreatDoor
open Go.RowKit

def exO1 : List UInt8 := [48, 58, 56, 32, 52, 58, 56]
def exO1d : List Otc := [⟨0, false, 8⟩, ⟨4, false, 8⟩]
def exO2 : List UInt8 := [48, 58, 49, 54]
def exO2d : List Otc := [⟨0, false, 16⟩]
theorem exO1_text : textC exO1d = (exO1, 0) := by
  have h0 : checkD exO1d = 0 := by kernel_rfl
  have e0 := otcW_dig3 0 8 false (by omega) (by omega)
  have e1 := otcW_dig3 4 8 false (by omega) (by omega)
  unfold textC
  rw [if_neg (fun k => k h0)]
  show (Lib.join [otcW ⟨((0 : Nat) : Int), false, ((8 : Nat) : Int)⟩, otcW ⟨((4 : Nat) : Int), false, ((8 : Nat) : Int)⟩] [32], (0 : Int)) = _
  rw [e0, e1]
  kernel_rfl
theorem exO2_text : textC exO2d = (exO2, 0) := by
  have h0 : checkD exO2d = 0 := by kernel_rfl
  have e0 := otcW_dig2 0 16 false (by omega) (by omega) (by omega)
  unfold textC
  rw [if_neg (fun k => k h0)]
  show (Lib.join [otcW ⟨((0 : Nat) : Int), false, ((16 : Nat) : Int)⟩] [32], (0 : Int)) = _
  rw [e0]
  kernel_rfl
theorem exO1_parse : parseC exO1 = (exO1d, 0) := by
  have h1 : (pieces 32 exO1).all pieceOk = true := by kernel_rfl
  have h2 : (pieces 32 exO1).map pieceO = exO1d := by kernel_rfl
  unfold parseC
  rw [h1, if_neg (by simp), h2, exO1_text, if_neg (by simp)]
theorem exO2_parse : parseC exO2 = (exO2d, 0) := by
  have h1 : (pieces 32 exO2).all pieceOk = true := by kernel_rfl
  have h2 : (pieces 32 exO2).map pieceO = exO2d := by kernel_rfl
  unfold parseC
  rw [h1, if_neg (by simp), h2, exO2_text, if_neg (by simp)]
theorem bats_lit3 (W : World) (v u : Value) (d z : List Otc) (a b c : List UInt8) (hv : Sl 3 elOtc W (· < W.heap.size) v d) (hu : Sl 3 elOtc W (· < W.heap.size) u z) (ha : a.length ≤ maxLen) (hb : b.length ≤ maxLen) (hc : c.length ≤ maxLen) :
    Sl 2 elBat (W.alloc (.cells #[.string (S a), v, .string (S b), u, .string (S c), u] 60)) (· < (W.alloc (.cells #[.string (S a), v, .string (S b), u, .string (S c), u] 60)).heap.size) (.slice (some ⟨W.heap.size, 0, none⟩) 3 3) [⟨a, d⟩, ⟨b, z⟩, ⟨c, z⟩] := by
  have hk := Blk.new W 60 #[.string (S a), v, .string (S b), u, .string (S c), u]
  have hbb : Below W.heap.size W (W.alloc (.cells #[.string (S a), v, .string (S b), u, .string (S c), u] 60)) := Below.alloc (Below.refl _ _) (Nat.le_refl _) _
  have hv2 := hv.keep (G := (· < (W.alloc (.cells #[.string (S a), v, .string (S b), u, .string (S c), u] 60)).heap.size)) elOtc_good (Same.of_below hbb) fun b h => Nat.lt_of_lt_of_le h hbb.size
  have hu2 := hu.keep (G := (· < (W.alloc (.cells #[.string (S a), v, .string (S b), u, .string (S c), u] 60)).heap.size)) elOtc_good (Same.of_below hbb) fun b h => Nat.lt_of_lt_of_le h hbb.size
  have two : ∀ {x y : Value} {j : Nat} {q : Value}, [x, y][j]? = some q → (j = 0 ∧ q = x) ∨ (j = 1 ∧ q = y) := fun {x y j q} h => by
    have hj : j = 0 ∨ j = 1 := by have := (List.getElem?_eq_some_iff.1 h).1; simp at this; omega
    rcases hj with rfl | rfl
    · simp at h; exact .inl ⟨rfl, h.symm⟩
    · simp at h; exact .inr ⟨rfl, h.symm⟩
  refine ⟨_, 3, rfl, Nat.le_refl _, by decide, fun h0 => ⟨W.heap.size, 0, rfl, by simp, fun i x hi => ?_⟩⟩
  have hlt := (List.getElem?_eq_some_iff.1 hi).1
  have hcs : i = 0 ∨ i = 1 ∨ i = 2 := by simp at hlt; omega
  rcases hcs with rfl | rfl | rfl
  · simp at hi; subst hi
    refine ⟨[.string (S a), v], rfl, fun j q hq => ?_, ⟨_, rfl, hv2⟩, ha⟩
    rcases two hq with ⟨rfl, rfl⟩ | ⟨rfl, rfl⟩
    · exact hk.cell 0
    · exact hk.cell 1
  · simp at hi; subst hi
    refine ⟨[.string (S b), u], rfl, fun j q hq => ?_, ⟨_, rfl, hu2⟩, hb⟩
    rcases two hq with ⟨rfl, rfl⟩ | ⟨rfl, rfl⟩
    · exact hk.cell 2
    · exact hk.cell 3
  · simp at hi; subst hi
    refine ⟨[.string (S c), u], rfl, fun j q hq => ?_, ⟨_, rfl, hu2⟩, hc⟩
    rcases two hq with ⟨rfl, rfl⟩ | ⟨rfl, rfl⟩
    · exact hk.cell 4
    · exact hk.cell 5
theorem ints_three (W : World) (a b c : Int) (e : TypeId) : Sl 1 elInt (W.alloc (.cells #[.int .i64 a, .int .i64 b, .int .i64 c] e)) (· < (W.alloc (.cells #[.int .i64 a, .int .i64 b, .int .i64 c] e)).heap.size) (.slice (some ⟨W.heap.size, 0, none⟩) 3 3) [a, b, c] := by
  have hk := Blk.new W e #[.int .i64 a, .int .i64 b, .int .i64 c]
  refine ⟨_, 3, rfl, Nat.le_refl _, by decide, fun h0 => ⟨W.heap.size, 0, rfl, by simp, fun i x hi => ?_⟩⟩
  have hlt := (List.getElem?_eq_some_iff.1 hi).1
  have hc : i = 0 ∨ i = 1 ∨ i = 2 := by simp at hlt; omega
  have one : ∀ {y : Value} {j : Nat} {q : Value}, [y][j]? = some q → j = 0 ∧ q = y := fun {y j q} h => by
    obtain rfl : j = 0 := by have := (List.getElem?_eq_some_iff.1 h).1; simp at this; exact this
    simp at h; exact ⟨rfl, h.symm⟩
  rcases hc with rfl | rfl | rfl
  · simp at hi; subst hi
    refine ⟨[.int .i64 a], rfl, fun j u hu => ?_, rfl⟩
    obtain ⟨rfl, rfl⟩ := one hu
    exact hk.cell 0
  · simp at hi; subst hi
    refine ⟨[.int .i64 b], rfl, fun j u hu => ?_, rfl⟩
    obtain ⟨rfl, rfl⟩ := one hu
    exact hk.cell 1
  · simp at hi; subst hi
    refine ⟨[.int .i64 c], rfl, fun j u hu => ?_, rfl⟩
    obtain ⟨rfl, rfl⟩ := one hu
    exact hk.cell 2
def chM3 : Mdl := ⟨[⟨[65], exO1d⟩, ⟨[66], exO2d⟩, ⟨[67], exO2d⟩], [⟨[88], 0⟩]⟩
def ch45 : Chs := ⟨chM3, [0], 6, 0, 4, [0, 1, 2]⟩
theorem ch45_best : bestOS ch45 = ((0, 1), 8, 0) := by kernel_rfl
def awW5 (w1 : World) (v u : Value) : World :=
  ((((w1.alloc (.cells #[.string (S [65]), v, .string (S [66]), u, .string (S [67]), u] 60)).alloc (.cells #[.string (S [88]), .int .i64 0] 62)).alloc (.cells #[.slice (some ⟨w1.heap.size, 0, none⟩) 3 3, .slice (some ⟨w1.heap.size + 1, 0, none⟩) 1 1] 25)).alloc (.cells #[.int .i64 0] 3)).alloc (.cells #[.int .i64 0, .int .i64 1, .int .i64 2] 3)
theorem aw45 (w1 : World) (v u : Value) (h : Sl 3 elOtc w1 (· < w1.heap.size) v exO1d) (hu : Sl 3 elOtc w1 (· < w1.heap.size) u exO2d) : Below w1.heap.size w1 (awW5 w1 v u) ∧ ChAt (awW5 w1 v u) (· < (awW5 w1 v u).heap.size) (.slice (some ⟨w1.heap.size, 0, none⟩) 3 3) (.slice (some ⟨w1.heap.size + 1, 0, none⟩) 1 1) (.slice (some ⟨w1.heap.size + 1 + 1 + 1, 0, none⟩) 1 1) (.slice (some ⟨w1.heap.size + 1 + 1 + 1 + 1, 0, none⟩) 3 3) ch45 := by
  unfold awW5
  have s1 := bats_lit3 w1 v u exO1d exO2d [65] [66] [67] h hu (by decide) (by decide) (by decide)
  obtain ⟨W1, hW1⟩ : ∃ W, W = w1.alloc (.cells #[.string (S [65]), v, .string (S [66]), u, .string (S [67]), u] 60) := ⟨_, rfl⟩
  have z1 : W1.heap.size = w1.heap.size + 1 := by rw [hW1]; simp
  have b1 : Below w1.heap.size w1 W1 := by rw [hW1]; exact Below.alloc (Below.refl _ _) (Nat.le_refl _) _
  rw [← hW1] at s1 ⊢
  have s2 := bows_lit W1 [88] 0 (by decide)
  rw [z1] at s2
  obtain ⟨W2, hW2⟩ : ∃ W, W = W1.alloc (.cells #[.string (S [88]), .int .i64 0] 62) := ⟨_, rfl⟩
  have z2 : W2.heap.size = w1.heap.size + 1 + 1 := by rw [hW2]; simp [z1]
  have b2 : Below W1.heap.size W1 W2 := by rw [hW2]; exact Below.alloc (Below.refl _ _) (Nat.le_refl _) _
  rw [← hW2] at s2 ⊢
  obtain ⟨W3, hW3⟩ : ∃ W, W = W2.alloc (.cells #[.slice (some ⟨w1.heap.size, 0, none⟩) 3 3, .slice (some ⟨w1.heap.size + 1, 0, none⟩) 1 1] 25) := ⟨_, rfl⟩
  have z3 : W3.heap.size = w1.heap.size + 1 + 1 + 1 := by rw [hW3]; simp [z2]
  have b3 : Below W2.heap.size W2 W3 := by rw [hW3]; exact Below.alloc (Below.refl _ _) (Nat.le_refl _) _
  rw [← hW3]
  have s4 := ints_one W3 0 3
  rw [z3] at s4
  obtain ⟨W4, hW4⟩ : ∃ W, W = W3.alloc (.cells #[.int .i64 0] 3) := ⟨_, rfl⟩
  have z4 : W4.heap.size = w1.heap.size + 1 + 1 + 1 + 1 := by rw [hW4]; simp [z3]
  have b4 : Below W3.heap.size W3 W4 := by rw [hW4]; exact Below.alloc (Below.refl _ _) (Nat.le_refl _) _
  rw [← hW4] at s4 ⊢
  have s5 := ints_three W4 0 1 2 3
  rw [z4] at s5
  obtain ⟨W5, hW5⟩ : ∃ W, W = W4.alloc (.cells #[.int .i64 0, .int .i64 1, .int .i64 2] 3) := ⟨_, rfl⟩
  have b5 : Below W4.heap.size W4 W5 := by rw [hW5]; exact Below.alloc (Below.refl _ _) (Nat.le_refl _) _
  rw [← hW5] at s5 ⊢
  have c4 := b5
  have c3 := b4.trans (c4.mono b4.size)
  have c2 := b3.trans (c3.mono b3.size)
  have c1 := b2.trans (c2.mono b2.size)
  exact ⟨b1.trans (c1.mono b1.size), ⟨⟨Sl.up elBat_good s1 c1 c1.size (n := 0), Sl.up elBow_good s2 c2 c2.size (n := 0)⟩, Sl.up elInt_good s4 c4 c4.size (n := 0), s5⟩⟩
set_option maxRecDepth 100000 in
set_option maxHeartbeats 2000000 in
theorem law45_awake (w : World) (hg : GlobN w) : Calls Tryz.prog 12 #[] w fun e w' => e = .returned (.bool true) ∧ Below w.heap.size w w' := by
  have k1 : Calls Tryz.prog 21 #[.string ⟨#[48, 58, 56, 32, 52, 58, 56]⟩] w fun e W' => ∃ A c, e = .returned (.tuple #[.slice A 2 c, .int .i64 0]) ∧ Sl 3 elOtc W' (· < W'.heap.size) (.slice A 2 c) exO1d ∧ Below w.heap.size w W' := by
    refine (ch_Parse (S exO1) w hg (by decide)).mono ?_
    rintro e W' ⟨v, rfl, hs, hb⟩
    rw [S_data, exO1_parse] at hs ⊢
    obtain ⟨A, c, rfl, _⟩ := hs.shape
    exact ⟨A, c, rfl, hs.keep elOtc_good (Same.refl _ _) fun _ h => h.2, hb⟩
  have k2 : ∀ W, Below w.heap.size w W → Calls Tryz.prog 21 #[.string ⟨#[48, 58, 49, 54]⟩] W fun e W' => ∃ A c, e = .returned (.tuple #[.slice A 1 c, .int .i64 0]) ∧ Sl 3 elOtc W' (· < W'.heap.size) (.slice A 1 c) exO2d ∧ Below W.heap.size W W' := fun W hW => by
    refine (ch_Parse (S exO2) W (hg.below hW) (by decide)).mono ?_
    rintro e W' ⟨v, rfl, hs, hb⟩
    rw [S_data, exO2_parse] at hs ⊢
    obtain ⟨A, c, rfl, _⟩ := hs.shape
    exact ⟨A, c, rfl, hs.keep elOtc_good (Same.refl _ _) fun _ h => h.2, hb⟩
  have k3 : ∀ (w1 : World) (v u : Value), Sl 3 elOtc w1 (· < w1.heap.size) v exO1d → Sl 3 elOtc w1 (· < w1.heap.size) u exO2d → Calls Tryz.prog 34 #[.agg #[.slice (some ⟨w1.heap.size, 0, none⟩) 3 3, .slice (some ⟨w1.heap.size + 1, 0, none⟩) 1 1, .slice (some ⟨w1.heap.size + 1 + 1 + 1, 0, none⟩) 1 1, .int .i64 6, .int .i64 0, .int .i64 4, .slice (some ⟨w1.heap.size + 1 + 1 + 1 + 1, 0, none⟩) 3 3]] (awW5 w1 v u) fun e W' => e = .returned (.tuple #[.agg #[.int .i64 0, .int .i64 1], .int .i64 8, .int .i64 0]) ∧ Below w1.heap.size w1 W' := fun w1 v u h1 h2 => by
    have h3 := aw45 w1 v u h1 h2
    have := or_Best ch45 _ _ _ _ _ h3.2
    rw [ch45_best] at this
    refine this.mono ?_
    rintro e W' ⟨rfl, hb⟩
    exact ⟨rfl, h3.1.trans (hb.mono h3.1.size)⟩
  have K1 := Lib.hid k1
  have K2 := Lib.hid k2
  have K3 := Lib.hid k3
  have tok0 : True := trivial
  clear k1 k2 k3 hg
  go_enter Tryz.func12, Tryz.ntmps12
  go_wp2_with (first
    | (clear tok0; go_at_call 21; ((with_reducible refine K1.out.mono ?_); rintro e w1 ⟨A1, c1, rfl, hs1, hb1⟩; have HS1 := Lib.hid hs1; have HB1 := Lib.hid hb1; clear hs1 hb1; have tok1 : True := trivial))
    | (clear tok1; go_at_call 21; ((with_reducible refine (K2.out _ HB1.out).mono ?_); rintro e w2 ⟨A2, c2, rfl, hs2, hb2⟩; have HS2 := Lib.hid hs2; have HS1' := Lib.hid (HS1.out.keep (G := (· < w2.heap.size)) elOtc_good (Same.of_below hb2) fun _ h => Nat.lt_of_lt_of_le h hb2.size); have HB2 := Lib.hid (HB1.out.trans (hb2.mono HB1.out.size)); clear hs2 hb2; have tok2 : True := trivial))
    | (clear tok2; go_at_call 34; refine (K3.out w2 _ _ HS1'.out HS2.out).mono ?_; rintro e w3 ⟨rfl, hb3⟩; have HB3 := Lib.hid (HB2.out.trans (hb3.mono HB2.out.size)); clear hb3; have tok3 : True := trivial))
  go_ret
  exact ⟨rfl, HB3.out.alloc HB3.out.size _⟩
end Go.Proofs.YtdlmmbfnmnglaaaGreatDoor

namespace Go.Proofs.YtdlmmbfnmnglaaaGreatDoor
open Go.RowKit

def bigT (c : Chs) : Bool := decide (30 < c.mdl.bats.length) || decide (30 < c.mdl.bows.length) || decide (4 < c.ord.length) || decide (4 < c.bows.length) || decide (16 < c.need)
def smallT (c : Chs) : Bool := !bigT c && c.mdl.bats.all (fun b => decide (b.dist.length ≤ 100))
theorem bigT_ways (c : Chs) : (bigT c = true ∧ (30 < (c.mdl.bats.length : Int) ∨ (¬ 30 < (c.mdl.bats.length : Int) ∧ 30 < (c.mdl.bows.length : Int)) ∨ (¬ 30 < (c.mdl.bats.length : Int) ∧ ¬ 30 < (c.mdl.bows.length : Int) ∧ 4 < (c.ord.length : Int)) ∨ (¬ 30 < (c.mdl.bats.length : Int) ∧ ¬ 30 < (c.mdl.bows.length : Int) ∧ ¬ 4 < (c.ord.length : Int) ∧ 4 < (c.bows.length : Int)) ∨ (¬ 30 < (c.mdl.bats.length : Int) ∧ ¬ 30 < (c.mdl.bows.length : Int) ∧ ¬ 4 < (c.ord.length : Int) ∧ ¬ 4 < (c.bows.length : Int) ∧ 16 < c.need))) ∨
    (bigT c = false ∧ ¬ 30 < (c.mdl.bats.length : Int) ∧ ¬ 30 < (c.mdl.bows.length : Int) ∧ ¬ 4 < (c.ord.length : Int) ∧ ¬ 4 < (c.bows.length : Int) ∧ ¬ 16 < c.need) := by
  cases h : bigT c
  · refine .inr ⟨rfl, ?_⟩
    unfold bigT at h
    simp only [Bool.or_eq_false_iff, decide_eq_false_iff_not] at h
    omega
  · refine .inl ⟨rfl, ?_⟩
    unfold bigT at h
    simp only [Bool.or_eq_true, decide_eq_true_eq] at h
    omega
set_option maxRecDepth 100000 in
set_option maxHeartbeats 2000000 in
theorem law45_Small (c : Chs) (bv wv pv ov : Value) (w : World) (h : ChAt w (· < w.heap.size) bv wv pv ov c) :
    Calls Tryz.prog 13 #[chV c bv wv pv ov] w fun e w' => e = .returned (.bool (smallT c)) ∧ Below w.heap.size w w' := by
  unfold chV
  obtain ⟨z, hz⟩ : ∃ z, z = smallT c := ⟨_, rfl⟩
  rw [← hz]
  unfold smallT at hz
  obtain ⟨A, ca, rfl, hc1, hc2⟩ := h.mdl.bat.shape
  obtain ⟨A1, ca1, rfl, hc3, hc4⟩ := h.mdl.bow.shape
  obtain ⟨A2, ca2, rfl, hc5, hc6⟩ := h.bow.shape
  obtain ⟨A3, ca3, rfl, hc7, hc8⟩ := h.ord.shape
  have HX := Lib.hid (OTB.new w c (.slice A c.mdl.bats.length ca) (.slice A1 c.mdl.bows.length ca1) (.slice A2 c.bows.length ca2) (.slice A3 c.ord.length ca3))
  have HL := Lib.hid h.mdl.bat
  have hw := bigT_ways c
  clear h
  rcases hw with ⟨hb, hw⟩ | ⟨hb, g1, g2, g3, g4, g5⟩
  · rw [hb, Bool.not_true, Bool.false_and] at hz
    have HZ := Lib.hid hz
    clear hz hb HL
    rcases hw with g1 | ⟨g1, g2⟩ | ⟨g1, g2, g3⟩ | ⟨g1, g2, g3, g4⟩ | ⟨g1, g2, g3, g4, g5⟩
    all_goals
      go_enter Tryz.func13, Tryz.ntmps13
      go_wp2
      go_ret
      exact ⟨ret_b HZ.out.symm, HX.out.bel⟩
  · rw [hb, Bool.not_false, Bool.true_and] at hz
    have HZ : Hid (z = (c.mdl.bats.drop 0).all (fun b => decide (b.dist.length ≤ 100))) := hz
    clear hz hb
    go_enter Tryz.func13, Tryz.ntmps13
    go_wp2
    go_loopw [38] (fun i wr => ∃ k : Nat, k ≤ c.mdl.bats.length ∧ i = .int .i64 k ∧ Hid (OTB w wr w.heap.size c (.slice A c.mdl.bats.length ca) (.slice A1 c.mdl.bows.length ca1) (.slice A2 c.bows.length ca2) (.slice A3 c.ord.length ca3)) ∧ Hid (z = (c.mdl.bats.drop k).all (fun b => decide (b.dist.length ≤ 100)))) (fun i _ => c.mdl.bats.length - (intOf i).toNat)
    case atStart => exact ⟨0, Nat.zero_le _, rfl, HX, HZ⟩
    case round =>
      clear HX HZ
      obtain ⟨k, hk, rfl, HW, hzz⟩ := hrel
      by_cases hlt : k < c.mdl.bats.length
      · obtain ⟨b0, o, v, rfl, hbl, yy0, yy1, hv, hpl⟩ := bat_at HL.out hlt
        have y0 := (HW.out.bel.cell (p := ⟨b0, o + k * 2, none⟩) hbl).trans yy0
        have y1 := (HW.out.bel.cell (p := ⟨b0, o + k * 2 + 1, none⟩) hbl).trans yy1
        have hz2 := hzz.out
        rw [small44_drop hlt] at hz2
        obtain ⟨A9, c9, hve, _, _⟩ := hv.shape
        obtain ⟨p, hp⟩ : ∃ b, b = c.mdl.bats[k] := ⟨_, rfl⟩
        rw [← hp] at y0 hz2 hve
        obtain ⟨n2, hn2⟩ : ∃ n, n = p.dist.length := ⟨_, rfl⟩
        obtain ⟨pn, hpn⟩ : ∃ n, n = p.name := ⟨_, rfl⟩
        rw [← hn2] at hve hz2
        rw [← hpn] at y0
        subst hve
        have HA := Lib.hid (HW.out.alloc (.cells #[.string (S pn), .slice A9 n2 c9] 60))
        clear hzz hp hn2 hpn yy0 yy1 hv hpl
        by_cases hs : n2 ≤ 100
        · rw [decide_eq_true hs, Bool.true_and] at hz2
          have HZZ := Lib.hid hz2
          have g9 : ¬ (100 : Int) < (n2 : Int) := by omega
          clear hz2 hs
          go_wp2
          go_roundw
          case rel => exact ⟨k + 1, by omega, by go_num, HA, HZZ⟩
          case measure => simp [intOf]; omega
        · rw [decide_eq_false hs, Bool.false_and] at hz2
          have HZZ := Lib.hid hz2
          have g9 : (100 : Int) < (n2 : Int) := by omega
          clear hz2 hs
          go_wp2
          go_ret
          exact ⟨ret_b HZZ.out.symm, HA.out.bel⟩
      · obtain rfl : k = c.mdl.bats.length := by omega
        have hz2 := hzz.out
        rw [List.drop_of_length_le (Nat.le_refl _), List.all_nil] at hz2
        have HZZ := Lib.hid hz2
        clear hz2 hzz
        go_wp2
        go_ret
        exact ⟨ret_b HZZ.out.symm, HW.out.bel⟩
end Go.Proofs.YtdlmmbfnmnglaaaGreatDoor

namespace Go.Proofs.YtdlmmbfnmnglaaaGreatDoor
open Go.RowKit

/-- Some slots hold a value of which P says what it is. -/
def spV (sp : List Nat) (P : Nat → World → Value → Prop) (tab : List (Nat × Value)) : Tab := fun d w v => bif sp.contains d then P d w v else v = (tab.lookup d).getD undef
theorem spV_of {sp : List Nat} {P : Nat → World → Value → Prop} {tab : List (Nat × Value)} {d : Nat} {w : World} {v : Value} (hs : sp.contains d = true) (h : P d w v) : spV sp P tab d w v := by
  unfold spV; rw [hs]; exact h
theorem spV_at {sp : List Nat} {P : Nat → World → Value → Prop} {tab : List (Nat × Value)} {d : Nat} {w : World} {v : Value} (hs : sp.contains d = true) (h : spV sp P tab d w v) : P d w v := by
  unfold spV at h; rw [hs] at h; exact h
theorem spV_keep {sp : List Nat} {P : Nat → World → Value → Prop} {tab : List (Nat × Value)} (hP : ∀ d w w' v, P d w v → Below w.heap.size w w' → P d w' v) {d : Nat} {w w' : World} {v : Value} (h : spV sp P tab d w v) (hb : Below w.heap.size w w') : spV sp P tab d w' v := by
  unfold spV at h ⊢
  cases hs : sp.contains d
  · rw [hs] at h; exact h
  · rw [hs] at h; exact hP _ _ _ _ h hb
theorem fgs_tmp {sp : List Nat} {P : Nat → World → Value → Prop} {tab : List (Nat × Value)} {a : Act} {w : World} {l : List Nat} (d : Nat) (v : Value) (hn : ∀ x ∈ l, Holds (spV sp P tab) a w x) (hd : l.contains d = true) (hs : sp.contains d = false) (hv : (tab.lookup d).getD undef = v) : a.tmps[d]? = some v := by
  obtain ⟨u, h1, h2⟩ := hn d (by simpa using hd)
  unfold spV at h2
  rw [hs] at h2
  have h2 : u = _ := h2
  rw [h1, h2, hv]
theorem fgs_val {sp : List Nat} {P : Nat → World → Value → Prop} {tab : List (Nat × Value)} {a : Act} {w : World} {l : List Nat} (d : Nat) (v : Value) (hn : ∀ x ∈ l, Holds (spV sp P tab) a w x) (hd : l.contains d = true) (hs : sp.contains d = false) (hv : (tab.lookup d).getD undef = v) : a.eval (.tmp d) = v :=
  eval_tmp (fgs_tmp d v hn hd hs hv)
theorem fgs_sp {sp : List Nat} {P : Nat → World → Value → Prop} {tab : List (Nat × Value)} {a : Act} {w : World} {l : List Nat} (d : Nat) (hn : ∀ x ∈ l, Holds (spV sp P tab) a w x) (hd : l.contains d = true) (hs : sp.contains d = true) : ∃ v, a.eval (.tmp d) = v ∧ P d w v := by
  obtain ⟨u, h1, h2⟩ := hn d (by simpa using hd)
  exact ⟨u, eval_tmp h1, spV_at hs h2⟩
theorem fgs_put {sp : List Nat} {P : Nat → World → Value → Prop} {tab : List (Nat × Value)} {w : World} {o : Oper} {d0 : Nat} {v : Value} (hd : o.dst = some d0) (hs : sp.contains d0 = false) (hv : v = (tab.lookup d0).getD undef) : ∀ d, o.dst = some d → spV sp P tab d w v := by
  intro d h
  rw [hd] at h
  obtain rfl := Option.some.inj h
  unfold spV
  rw [hs]; exact hv
theorem fgs_put_sp {sp : List Nat} {P : Nat → World → Value → Prop} {tab : List (Nat × Value)} {w : World} {o : Oper} {d0 : Nat} {v : Value} (hd : o.dst = some d0) (hs : sp.contains d0 = true) (hv : P d0 w v) : ∀ d, o.dst = some d → spV sp P tab d w v := by
  intro d h
  rw [hd] at h
  obtain rfl := Option.some.inj h
  exact spV_of hs hv
end Go.Proofs.YtdlmmbfnmnglaaaGreatDoor

namespace Go.Proofs.YtdlmmbfnmnglaaaGreatDoor
open Go.RowKit

theorem cut_append {P : Program} {w : World} {t e : TypeId} {size bytes : Nat} (hE : ElemOf P t e size bytes) {α : Type} {R : World → (Nat → Prop) → List Value → α → Prop} (hR : Good R)
    (hfree : ∀ (w : World) (F G : Nat → Prop) (cs : List Value) (a : α), R w F cs a → R w G cs a) (hone : ∀ (w : World) (F : Nat → Prop) (cs : List Value) (a : α), R w F cs a → ∀ u ∈ cs, u.oneCell' = true)
    (hw : ∀ (w w' : World) (F : Nat → Prop) (cs : List Value) (a : α), R w F cs a → R w' F cs a)
    {F1 F2 : Nat → Prop} {b1 o1 n1 b2 o2 m c2 : Nat} {l1 l2 : List α} (h1 : Sl size R w F1 (.slice (some ⟨b1, o1, none⟩) n1 n1) l1) (h2 : Sl size R w F2 (.slice (some ⟨b2, o2, none⟩) m c2) l2) (hF1 : ∀ b, F1 b → b < w.heap.size)
    (h63 : l1.length + l2.length ≤ maxLen) (hbytes : (l1.length + l2.length) * bytes ≤ 140737488355328) (ty : TypeId) :
    ∃ A n c w', (Builtin.append_ #[t, t] ty #[.slice (some ⟨b1, o1, none⟩) n1 n1, .slice (some ⟨b2, o2, none⟩) m c2]).run P w = .ok (.slice A n c) w' ∧ Below w.heap.size w w' ∧ Sl size R w' (· < w'.heap.size) (.slice A n c) (l1 ++ l2) := by
  obtain ⟨i, z, e1, e2, e3, e4, e5, e6, e7⟩ := hE
  subst e4 e5
  have hn1 : n1 = l1.length := by obtain ⟨_, _, hv, _⟩ := h1; injection hv
  have hm : m = l2.length := by obtain ⟨_, _, hv, _⟩ := h2; injection hv
  obtain ⟨css1, k1, k2, k3, k4⟩ := h1.rows e7
  obtain ⟨css2, g1, g2, g3, g4⟩ := h2.rows e7
  have f1 := flat_len k2
  have f2 := flat_len g2
  rw [k1] at f1
  rw [g1] at f2
  have hc2 : ∀ u ∈ css2.flatten, u.oneCell' = true := fun u hu => by
    obtain ⟨cs, hcs, hu⟩ := List.mem_flatten.1 hu
    obtain ⟨q, hq, rfl⟩ := List.getElem_of_mem hcs
    exact hone _ _ _ _ (g4 q l2[q] _ (List.getElem?_eq_getElem (by omega)) (List.getElem?_eq_getElem hq)) u hu
  by_cases h0 : l2.length = 0
  · have hl2 : l2 = [] := List.eq_nil_of_length_eq_zero h0
    have hn : css2.flatten = [] := List.eq_nil_of_length_eq_zero (by rw [f2, h0, Nat.zero_mul])
    have hr := run_append_room_src (P := P) w t t ty e i e1 e2 b1 o1 n1 n1 (.slice (some ⟨b2, o2, none⟩) m c2) 0 [] (by rw [hm, h0]; exact Src.ofSlice w e1 ⟨b2, o2, none⟩ 0 c2 [] (by simp) (fun j u hj => by simp at hj) (fun u hu => by cases hu)) (by omega) (fun j hj => by simp at hj) (fun j hj => by simp at hj)
    refine ⟨_, _, _, _, hr, ?_, ?_⟩
    · exact Below.refl _ _
    · rw [hl2, List.append_nil, Nat.add_zero]
      exact h1.keep hR (Same.refl _ _) hF1
  · have hr := run_append_grow (P := P) w t ty e i z e1 e2 e3 ⟨b1, o1, none⟩ n1 n1 css1.flatten (by rw [f1, hn1]) (fun j u hj => by rw [Addr.add_lit]; exact k3 j u hj) ⟨b2, o2, none⟩ m c2 css2.flatten (by rw [f2, hm]) (fun j u hj => by rw [Addr.add_lit]; exact g3 j u hj) (by omega) (by simp only [maxLen] at h63; omega) (growslice_fits (by omega) (by rw [hn1, hm]; exact hbytes))
    have hge := grownCap_ge w (n1 + m) n1 e
    have hcm : grownCap w (n1 + m) n1 e ≤ maxLen := grownCap_le_maxLen w (n1 + m) n1 e (by omega)
    refine ⟨_, _, _, _, hr, (Below.drew (Below.refl _ _)).alloc (Nat.le_refl _) _, ?_⟩
    refine ⟨_, _, by rw [List.length_append, hn1, hm], by rw [List.length_append]; omega, hcm, fun _ => ⟨w.heap.size, 0, rfl, by simp, fun q a hq => ?_⟩⟩
    have hcell : ∀ j u, (css1 ++ css2).flatten[j]? = some u → (w.drew.alloc (.cells (css1.flatten.toArray ++ css2.flatten.toArray ++ Builtin.zeroCells z.cells (grownCap w (n1 + m) n1 e - (n1 + m))) e)).cell? ⟨w.heap.size, j, none⟩ = some u := fun j u hj => by
      have hrow := cell_of_row _ _ j _ e _ (heap_alloc_new w.drew (.cells (css1.flatten.toArray ++ css2.flatten.toArray ++ Builtin.zeroCells z.cells (grownCap w (n1 + m) n1 e - (n1 + m))) e))
      refine Eq.trans hrow ?_
      rw [List.flatten_append] at hj
      have hlt := (List.getElem?_eq_some_iff.1 hj).1
      rw [Array.getElem?_append_left (by simpa using hlt)]
      simpa using hj
    have hszz : ∀ cs ∈ css1 ++ css2, cs.length = i.size := fun cs hcs => by
      rcases List.mem_append.1 hcs with h | h
      · exact k2 cs h
      · exact g2 cs h
    by_cases hql : q < l1.length
    · rw [List.getElem?_append_left hql] at hq
      have hcs : css1[q]? = some css1[q] := List.getElem?_eq_getElem (by omega)
      refine ⟨css1[q], k2 _ (List.getElem_mem (by omega)), fun j u hj => ?_, hw _ _ _ _ _ (hfree _ _ _ _ _ (k4 q a _ hq hcs))⟩
      rw [Nat.zero_add]
      exact hcell _ _ (flatten_get hszz (by rw [List.getElem?_append_left (by omega)]; exact hcs) hj)
    · rw [List.getElem?_append_right (by omega)] at hq
      have hlt := (List.getElem?_eq_some_iff.1 hq).1
      have hcs : css2[q - l1.length]? = some css2[q - l1.length] := List.getElem?_eq_getElem (by omega)
      refine ⟨css2[q - l1.length], g2 _ (List.getElem_mem (by omega)), fun j u hj => ?_, hw _ _ _ _ _ (hfree _ _ _ _ _ (g4 _ a _ hq hcs))⟩
      rw [Nat.zero_add]
      exact hcell _ _ (flatten_get hszz (by rw [List.getElem?_append_right (by omega), k1]; exact hcs) hj)
/-- The same as a step of a region. -/
theorem step_append_run {P : Program} {ops : Array Oper} {o : Oper} {a : Act} {w : World} {K : Act → World → Prop} {Q : Exit → Act → World → Prop} {E : Prop} (hgd : o.guard = none) (s x : Operand) (t : TypeId)
    (ho : o.op = .call { callee := .builtin .append, args := #[s, x], argTypes := #[t, t] }) (vs vx : Value) (hs : a.eval s = vs) (hx : a.eval x = vx) (v' : Value) (w' : World)
    (hr : (Builtin.append_ #[t, t] o.type #[vs, vx]).run P w = .ok v' w') (h : K (a.put o.dst v') w') : if Region.wanted o (yielded ops a.tmps) = true then Oper.wp P o a w K Q else E := by
  have hw : Region.wanted o (yielded ops a.tmps) = true := by simp [Region.wanted, hgd]
  rw [if_pos hw]
  unfold Oper.wp execOp
  simp only [ho, resolve, invoke, builtin, Sem.run_bind, Sem.run_pure, Result.andThen_ok, List.map_toArray, List.map_cons, List.map_nil, hs, hx, hr]
  exact h
end Go.Proofs.YtdlmmbfnmnglaaaGreatDoor

namespace Go.Proofs.YtdlmmbfnmnglaaaGreatDoor
open Go.RowKit Go.Maps

/-- A task and an entry boxed. -/
structure LaB (w W : World) (c : Chs) (bv wv pv ov : Value) (x : Ove) : Prop where
  bel : Below w.heap.size w W
  box : Blk W w.heap.size 42 #[bv, wv, pv, .int .i64 c.over, .int .i64 c.done, .int .i64 c.need, ov]
  xb : Blk W (w.heap.size + 1) 47 #[.int .i64 x.st.ball, .int .i64 x.st.need, .int .i64 x.st.str, .int .i64 x.st.par, .int .u16 x.st.wait, .int .i64 x.val]
section
variable {w W W' : World} {c : Chs} {bv wv pv ov : Value} {x : Ove}
theorem LaB.below (h : LaB w W c bv wv pv ov x) (hb : Below W.heap.size W W') : LaB w W' c bv wv pv ov x := ⟨h.bel.trans (hb.mono h.bel.size), h.box.below hb h.box.lt, h.xb.below hb h.xb.lt⟩
theorem LaB.cells (h : LaB w W c bv wv pv ov x) : W.cell? ⟨w.heap.size, 0, none⟩ = some bv ∧ W.cell? ⟨w.heap.size, 1, none⟩ = some wv ∧ W.cell? ⟨w.heap.size, 2, none⟩ = some pv ∧ W.cell? ⟨w.heap.size, 3, none⟩ = some (.int .i64 c.over) ∧ W.cell? ⟨w.heap.size, 4, none⟩ = some (.int .i64 c.done) ∧ W.cell? ⟨w.heap.size, 5, none⟩ = some (.int .i64 c.need) ∧ W.cell? ⟨w.heap.size, 6, none⟩ = some ov :=
  ⟨h.box.cell 0, h.box.cell 1, h.box.cell 2, h.box.cell 3, h.box.cell 4, h.box.cell 5, h.box.cell 6⟩
theorem LaB.xcells (h : LaB w W c bv wv pv ov x) : W.cell? ⟨w.heap.size + 1, 0, none⟩ = some (.int .i64 x.st.ball) ∧ W.cell? ⟨w.heap.size + 1, 1, none⟩ = some (.int .i64 x.st.need) ∧ W.cell? ⟨w.heap.size + 1, 2, none⟩ = some (.int .i64 x.st.str) ∧ W.cell? ⟨w.heap.size + 1, 3, none⟩ = some (.int .i64 x.st.par) ∧ W.cell? ⟨w.heap.size + 1, 4, none⟩ = some (.int .u16 x.st.wait) ∧ W.cell? ⟨w.heap.size + 1, 5, none⟩ = some (.int .i64 x.val) :=
  ⟨h.xb.cell 0, h.xb.cell 1, h.xb.cell 2, h.xb.cell 3, h.xb.cell 4, h.xb.cell 5⟩
theorem LaB.new (w : World) (c : Chs) (bv wv pv ov : Value) (x : Ove) : LaB w ((w.alloc (.cells #[bv, wv, pv, .int .i64 c.over, .int .i64 c.done, .int .i64 c.need, ov] 42)).alloc (.cells #[.int .i64 x.st.ball, .int .i64 x.st.need, .int .i64 x.st.str, .int .i64 x.st.par, .int .u16 x.st.wait, .int .i64 x.val] 47)) c bv wv pv ov x :=
  ⟨below_two w _ _, (Blk.new w 42 #[bv, wv, pv, .int .i64 c.over, .int .i64 c.done, .int .i64 c.need, ov]).alloc _, blk_two w _ _ _⟩
theorem LaB.set (h : LaB w W c bv wv pv ov x) {g : Nat} (hg : w.heap.size + 1 < g) (o : Nat) (u : Value) : LaB w (W.setCell ⟨g, o, none⟩ u) c bv wv pv ov x :=
  ⟨Below.setCell h.bel (by show w.heap.size ≤ g; omega) u, h.box.far (p := ⟨g, o, none⟩) (by show w.heap.size ≠ g; omega) u, h.xb.far (p := ⟨g, o, none⟩) (by show w.heap.size + 1 ≠ g; omega) u⟩
end
theorem load_ovZ {w : World} {g : Nat} {p0 p1 p2 p3 p4 vv : Int} (h : Blk w g 47 #[.int .i64 p0, .int .i64 p1, .int .i64 p2, .int .i64 p3, .int .u16 p4, .int .i64 vv]) : (Instr.loadAt 47 (.pointer (some ⟨g, 0, none⟩))).run Tryz.prog w = .ok (.agg #[.int .i64 p0, .int .i64 p1, .int .i64 p2, .int .i64 p3, .int .u16 p4, .int .i64 vv]) w := by
  have c0 := h.cell 0
  have c1 := h.cell 1
  have c2 := h.cell 2
  have c3 := h.cell 3
  have c4 := h.cell 4
  have c5 := h.cell 5
  simp only [List.getElem?_toArray, List.getElem?_cons_zero, List.getElem?_cons_succ] at c0 c1 c2 c3 c4 c5
  simp [go_sem, c0, c1, c2, c3, c4, c5]
theorem bi_ov (w : World) (p0 p1 p2 p3 p4 vv : Int) : (Instr.buildSlice 49 1 #[(0, .agg #[.int .i64 p0, .int .i64 p1, .int .i64 p2, .int .i64 p3, .int .u16 p4, .int .i64 vv])]).run Tryz.prog w = .ok (.slice (some ⟨w.heap.size, 0, none⟩) 1 1) (w.alloc (.cells #[.int .i64 p0, .int .i64 p1, .int .i64 p2, .int .i64 p3, .int .u16 p4, .int .i64 vv] 47)) := by kernel_rfl
/-- A row that is owned: its first place, what it holds, and that it may be written. -/
theorem ovown_at {W : World} {A : Option Addr} {n cap B : Nat} {l : List Ove} (h : OwnSl 6 elOv 47 B W (.slice A n cap) l) (h0 : 0 < l.length) : ∃ g, A = some ⟨g, 0, none⟩ ∧ B ≤ g ∧ g < W.heap.size ∧ n = l.length ∧ n ≤ cap ∧ (∀ j, W.frozen? ⟨g, j, none⟩ = false) := by
  have hn : n = l.length := by
    obtain ⟨_, _, e, _⟩ := (OwnSl.sl elOv_good h).shape
    injection e
  obtain ⟨css, h1, h2, h3, h4⟩ := h
  have h2' := h2
  rcases h2.2 with ⟨e, _⟩ | ⟨g, cap', cur, e, e2, e3, e4, e5, e6⟩
  · injection e with _ e _; omega
  · injection e with q1 q2 q3
    subst q1 q3
    rw [← q2] at h2'
    have hlt : g < W.heap.size := by
      rcases Nat.lt_or_ge g W.heap.size with h | h
      · exact h
      · rw [Array.getElem?_eq_none h] at e3; cases e3
    exact ⟨g, rfl, e2, hlt, hn, by omega, fun j => h2'.frozenAt j⟩
/-- One cell of an entry written. -/
theorem ovown_put {W : World} {g n cap B i j : Nat} {l : List Ove} (h : OwnSl 6 elOv 47 B W (.slice (some ⟨g, 0, none⟩) n cap) l) (hi : i < l.length) (hj : j < 6) (u : Value) (a' : Ove)
    (hs : [.int .i64 l[i].st.ball, .int .i64 l[i].st.need, .int .i64 l[i].st.str, .int .i64 l[i].st.par, .int .u16 l[i].st.wait, .int .i64 l[i].val].set j u = [.int .i64 a'.st.ball, .int .i64 a'.st.need, .int .i64 a'.st.str, .int .i64 a'.st.par, .int .u16 a'.st.wait, .int .i64 a'.val]) :
    OwnSl 6 elOv 47 B (W.setCell ⟨g, i * 6 + j, none⟩ u) (.slice (some ⟨g, 0, none⟩) n cap) (l.set i a') :=
  OwnG.put h (fun _ _ _ h => h) hi hj u a' fun cs w' hcs => by
    have hcs : cs = _ := hcs
    subst hcs
    exact hs
theorem ovown_put6 {W : World} {g n cap B i : Nat} {l : List Ove} (h : OwnSl 6 elOv 47 B W (.slice (some ⟨g, 0, none⟩) n cap) l) (hi : i < l.length) (p0 p1 p2 p3 p4 vv : Int) :
    OwnSl 6 elOv 47 B ((((((W.setCell ⟨g, i * 6, none⟩ (.int .i64 p0)).setCell ⟨g, i * 6 + 1, none⟩ (.int .i64 p1)).setCell ⟨g, i * 6 + 2, none⟩ (.int .i64 p2)).setCell ⟨g, i * 6 + 3, none⟩ (.int .i64 p3)).setCell ⟨g, i * 6 + 4, none⟩ (.int .u16 p4)).setCell ⟨g, i * 6 + 5, none⟩ (.int .i64 vv)) (.slice (some ⟨g, 0, none⟩) n cap) (l.set i ⟨⟨p0, p1, p2, p3, p4⟩, vv⟩) := by
  obtain ⟨⟨⟨q0, q1, q2, q3, q4⟩, qv⟩, hq⟩ : ∃ x, x = l[i] := ⟨_, rfl⟩
  have h0 := ovown_put h hi (j := 0) (by decide) (.int .i64 p0) ⟨⟨p0, q1, q2, q3, q4⟩, qv⟩ (by rw [← hq]; rfl)
  have h1 := ovown_put h0 (by simpa using hi) (j := 1) (by decide) (.int .i64 p1) ⟨⟨p0, p1, q2, q3, q4⟩, qv⟩ (by rw [List.getElem_set_self]; rfl)
  have h2 := ovown_put h1 (by simpa using hi) (j := 2) (by decide) (.int .i64 p2) ⟨⟨p0, p1, p2, q3, q4⟩, qv⟩ (by rw [List.getElem_set_self]; rfl)
  have h3 := ovown_put h2 (by simpa using hi) (j := 3) (by decide) (.int .i64 p3) ⟨⟨p0, p1, p2, p3, q4⟩, qv⟩ (by rw [List.getElem_set_self]; rfl)
  have h4 := ovown_put h3 (by simpa using hi) (j := 4) (by decide) (.int .u16 p4) ⟨⟨p0, p1, p2, p3, p4⟩, qv⟩ (by rw [List.getElem_set_self]; rfl)
  have h5 := ovown_put h4 (by simpa using hi) (j := 5) (by decide) (.int .i64 vv) ⟨⟨p0, p1, p2, p3, p4⟩, vv⟩ (by rw [List.getElem_set_self]; rfl)
  simp only [List.set_set] at h5
  exact h5
theorem Sl.full {w : World} {F : Nat → Prop} {A : Option Addr} {n c : Nat} {l : List Ove} (h : Sl 6 elOv w F (.slice A n c) l) {i : Nat} (hi : i ≤ l.length) : Sl 6 elOv w F (.slice A i i) (l.take i) := by
  have hl : (l.take i).length = i := by rw [List.length_take]; omega
  obtain ⟨A', c', hv, h1, h2, h3⟩ := h.take hi
  injection hv with q1 q2 q3
  subst q1
  exact ⟨A, i, by rw [hl], by omega, by omega, h3⟩
theorem Sl.rest {w : World} {F : Nat → Prop} {b o n c : Nat} {l : List Ove} (h : Sl 6 elOv w F (.slice (some ⟨b, o, none⟩) n c) l) {k : Nat} (hk : k ≤ l.length) : Sl 6 elOv w F (.slice (some ⟨b, if c = k then o else o + k * 6, none⟩) (l.length - k) (c - k)) (l.drop k) := by
  by_cases hc : c = k
  · obtain ⟨A, c', hv, h1, h2, _⟩ := h
    injection hv with _ _ hv3
    subst hv3
    have hl : l.length = k := by omega
    exact ⟨_, c - k, by rw [List.length_drop], by rw [List.length_drop]; omega, by omega, fun h0 => by rw [List.length_drop] at h0; omega⟩
  · rw [if_neg hc]
    exact h.drop hk
theorem tabW_set {l : List Ove} (h : TabW l) {i : Nat} {x : Ove} (hx : (0 ≤ x.st.wait ∧ x.st.wait < 65536) ∧ -9223372036854775808 ≤ x.val ∧ x.val ≤ 9223372036854775807) : TabW (l.set i x) := fun y hy => by
  rcases List.mem_or_eq_of_mem_set hy with h1 | h1
  · exact h y h1
  · rw [h1]; exact hx
theorem tabW_cut {l : List Ove} (h : TabW l) (i : Nat) : TabW (l.take i ++ l.drop (i + 1)) := fun y hy => by
  rcases List.mem_append.1 hy with h1 | h1
  · exact h y (List.mem_of_mem_take h1)
  · exact h y (List.mem_of_mem_drop h1)
noncomputable def loOps : Array Oper := ((Tryz.f4.body).bind (findR6 14)).getD #[]
def loNeeds : List (List Nat) := [[3], [7], [59, 60], [3], [7], [62, 63], [61, 64], [65], [3, 66], [5, 66], [66, 68], [66, 67, 69], [3, 66], [5, 66], [66, 72], [66, 71, 73], [66, 70, 74], [66, 75], [76]]
theorem lo_size : loOps.size = 19 := by kernel_rfl
def loTab (g : Nat) (c : Chs) (bv wv pv ov v : Value) (p0 p1 p2 p3 p4 vv a1 a2 : Int)  : List (Nat × Value) := [(3, .pointer (some ⟨g, 0, none⟩)), (5, .pointer (some ⟨g + 1, 0, none⟩)), (7, v), (59, .agg #[bv, wv, pv, .int .i64 c.over, .int .i64 c.done, .int .i64 c.need, ov]), (60, v), (61, .int .i64 a1), (62, .agg #[bv, wv, pv, .int .i64 c.over, .int .i64 c.done, .int .i64 c.need, ov]), (63, v), (64, .int .i64 a1), (65, .bool true), (66, .bool true), (67, .agg #[bv, wv, pv, .int .i64 c.over, .int .i64 c.done, .int .i64 c.need, ov]), (68, .agg #[.int .i64 p0, .int .i64 p1, .int .i64 p2, .int .i64 p3, .int .u16 p4, .int .i64 vv]), (70, .int .i64 a2), (71, .agg #[bv, wv, pv, .int .i64 c.over, .int .i64 c.done, .int .i64 c.need, ov]), (72, .agg #[.int .i64 p0, .int .i64 p1, .int .i64 p2, .int .i64 p3, .int .u16 p4, .int .i64 vv]), (74, .int .i64 a2), (75, .bool true), (76, .bool true), (6, .bool true)]
set_option maxRecDepth 100000 in
set_option maxHeartbeats 4000000 in
theorem lo_free (c : Chs) (bv wv pv ov v : Value) (p0 p1 p2 p3 p4 vv a1 a2 : Int)  (w W0 : World)
    (kA : ∀ W, Below W0.heap.size W0 W → Calls Tryz.prog 15 #[.agg #[bv, wv, pv, .int .i64 c.over, .int .i64 c.done, .int .i64 c.need, ov], v] W fun e w' => e = .returned (.int .i64 a1) ∧ Below W.heap.size W w')
    (kB : ∀ W, Below W0.heap.size W0 W → Calls Tryz.prog 16 #[.agg #[bv, wv, pv, .int .i64 c.over, .int .i64 c.done, .int .i64 c.need, ov], v] W fun e w' => e = .returned (.int .i64 a1) ∧ Below W.heap.size W w')
    (kC : ∀ W, Below W0.heap.size W0 W → ∀ u, Sl 6 elOv W (· < W.heap.size) u [⟨⟨p0, p1, p2, p3, p4⟩, vv⟩] → Calls Tryz.prog 15 #[.agg #[bv, wv, pv, .int .i64 c.over, .int .i64 c.done, .int .i64 c.need, ov], u] W fun e w' => e = .returned (.int .i64 a2) ∧ Below W.heap.size W w')
    (kD : ∀ W, Below W0.heap.size W0 W → ∀ u, Sl 6 elOv W (· < W.heap.size) u [⟨⟨p0, p1, p2, p3, p4⟩, vv⟩] → Calls Tryz.prog 16 #[.agg #[bv, wv, pv, .int .i64 c.over, .int .i64 c.done, .int .i64 c.need, ov], u] W fun e w' => e = .returned (.int .i64 a2) ∧ Below W.heap.size W w') :
    FreeG Tryz.prog loOps (spV [69, 73] (fun _ w v => Sl 6 elOv w (· < w.heap.size) v [⟨⟨p0, p1, p2, p3, p4⟩, vv⟩]) (loTab w.heap.size c bv wv pv ov v p0 p1 p2 p3 p4 vv a1 a2)) (fun W => LaB w W c bv wv pv ov ⟨⟨p0, p1, p2, p3, p4⟩, vv⟩ ∧ Below W0.heap.size W0 W) (fun i => loNeeds.getD i []) [3, 5, 7] 77 := by
  refine ⟨backG_of (by kernel_rfl), dstG_of (by kernel_rfl), needG_of (by kernel_rfl), fun d w1 w2 v h hb => spV_keep (fun _ w w' v h hb => h.keep elOv_good (Same.of_below hb) fun b h => Nat.lt_of_lt_of_le h hb.size) h hb, fun W W' h hb => ⟨h.1.below hb, h.2.trans (hb.mono h.2.size)⟩, ?_⟩
  intro i o ho a W hG hn
  have hlt : i < 19 := by rw [← lo_size]; exact (Array.getElem?_eq_some_iff.1 ho).1
  have hcase : i = 0 ∨ i = 1 ∨ i = 2 ∨ i = 3 ∨ i = 4 ∨ i = 5 ∨ i = 6 ∨ i = 7 ∨ i = 8 ∨ i = 9 ∨ i = 10 ∨ i = 11 ∨ i = 12 ∨ i = 13 ∨ i = 14 ∨ i = 15 ∨ i = 16 ∨ i = 17 ∨ i = 18 := by omega
  rcases hcase with rfl | rfl | rfl | rfl | rfl | rfl | rfl | rfl | rfl | rfl | rfl | rfl | rfl | rfl | rfl | rfl | rfl | rfl | rfl
  · have hop := opG_of (x := .load 42 (.tmp 3)) (d := some 59) (by kernel_rfl) ho
    obtain ⟨h1, h2⟩ := hop
    refine .inl ⟨free_not (guardG_of (by kernel_rfl) ho), ?_⟩
    exact meets_load h1 (fgs_val 3 (.pointer (some ⟨w.heap.size, 0, none⟩)) hn (by kernel_rfl) rfl rfl) (load_tskZ hG.1.box) (fgs_put h2 rfl rfl)
  · have hop := opG_of (x := .move (.tmp 7)) (d := some 60) (by kernel_rfl) ho
    obtain ⟨h1, h2⟩ := hop
    refine .inl ⟨free_not (guardG_of (by kernel_rfl) ho), ?_⟩
    exact meets_move (.inl h1) fun d hd => by rw [h2] at hd; obtain rfl := Option.some.inj hd; exact (fgs_val 7 (v) hn (by kernel_rfl) rfl rfl)
  · have hop := opG_of (x := .call { callee := .value (.func 15), args := #[.tmp 59, .tmp 60], argTypes := #[42, 49] }) (d := some 61) (by kernel_rfl) ho
    obtain ⟨h1, h2⟩ := hop
    refine .inl ⟨free_not (guardG_of (by kernel_rfl) ho), ?_⟩
    refine meets_call (args := #[.agg #[bv, wv, pv, .int .i64 c.over, .int .i64 c.done, .int .i64 c.need, ov], v]) h1 rfl rfl (by have e59 := (fgs_val 59 (.agg #[bv, wv, pv, .int .i64 c.over, .int .i64 c.done, .int .i64 c.need, ov]) hn (by kernel_rfl) rfl rfl); have e60 := (fgs_val 60 (v) hn (by kernel_rfl) rfl rfl); simp [e59, e60]) Tryz.func15 (by kernel_rfl) (by kernel_rfl) fun d hd => ?_
    refine (kA W hG.2).mono ?_
    rintro e W' ⟨rfl, hb⟩
    exact ⟨_, rfl, hb, (fgs_put h2 rfl rfl d hd)⟩
  · have hop := opG_of (x := .load 42 (.tmp 3)) (d := some 62) (by kernel_rfl) ho
    obtain ⟨h1, h2⟩ := hop
    refine .inl ⟨free_not (guardG_of (by kernel_rfl) ho), ?_⟩
    exact meets_load h1 (fgs_val 3 (.pointer (some ⟨w.heap.size, 0, none⟩)) hn (by kernel_rfl) rfl rfl) (load_tskZ hG.1.box) (fgs_put h2 rfl rfl)
  · have hop := opG_of (x := .move (.tmp 7)) (d := some 63) (by kernel_rfl) ho
    obtain ⟨h1, h2⟩ := hop
    refine .inl ⟨free_not (guardG_of (by kernel_rfl) ho), ?_⟩
    exact meets_move (.inl h1) fun d hd => by rw [h2] at hd; obtain rfl := Option.some.inj hd; exact (fgs_val 7 (v) hn (by kernel_rfl) rfl rfl)
  · have hop := opG_of (x := .call { callee := .value (.func 16), args := #[.tmp 62, .tmp 63], argTypes := #[42, 49] }) (d := some 64) (by kernel_rfl) ho
    obtain ⟨h1, h2⟩ := hop
    refine .inl ⟨free_not (guardG_of (by kernel_rfl) ho), ?_⟩
    refine meets_call (args := #[.agg #[bv, wv, pv, .int .i64 c.over, .int .i64 c.done, .int .i64 c.need, ov], v]) h1 rfl rfl (by have e62 := (fgs_val 62 (.agg #[bv, wv, pv, .int .i64 c.over, .int .i64 c.done, .int .i64 c.need, ov]) hn (by kernel_rfl) rfl rfl); have e63 := (fgs_val 63 (v) hn (by kernel_rfl) rfl rfl); simp [e62, e63]) Tryz.func16 (by kernel_rfl) (by kernel_rfl) fun d hd => ?_
    refine (kB W hG.2).mono ?_
    rintro e W' ⟨rfl, hb⟩
    exact ⟨_, rfl, hb, (fgs_put h2 rfl rfl d hd)⟩
  · have hop := opG_of (x := .binOp .eql 36 (.tmp 61) (.tmp 64) 36) (d := some 65) (by kernel_rfl) ho
    obtain ⟨h1, h2⟩ := hop
    refine .inl ⟨free_not (guardG_of (by kernel_rfl) ho), ?_⟩
    exact meets_value (v := .bool true) (by have e61 := (fgs_val 61 (.int .i64 a1) hn (by kernel_rfl) rfl rfl); have e64 := (fgs_val 64 (.int .i64 a1) hn (by kernel_rfl) rfl rfl); unfold execOp; simp only [h1, e61, e64]; simp [go_sem, BigFrame.eval_const]) (fgs_put h2 rfl rfl)
  · have hop := opG_of (x := .move (.tmp 65)) (d := some 66) (by kernel_rfl) ho
    obtain ⟨h1, h2⟩ := hop
    refine .inl ⟨free_not (guardG_of (by kernel_rfl) ho), ?_⟩
    exact meets_move (.inl h1) fun d hd => by rw [h2] at hd; obtain rfl := Option.some.inj hd; exact (fgs_val 65 (.bool true) hn (by kernel_rfl) rfl rfl)
  · have hop := opG_of (x := .load 42 (.tmp 3)) (d := some 67) (by kernel_rfl) ho
    obtain ⟨h1, h2⟩ := hop
    refine .inl ⟨(guard_at (j := 7) (d := 66) (b := true) (b' := true) (by kernel_rfl : (loOps[8]?).map (·.guard) = some (some (7, true))) (by kernel_rfl) ho (fgs_tmp 66 (.bool true) hn (by kernel_rfl) rfl rfl)), ?_⟩
    exact meets_load h1 (fgs_val 3 (.pointer (some ⟨w.heap.size, 0, none⟩)) hn (by kernel_rfl) rfl rfl) (load_tskZ hG.1.box) (fgs_put h2 rfl rfl)
  · have hop := opG_of (x := .load 47 (.tmp 5)) (d := some 68) (by kernel_rfl) ho
    obtain ⟨h1, h2⟩ := hop
    refine .inl ⟨(guard_at (j := 7) (d := 66) (b := true) (b' := true) (by kernel_rfl : (loOps[9]?).map (·.guard) = some (some (7, true))) (by kernel_rfl) ho (fgs_tmp 66 (.bool true) hn (by kernel_rfl) rfl rfl)), ?_⟩
    exact meets_load h1 (fgs_val 5 (.pointer (some ⟨w.heap.size + 1, 0, none⟩)) hn (by kernel_rfl) rfl rfl) (load_ovZ hG.1.xb) (fgs_put h2 rfl rfl)
  · have hop := opG_of (x := .buildSlice 49 1 #[(0, .tmp 68)]) (d := some 69) (by kernel_rfl) ho
    obtain ⟨h1, h2⟩ := hop
    refine .inl ⟨(guard_at (j := 7) (d := 66) (b := true) (b' := true) (by kernel_rfl : (loOps[10]?).map (·.guard) = some (some (7, true))) (by kernel_rfl) ho (fgs_tmp 66 (.bool true) hn (by kernel_rfl) rfl rfl)), ?_⟩
    refine meets_build (e := 47) h1 #[.int .i64 p0, .int .i64 p1, .int .i64 p2, .int .i64 p3, .int .u16 p4, .int .i64 vv] ?_ (fgs_put_sp h2 rfl (Sl.fresh1 (size := 6) (R := elOv) W (· < (W.alloc (.cells #[.int .i64 p0, .int .i64 p1, .int .i64 p2, .int .i64 p3, .int .u16 p4, .int .i64 vv] 47)).heap.size) [.int .i64 p0, .int .i64 p1, .int .i64 p2, .int .i64 p3, .int .u16 p4, .int .i64 vv] 47 (⟨⟨p0, p1, p2, p3, p4⟩, vv⟩ : Ove) rfl (by simp) rfl))
    have e0 := fgs_val 68 (.agg #[.int .i64 p0, .int .i64 p1, .int .i64 p2, .int .i64 p3, .int .u16 p4, .int .i64 vv]) hn (by kernel_rfl) rfl rfl
    simp only [List.map_toArray, List.map_cons, List.map_nil, e0]
    exact bi_ov W _ _ _ _ _ _
  · have hop := opG_of (x := .call { callee := .value (.func 15), args := #[.tmp 67, .tmp 69], argTypes := #[42, 49] }) (d := some 70) (by kernel_rfl) ho
    obtain ⟨h1, h2⟩ := hop
    refine .inl ⟨(guard_at (j := 7) (d := 66) (b := true) (b' := true) (by kernel_rfl : (loOps[11]?).map (·.guard) = some (some (7, true))) (by kernel_rfl) ho (fgs_tmp 66 (.bool true) hn (by kernel_rfl) rfl rfl)), ?_⟩
    obtain ⟨u, k1, k2⟩ := fgs_sp 69 hn (by kernel_rfl) rfl
    refine meets_call (args := #[.agg #[bv, wv, pv, .int .i64 c.over, .int .i64 c.done, .int .i64 c.need, ov], u]) h1 rfl rfl (by have e1 := fgs_val 67 (.agg #[bv, wv, pv, .int .i64 c.over, .int .i64 c.done, .int .i64 c.need, ov]) hn (by kernel_rfl) rfl rfl; simp [e1, k1]) Tryz.func15 (by kernel_rfl) (by kernel_rfl) fun d hd => ?_
    refine (kC W hG.2 u k2).mono ?_
    rintro e W' ⟨rfl, hb⟩
    exact ⟨_, rfl, hb, fgs_put h2 rfl rfl d hd⟩
  · have hop := opG_of (x := .load 42 (.tmp 3)) (d := some 71) (by kernel_rfl) ho
    obtain ⟨h1, h2⟩ := hop
    refine .inl ⟨(guard_at (j := 7) (d := 66) (b := true) (b' := true) (by kernel_rfl : (loOps[12]?).map (·.guard) = some (some (7, true))) (by kernel_rfl) ho (fgs_tmp 66 (.bool true) hn (by kernel_rfl) rfl rfl)), ?_⟩
    exact meets_load h1 (fgs_val 3 (.pointer (some ⟨w.heap.size, 0, none⟩)) hn (by kernel_rfl) rfl rfl) (load_tskZ hG.1.box) (fgs_put h2 rfl rfl)
  · have hop := opG_of (x := .load 47 (.tmp 5)) (d := some 72) (by kernel_rfl) ho
    obtain ⟨h1, h2⟩ := hop
    refine .inl ⟨(guard_at (j := 7) (d := 66) (b := true) (b' := true) (by kernel_rfl : (loOps[13]?).map (·.guard) = some (some (7, true))) (by kernel_rfl) ho (fgs_tmp 66 (.bool true) hn (by kernel_rfl) rfl rfl)), ?_⟩
    exact meets_load h1 (fgs_val 5 (.pointer (some ⟨w.heap.size + 1, 0, none⟩)) hn (by kernel_rfl) rfl rfl) (load_ovZ hG.1.xb) (fgs_put h2 rfl rfl)
  · have hop := opG_of (x := .buildSlice 49 1 #[(0, .tmp 72)]) (d := some 73) (by kernel_rfl) ho
    obtain ⟨h1, h2⟩ := hop
    refine .inl ⟨(guard_at (j := 7) (d := 66) (b := true) (b' := true) (by kernel_rfl : (loOps[14]?).map (·.guard) = some (some (7, true))) (by kernel_rfl) ho (fgs_tmp 66 (.bool true) hn (by kernel_rfl) rfl rfl)), ?_⟩
    refine meets_build (e := 47) h1 #[.int .i64 p0, .int .i64 p1, .int .i64 p2, .int .i64 p3, .int .u16 p4, .int .i64 vv] ?_ (fgs_put_sp h2 rfl (Sl.fresh1 (size := 6) (R := elOv) W (· < (W.alloc (.cells #[.int .i64 p0, .int .i64 p1, .int .i64 p2, .int .i64 p3, .int .u16 p4, .int .i64 vv] 47)).heap.size) [.int .i64 p0, .int .i64 p1, .int .i64 p2, .int .i64 p3, .int .u16 p4, .int .i64 vv] 47 (⟨⟨p0, p1, p2, p3, p4⟩, vv⟩ : Ove) rfl (by simp) rfl))
    have e0 := fgs_val 72 (.agg #[.int .i64 p0, .int .i64 p1, .int .i64 p2, .int .i64 p3, .int .u16 p4, .int .i64 vv]) hn (by kernel_rfl) rfl rfl
    simp only [List.map_toArray, List.map_cons, List.map_nil, e0]
    exact bi_ov W _ _ _ _ _ _
  · have hop := opG_of (x := .call { callee := .value (.func 16), args := #[.tmp 71, .tmp 73], argTypes := #[42, 49] }) (d := some 74) (by kernel_rfl) ho
    obtain ⟨h1, h2⟩ := hop
    refine .inl ⟨(guard_at (j := 7) (d := 66) (b := true) (b' := true) (by kernel_rfl : (loOps[15]?).map (·.guard) = some (some (7, true))) (by kernel_rfl) ho (fgs_tmp 66 (.bool true) hn (by kernel_rfl) rfl rfl)), ?_⟩
    obtain ⟨u, k1, k2⟩ := fgs_sp 73 hn (by kernel_rfl) rfl
    refine meets_call (args := #[.agg #[bv, wv, pv, .int .i64 c.over, .int .i64 c.done, .int .i64 c.need, ov], u]) h1 rfl rfl (by have e1 := fgs_val 71 (.agg #[bv, wv, pv, .int .i64 c.over, .int .i64 c.done, .int .i64 c.need, ov]) hn (by kernel_rfl) rfl rfl; simp [e1, k1]) Tryz.func16 (by kernel_rfl) (by kernel_rfl) fun d hd => ?_
    refine (kD W hG.2 u k2).mono ?_
    rintro e W' ⟨rfl, hb⟩
    exact ⟨_, rfl, hb, fgs_put h2 rfl rfl d hd⟩
  · have hop := opG_of (x := .binOp .eql 36 (.tmp 70) (.tmp 74) 36) (d := some 75) (by kernel_rfl) ho
    obtain ⟨h1, h2⟩ := hop
    refine .inl ⟨(guard_at (j := 7) (d := 66) (b := true) (b' := true) (by kernel_rfl : (loOps[16]?).map (·.guard) = some (some (7, true))) (by kernel_rfl) ho (fgs_tmp 66 (.bool true) hn (by kernel_rfl) rfl rfl)), ?_⟩
    exact meets_value (v := .bool true) (by have e70 := (fgs_val 70 (.int .i64 a2) hn (by kernel_rfl) rfl rfl); have e74 := (fgs_val 74 (.int .i64 a2) hn (by kernel_rfl) rfl rfl); unfold execOp; simp only [h1, e70, e74]; simp [go_sem, BigFrame.eval_const]) (fgs_put h2 rfl rfl)
  · have hop := opG_of (x := .pick (.tmp 66) (.tmp 75) (.const (.bool false))) (d := some 76) (by kernel_rfl) ho
    obtain ⟨h1, h2⟩ := hop
    refine .inl ⟨free_not (guardG_of (by kernel_rfl) ho), ?_⟩
    exact meets_value (v := .bool true) (by have e66 := (fgs_val 66 (.bool true) hn (by kernel_rfl) rfl rfl); have e75 := (fgs_val 75 (.bool true) hn (by kernel_rfl) rfl rfl); unfold execOp; simp only [h1, e66, e75]; simp [go_sem, BigFrame.eval_const]) (fgs_put h2 rfl rfl)
  · have hop := opG_of (x := .assign (.tmp 76)) (d := some 6) (by kernel_rfl) ho
    obtain ⟨h1, h2⟩ := hop
    refine .inl ⟨free_not (guardG_of (by kernel_rfl) ho), ?_⟩
    exact meets_move (.inr h1) fun d hd => by rw [h2] at hd; obtain rfl := Option.some.inj hd; exact (fgs_val 76 (.bool true) hn (by kernel_rfl) rfl rfl)
set_option maxRecDepth 100000 in
set_option maxHeartbeats 8000000 in
theorem law_OrderAccepts (c : Chs) (bv wv pv ov : Value) (k : Int) (x : Ove) (w : World) (hg : GlobN w) (h : ChAt w (· < w.heap.size) bv wv pv ov c) (hk : -9223372036854775808 ≤ k ∧ k ≤ 9223372036854775807) (hx : (0 ≤ x.st.wait ∧ x.st.wait < 65536) ∧ -9223372036854775808 ≤ x.val ∧ x.val ≤ 9223372036854775807) :
    Calls Tryz.prog 4 #[chV c bv wv pv ov, .int .i64 k, .agg #[.int .i64 x.st.ball, .int .i64 x.st.need, .int .i64 x.st.str, .int .i64 x.st.par, .int .u16 x.st.wait, .int .i64 x.val]] w fun e w' => e = .returned (.bool true) ∧ Below w.heap.size w w' := by
  have k1 := fun W (hW : Below w.heap.size w W) => law45_awake W (hg.below hW)
  have k2 := fun W (hW : Below w.heap.size w W) => law45_Small c _ _ _ _ W (h.below hW)
  have kacc : ∀ (v : Value) (l : List Ove) (W : World) (hW : Below w.heap.size w W) (hl : Sl 6 elOv W (· < W.heap.size) v l) (hn : l.length ≤ 1000000000000) (hw : TabW l), _ := fun v l W hW hl hn hw => or_Accept c bv wv pv ov v l W (h.below hW) hl hn hw
  have kref : ∀ (v : Value) (l : List Ove) (W : World) (hW : Below w.heap.size w W) (hl : Sl 6 elOv W (· < W.heap.size) v l) (hn : l.length ≤ 1000000000000) (hw : TabW l), _ := fun v l W hW hl hn hw => r45_Accept c bv wv pv ov v l W (h.below hW) hl hn hw
  have ktab := fun (h4 : c.bows.length ≤ 4) W (hW : Below w.heap.size w W) => r45_Table c bv wv pv ov W (h.below hW) h4
  unfold chV at k2 kacc kref ktab ⊢
  obtain ⟨A, ca, rfl, hc1, hc2⟩ := h.mdl.bat.shape
  obtain ⟨A1, ca1, rfl, hc3, hc4⟩ := h.mdl.bow.shape
  obtain ⟨A2, ca2, rfl, hc5, hc6⟩ := h.bow.shape
  obtain ⟨A3, ca3, rfl, hc7, hc8⟩ := h.ord.shape
  have HX0 := Lib.hid (LaB.new w c (.slice A c.mdl.bats.length ca) (.slice A1 c.mdl.bows.length ca1) (.slice A2 c.bows.length ca2) (.slice A3 c.ord.length ca3) x)
  have HXW := Lib.hid (show TabW [x] from fun y hy => by simp at hy; rw [hy]; exact hx)
  have HX1 := Lib.hid hx
  have hok := fun (h0 : checkO c = 0) => okT_of h0
  have KOK := Lib.hid hok
  have K1 := Lib.hid k1
  have KACC := Lib.hid kacc
  have KREF := Lib.hid kref
  obtain ⟨⟨p0, p1, p2, p3, p4⟩, vv⟩ := x
  dsimp only at HX0 HX1 ⊢
  obtain ⟨hk1, hk2⟩ := hk
  have tok0 : True := trivial
  cases hs : smallT c
  · rw [hs] at k2
    have K2 := Lib.hid k2
    clear k1 k2 kacc kref ktab hs hg h hok hx
    go_enter Tryz.func4, Tryz.ntmps4
    go_wp2_with (first
      | (clear tok0; go_at_call 12; refine (K1.out _ HX0.out.bel).mono ?_; rintro e w1 ⟨rfl, hb⟩; have HX2 := Lib.hid (HX0.out.below hb); obtain ⟨x0, x1, x2, x3, x4, x5, x6⟩ := HX2.out.cells; clear hb; have tok1 : True := trivial)
      | (clear tok1; go_at_call 13; refine (K2.out _ HX2.out.bel).mono ?_; rintro e w2 ⟨rfl, hb⟩; have HX3 := Lib.hid (HX2.out.below hb); clear hb; have tok2 : True := trivial))
    go_ret
    exact ⟨rfl, HX3.out.bel⟩
  have h4 : c.bows.length ≤ 4 := by
    unfold smallT at hs
    rw [Bool.and_eq_true, Bool.not_eq_true'] at hs
    have := hs.1
    unfold bigT at this
    simp only [Bool.or_eq_false_iff, decide_eq_false_iff_not] at this
    omega
  rw [hs] at k2
  have K2 := Lib.hid k2
  have KTAB := Lib.hid (ktab h4)
  clear k1 k2 kacc kref ktab hs hg h hok hx h4
  go_enter Tryz.func4, Tryz.ntmps4
  go_wp2_with (first
    | (clear tok0; go_at_call 12; refine (K1.out _ HX0.out.bel).mono ?_; rintro e w1 ⟨rfl, hb⟩; have HX2 := Lib.hid (HX0.out.below hb); obtain ⟨x0, x1, x2, x3, x4, x5, x6⟩ := HX2.out.cells; clear hb; have tok1 : True := trivial)
    | (clear tok1; go_at_call 13; refine (K2.out _ HX2.out.bel).mono ?_; rintro e w2 ⟨rfl, hb⟩; have HX3 := Lib.hid (HX2.out.below hb); clear x0 x1 x2 x3 x4 x5 x6; obtain ⟨x0, x1, x2, x3, x4, x5, x6⟩ := HX3.out.cells; clear hb; have tok2 : True := trivial)
    | (clear tok2; go_at_call 14; refine (KTAB.out _ HX3.out.bel).mono ?_))
  rintro e w3 (⟨h0, rfl, hb⟩ | ⟨h0, A9, cp9, l9, rfl, hb, hti, hlen, hown⟩)
  · have HLB := Lib.hid (HX3.out.below hb)
    have HFA := Lib.hid (show Sl 6 elOv w3 (· < w3.heap.size) (.slice none 0 0) [] from Sl.nil _ _)
    have HFN := Lib.hid (show ([] : List Ove).length ≤ 1000000000000 by simp)
    have HFW := Lib.hid (show TabW [] from fun y hy => by cases hy)
    clear h0 hb x0 x1 x2 x3 x4 x5 x6
    obtain ⟨x0, x1, x2, x3, x4, x5, x6⟩ := HLB.out.cells
    go_wp2
    refine wp_region_freeG (by kernel_rfl : _ = loOps) (by kernel_rfl) (lo_free c (.slice A c.mdl.bats.length ca) (.slice A1 c.mdl.bows.length ca1) (.slice A2 c.bows.length ca2) (.slice A3 c.ord.length ca3) (.slice none 0 0) p0 p1 p2 p3 p4 vv _ _ w w3 (fun W' hW' => KACC.out _ _ W' (HLB.out.below hW').bel (HFA.out.keep elOv_good (Same.of_below hW') fun b h => Nat.lt_of_lt_of_le h hW'.size) HFN.out HFW.out) (fun W' hW' => KREF.out _ _ W' (HLB.out.below hW').bel (HFA.out.keep elOv_good (Same.of_below hW') fun b h => Nat.lt_of_lt_of_le h hW'.size) HFN.out HFW.out) (fun W' hW' u hu => KACC.out u _ W' (HLB.out.below hW').bel hu (by simp) HXW.out) (fun W' hW' u hu => KREF.out u _ W' (HLB.out.below hW').bel hu (by simp) HXW.out)) (of_decide_eq_true (by kernel_rfl)) ⟨HLB.out, Below.refl _ _⟩ (fun d hd => ?_) ?_
    · simp only [List.mem_cons, List.not_mem_nil, or_false] at hd
      rcases hd with rfl | rfl | rfl
      · exact ⟨_, rfl, rfl⟩
      · exact ⟨_, rfl, rfl⟩
      · exact ⟨_, rfl, rfl⟩
    · rintro ⟨⟨lz⟩, df⟩ wx hin
      obtain ⟨v6, hv6, hs6⟩ := hin.atG 18 6 (by kernel_rfl)
      have hsz : lz.length = 77 := hin.size
      have hdf : df = [] := hin.dfr
      have HG2 := Lib.hid hin.g
      clear hin
      subst hdf
      have hs7 : v6 = .bool true := hs6
      subst hs7
      clear hs6
      dsimp only at hv6
      iterate 77 (obtain ⟨_, t, e, h2⟩ := listG_cons hsz; clear hsz; subst e; have hsz := h2; clear h2)
      have e0 := List.eq_nil_of_length_eq_zero hsz
      clear hsz
      subst e0
      simp only [List.getElem?_toArray, List.getElem?_cons_zero, List.getElem?_cons_succ, Option.some.injEq] at hv6
      subst hv6
      go_wp2
      go_ret
      exact ⟨rfl, HG2.out.1.bel⟩
  · have HLB := Lib.hid (HX3.out.below hb)
    have hsl := (OwnSl.sl elOv_good hown).keep elOv_good (G := (· < w3.heap.size)) (Same.refl _ _) fun b h => h.2
    have htw := hti.w (KOK.out h0)
    have HFA := Lib.hid hsl
    have HFW := Lib.hid htw
    have HOWN := Lib.hid hown
    have HFN := Lib.hid (show l9.length ≤ 1000000000000 by omega)
    have hx3 := HX3.out.xb.lt
    clear h0 hb x0 x1 x2 x3 x4 x5 x6 hti hsl htw hown
    obtain ⟨x0, x1, x2, x3, x4, x5, x6⟩ := HLB.out.cells
    by_cases hpos : 0 < l9.length ∧ 0 ≤ k
    case neg =>
      by_cases hp1 : 0 < l9.length
      · have e1 : (0 : Int) < (l9.length : Int) := by omega
        have e2 : ¬ (0 : Int) ≤ k := fun h => hpos ⟨hp1, h⟩
        clear hpos hp1 hlen
        go_wp2
        refine wp_region_freeG (by kernel_rfl : _ = loOps) (by kernel_rfl) (lo_free c (.slice A c.mdl.bats.length ca) (.slice A1 c.mdl.bows.length ca1) (.slice A2 c.bows.length ca2) (.slice A3 c.ord.length ca3) (.slice A9 l9.length cp9) p0 p1 p2 p3 p4 vv _ _ w w3 (fun W' hW' => KACC.out _ _ W' (HLB.out.below hW').bel (HFA.out.keep elOv_good (Same.of_below hW') fun b h => Nat.lt_of_lt_of_le h hW'.size) HFN.out HFW.out) (fun W' hW' => KREF.out _ _ W' (HLB.out.below hW').bel (HFA.out.keep elOv_good (Same.of_below hW') fun b h => Nat.lt_of_lt_of_le h hW'.size) HFN.out HFW.out) (fun W' hW' u hu => KACC.out u _ W' (HLB.out.below hW').bel hu (by simp) HXW.out) (fun W' hW' u hu => KREF.out u _ W' (HLB.out.below hW').bel hu (by simp) HXW.out)) (of_decide_eq_true (by kernel_rfl)) ⟨HLB.out, Below.refl _ _⟩ (fun d hd => ?_) ?_
        · simp only [List.mem_cons, List.not_mem_nil, or_false] at hd
          rcases hd with rfl | rfl | rfl
          · exact ⟨_, rfl, rfl⟩
          · exact ⟨_, rfl, rfl⟩
          · exact ⟨_, rfl, rfl⟩
        · rintro ⟨⟨lz⟩, df⟩ wx hin
          obtain ⟨v6, hv6, hs6⟩ := hin.atG 18 6 (by kernel_rfl)
          have hsz : lz.length = 77 := hin.size
          have hdf : df = [] := hin.dfr
          have HG2 := Lib.hid hin.g
          clear hin
          subst hdf
          have hs7 : v6 = .bool true := hs6
          subst hs7
          clear hs6
          dsimp only at hv6
          iterate 77 (obtain ⟨_, t, e, h2⟩ := listG_cons hsz; clear hsz; subst e; have hsz := h2; clear h2)
          have e0 := List.eq_nil_of_length_eq_zero hsz
          clear hsz
          subst e0
          simp only [List.getElem?_toArray, List.getElem?_cons_zero, List.getElem?_cons_succ, Option.some.injEq] at hv6
          subst hv6
          go_wp2
          go_ret
          exact ⟨rfl, HG2.out.1.bel⟩
      · have e1 : ¬ (0 : Int) < (l9.length : Int) := by omega
        clear hpos hp1 hlen
        go_wp2
        refine wp_region_freeG (by kernel_rfl : _ = loOps) (by kernel_rfl) (lo_free c (.slice A c.mdl.bats.length ca) (.slice A1 c.mdl.bows.length ca1) (.slice A2 c.bows.length ca2) (.slice A3 c.ord.length ca3) (.slice A9 l9.length cp9) p0 p1 p2 p3 p4 vv _ _ w w3 (fun W' hW' => KACC.out _ _ W' (HLB.out.below hW').bel (HFA.out.keep elOv_good (Same.of_below hW') fun b h => Nat.lt_of_lt_of_le h hW'.size) HFN.out HFW.out) (fun W' hW' => KREF.out _ _ W' (HLB.out.below hW').bel (HFA.out.keep elOv_good (Same.of_below hW') fun b h => Nat.lt_of_lt_of_le h hW'.size) HFN.out HFW.out) (fun W' hW' u hu => KACC.out u _ W' (HLB.out.below hW').bel hu (by simp) HXW.out) (fun W' hW' u hu => KREF.out u _ W' (HLB.out.below hW').bel hu (by simp) HXW.out)) (of_decide_eq_true (by kernel_rfl)) ⟨HLB.out, Below.refl _ _⟩ (fun d hd => ?_) ?_
        · simp only [List.mem_cons, List.not_mem_nil, or_false] at hd
          rcases hd with rfl | rfl | rfl
          · exact ⟨_, rfl, rfl⟩
          · exact ⟨_, rfl, rfl⟩
          · exact ⟨_, rfl, rfl⟩
        · rintro ⟨⟨lz⟩, df⟩ wx hin
          obtain ⟨v6, hv6, hs6⟩ := hin.atG 18 6 (by kernel_rfl)
          have hsz : lz.length = 77 := hin.size
          have hdf : df = [] := hin.dfr
          have HG2 := Lib.hid hin.g
          clear hin
          subst hdf
          have hs7 : v6 = .bool true := hs6
          subst hs7
          clear hs6
          dsimp only at hv6
          iterate 77 (obtain ⟨_, t, e, h2⟩ := listG_cons hsz; clear hsz; subst e; have hsz := h2; clear h2)
          have e0 := List.eq_nil_of_length_eq_zero hsz
          clear hsz
          subst e0
          simp only [List.getElem?_toArray, List.getElem?_cons_zero, List.getElem?_cons_succ, Option.some.injEq] at hv6
          subst hv6
          go_wp2
          go_ret
          exact ⟨rfl, HG2.out.1.bel⟩
    obtain ⟨hp1, hp2⟩ := hpos
    obtain ⟨g, rfl, hgb, hgl, hn, hncap, hfr⟩ := ovown_at HOWN.out hp1
    obtain ⟨kn, rfl⟩ : ∃ kn : Nat, k = (kn : Int) := ⟨k.toNat, by omega⟩
    obtain ⟨n, hne⟩ : ∃ n, n = l9.length := ⟨_, rfl⟩
    obtain ⟨i, hi⟩ : ∃ i, i = kn % n := ⟨_, rfl⟩
    obtain ⟨q, hq⟩ : ∃ q, q = kn / n := ⟨_, rfl⟩
    obtain ⟨m, hm⟩ : ∃ m, m = q % 3 := ⟨_, rfl⟩
    have hil : i < l9.length := by rw [hi, ← hne]; exact Nat.mod_lt _ (by omega)
    have hqk : q ≤ kn := by rw [hq]; exact Nat.div_le_self _ _
    have hm3 : m < 3 := by rw [hm]; exact Nat.mod_lt _ (by decide)
    have t1 : Int.tmod (kn : Int) (l9.length : Int) = (i : Int) := by rw [← hne, Int.tmod_eq_emod_of_nonneg (by omega), hi]; rfl
    have t2 : Int.tdiv (kn : Int) (l9.length : Int) = (q : Int) := by rw [← hne, Int.tdiv_eq_ediv_of_nonneg (by omega), hq]; rfl
    have t3 : Int.tmod (q : Int) 3 = (m : Int) := by rw [Int.tmod_eq_emod_of_nonneg (by omega), hm]; rfl
    have t4 : IntKind.i64.wrap (i : Int) = (i : Int) := IntWalk.i64_in _ (by omega)
    have t5 : IntKind.i64.wrap (q : Int) = (q : Int) := IntWalk.i64_in _ (by omega)
    have t6 : IntKind.i64.wrap (m : Int) = (m : Int) := IntWalk.i64_in _ (by omega)
    have t7 : ¬ l9 = [] := by intro e; rw [e] at hp1; simp at hp1
    have t8 : ¬ (l9.length : Int) = 0 := by omega
    have e1 : (0 : Int) < (l9.length : Int) := by omega
    have e2 : (0 : Int) ≤ (kn : Int) := by omega
    have i1 : (0 : Int) ≤ (i : Int) := by omega
    have i2 : (i : Int) < (l9.length : Int) := by omega
    have hgx : w.heap.size + 1 < g := by have := HX3.out.bel.size; have := HX3.out.xb.lt; omega
    obtain ⟨y0, y1, y2, y3, y4, y5⟩ := HLB.out.xcells
    dsimp only at y0 y1 y2 y3 y4 y5
    obtain ⟨b9, o9, e9, _, z0, z1, z2, z3, z4, z5⟩ := ov_at HFA.out (k := i) hil
    obtain ⟨rfl, rfl⟩ : g = b9 ∧ o9 = 0 := by injection e9 with e9; injection e9 with h8 h7; exact ⟨h8, h7.symm⟩
    simp only [Nat.zero_add] at z0 z1 z2 z3 z4 z5
    obtain ⟨⟨⟨r0, r1, r2, r3, r4⟩, rv⟩, hr⟩ : ∃ x, x = l9[i] := ⟨_, rfl⟩
    simp only [← hr] at z0 z1 z2 z3 z4 z5
    clear hr e9
    have f0 := hfr (i * 6)
    have f1 := hfr (i * 6 + 1)
    have f2 := hfr (i * 6 + 2)
    have f3 := hfr (i * 6 + 3)
    have f4 := hfr (i * 6 + 4)
    have f5 := hfr (i * 6 + 5)
    clear hfr hqk hi hq hm hne hn
    by_cases hm0 : m = 0
    · have e3 : ((m : Int) == 0) = true := by rw [hm0]; rfl
      have hput := ovown_put HOWN.out hil (j := 5) (by decide) (.int .i64 vv) ⟨l9[i].st, vv⟩ rfl
      have hlb := HLB.out.set hgx (i * 6 + 5) (.int .i64 vv)
      have hlen2 : (l9.set i ⟨l9[i].st, vv⟩).length ≤ 1000000000000 := by rw [List.length_set]; omega
      have htw := tabW_set HFW.out (i := i) (x := ⟨l9[i].st, vv⟩) ⟨(HFW.out _ (List.getElem_mem hil)).1, HX1.out.2⟩
      have hsl := (OwnSl.sl elOv_good hput).keep elOv_good (G := (· < (w3.setCell ⟨g, i * 6 + 5, none⟩ (.int .i64 vv)).heap.size)) (Same.refl _ _) fun b h => h.2
      have HLB := Lib.hid hlb
      have HFA := Lib.hid hsl
      have HFW := Lib.hid htw
      have HFN := Lib.hid hlen2
      clear hput hlb hlen2 htw hsl hm0 hlen hp1 hp2 hm3 hgl hgb hncap hgx
      go_wp2
      refine wp_region_freeG (by kernel_rfl : _ = loOps) (by kernel_rfl) (lo_free c (.slice A c.mdl.bats.length ca) (.slice A1 c.mdl.bows.length ca1) (.slice A2 c.bows.length ca2) (.slice A3 c.ord.length ca3) (.slice (some ⟨g, 0, none⟩) l9.length cp9) p0 p1 p2 p3 p4 vv _ _ w (w3.setCell ⟨g, i * 6 + 5, none⟩ (.int .i64 vv)) (fun W' hW' => KACC.out _ _ W' (HLB.out.below hW').bel (HFA.out.keep elOv_good (Same.of_below hW') fun b h => Nat.lt_of_lt_of_le h hW'.size) HFN.out HFW.out) (fun W' hW' => KREF.out _ _ W' (HLB.out.below hW').bel (HFA.out.keep elOv_good (Same.of_below hW') fun b h => Nat.lt_of_lt_of_le h hW'.size) HFN.out HFW.out) (fun W' hW' u hu => KACC.out u _ W' (HLB.out.below hW').bel hu (by simp) HXW.out) (fun W' hW' u hu => KREF.out u _ W' (HLB.out.below hW').bel hu (by simp) HXW.out)) (of_decide_eq_true (by kernel_rfl)) ⟨HLB.out, Below.refl _ _⟩ (fun d hd => ?_) ?_
      · simp only [List.mem_cons, List.not_mem_nil, or_false] at hd
        rcases hd with rfl | rfl | rfl
        · exact ⟨_, rfl, rfl⟩
        · exact ⟨_, rfl, rfl⟩
        · exact ⟨_, rfl, rfl⟩
      · rintro ⟨⟨lz⟩, df⟩ wx hin
        obtain ⟨v6, hv6, hs6⟩ := hin.atG 18 6 (by kernel_rfl)
        have hsz : lz.length = 77 := hin.size
        have hdf : df = [] := hin.dfr
        have HG2 := Lib.hid hin.g
        clear hin
        subst hdf
        have hs7 : v6 = .bool true := hs6
        subst hs7
        clear hs6
        dsimp only at hv6
        iterate 77 (obtain ⟨_, t, e, h2⟩ := listG_cons hsz; clear hsz; subst e; have hsz := h2; clear h2)
        have e0 := List.eq_nil_of_length_eq_zero hsz
        clear hsz
        subst e0
        simp only [List.getElem?_toArray, List.getElem?_cons_zero, List.getElem?_cons_succ, Option.some.injEq] at hv6
        subst hv6
        go_wp2
        go_ret
        exact ⟨rfl, HG2.out.1.bel⟩
    by_cases hm1 : m = 1
    · have e3 : ((m : Int) == 0) = false := by rw [hm1]; rfl
      have e4 : ((m : Int) == 1) = true := by rw [hm1]; rfl
      have hput := ovown_put6 HOWN.out hil p0 p1 p2 p3 p4 vv
      have hlb := (((((HLB.out.set hgx (i * 6) (.int .i64 p0)).set hgx (i * 6 + 1) (.int .i64 p1)).set hgx (i * 6 + 2) (.int .i64 p2)).set hgx (i * 6 + 3) (.int .i64 p3)).set hgx (i * 6 + 4) (.int .u16 p4)).set hgx (i * 6 + 5) (.int .i64 vv)
      have hlen2 : (l9.set i ⟨⟨p0, p1, p2, p3, p4⟩, vv⟩).length ≤ 1000000000000 := by rw [List.length_set]; omega
      have htw := tabW_set HFW.out (i := i) (x := ⟨⟨p0, p1, p2, p3, p4⟩, vv⟩) HX1.out
      obtain ⟨W6, hW6⟩ : ∃ W6, W6 = (((((w3.setCell ⟨g, i * 6, none⟩ (.int .i64 p0)).setCell ⟨g, i * 6 + 1, none⟩ (.int .i64 p1)).setCell ⟨g, i * 6 + 2, none⟩ (.int .i64 p2)).setCell ⟨g, i * 6 + 3, none⟩ (.int .i64 p3)).setCell ⟨g, i * 6 + 4, none⟩ (.int .u16 p4)).setCell ⟨g, i * 6 + 5, none⟩ (.int .i64 vv) := ⟨_, rfl⟩
      have hsl := (OwnSl.sl elOv_good hput).keep elOv_good (G := (· < ((((((w3.setCell ⟨g, i * 6, none⟩ (.int .i64 p0)).setCell ⟨g, i * 6 + 1, none⟩ (.int .i64 p1)).setCell ⟨g, i * 6 + 2, none⟩ (.int .i64 p2)).setCell ⟨g, i * 6 + 3, none⟩ (.int .i64 p3)).setCell ⟨g, i * 6 + 4, none⟩ (.int .u16 p4)).setCell ⟨g, i * 6 + 5, none⟩ (.int .i64 vv)).heap.size)) (Same.refl _ _) fun b h => h.2
      have HLB := Lib.hid hlb
      have HFA := Lib.hid hsl
      have HFW := Lib.hid htw
      have HFN := Lib.hid hlen2
      clear hput hlb hlen2 htw hsl hm0 hm1 hlen hp1 hp2 hil hm3 hgl hgb hncap hgx W6 hW6
      go_wp2
      refine wp_region_freeG (by kernel_rfl : _ = loOps) (by kernel_rfl) (lo_free c (.slice A c.mdl.bats.length ca) (.slice A1 c.mdl.bows.length ca1) (.slice A2 c.bows.length ca2) (.slice A3 c.ord.length ca3) (.slice (some ⟨g, 0, none⟩) l9.length cp9) p0 p1 p2 p3 p4 vv _ _ w ((((((w3.setCell ⟨g, i * 6, none⟩ (.int .i64 p0)).setCell ⟨g, i * 6 + 1, none⟩ (.int .i64 p1)).setCell ⟨g, i * 6 + 2, none⟩ (.int .i64 p2)).setCell ⟨g, i * 6 + 3, none⟩ (.int .i64 p3)).setCell ⟨g, i * 6 + 4, none⟩ (.int .u16 p4)).setCell ⟨g, i * 6 + 5, none⟩ (.int .i64 vv)) (fun W' hW' => KACC.out _ _ W' (HLB.out.below hW').bel (HFA.out.keep elOv_good (Same.of_below hW') fun b h => Nat.lt_of_lt_of_le h hW'.size) HFN.out HFW.out) (fun W' hW' => KREF.out _ _ W' (HLB.out.below hW').bel (HFA.out.keep elOv_good (Same.of_below hW') fun b h => Nat.lt_of_lt_of_le h hW'.size) HFN.out HFW.out) (fun W' hW' u hu => KACC.out u _ W' (HLB.out.below hW').bel hu (by simp) HXW.out) (fun W' hW' u hu => KREF.out u _ W' (HLB.out.below hW').bel hu (by simp) HXW.out)) (of_decide_eq_true (by kernel_rfl)) ⟨HLB.out, Below.refl _ _⟩ (fun d hd => ?_) ?_
      · simp only [List.mem_cons, List.not_mem_nil, or_false] at hd
        rcases hd with rfl | rfl | rfl
        · exact ⟨_, rfl, rfl⟩
        · exact ⟨_, rfl, rfl⟩
        · exact ⟨_, rfl, rfl⟩
      · rintro ⟨⟨lz⟩, df⟩ wx hin
        obtain ⟨v6, hv6, hs6⟩ := hin.atG 18 6 (by kernel_rfl)
        have hsz : lz.length = 77 := hin.size
        have hdf : df = [] := hin.dfr
        have HG2 := Lib.hid hin.g
        clear hin
        subst hdf
        have hs7 : v6 = .bool true := hs6
        subst hs7
        clear hs6
        dsimp only at hv6
        iterate 77 (obtain ⟨_, t, e, h2⟩ := listG_cons hsz; clear hsz; subst e; have hsz := h2; clear h2)
        have e0 := List.eq_nil_of_length_eq_zero hsz
        clear hsz
        subst e0
        simp only [List.getElem?_toArray, List.getElem?_cons_zero, List.getElem?_cons_succ, Option.some.injEq] at hv6
        subst hv6
        go_wp2
        go_ret
        exact ⟨rfl, HG2.out.1.bel⟩
    have e3 : ((m : Int) == 0) = false := by simp; omega
    have e4 : ((m : Int) == 1) = false := by simp; omega
    have hslD : Sl 6 elOv w3.drew (· < w3.drew.heap.size) (.slice (some ⟨g, 0, none⟩) l9.length cp9) l9 := HFA.out.keep elOv_good (Same.refl _ _) fun b h => h
    obtain ⟨o2, ho2⟩ : ∃ o2, o2 = if cp9 = i + 1 then 0 else 0 + (i + 1) * 6 := ⟨_, rfl⟩
    have hrest := hslD.rest (k := i + 1) (by omega)
    rw [← ho2] at hrest
    have hll : (l9.take i).length + (l9.drop (i + 1)).length ≤ l9.length := by rw [List.length_take, List.length_drop]; omega
    obtain ⟨Ac, nc, cc, wc, hrun, hbc, hslc⟩ := cut_append E_ov elOv_good elOv_free elOv_one (fun _ _ _ _ _ h => h) (hslD.full (i := i) (by omega)) hrest (fun b h => h) (by simp only [maxLen]; omega) (by omega) 49
    have hif : (if cp9 = i + 1 then (some ⟨g, 0, none⟩ : Option Addr) else some ⟨g, (i + 1) * 6, none⟩) = some ⟨g, o2, none⟩ := by rw [ho2]; split <;> simp
    have HRUN := Lib.hid hrun
    have HLB := Lib.hid (HLB.out.below ((Below.drew (Below.refl w3.heap.size w3)).trans hbc))
    have HFW := Lib.hid (tabW_cut HFW.out i)
    have HFN := Lib.hid (show (l9.take i ++ l9.drop (i + 1)).length ≤ 1000000000000 by rw [List.length_append]; omega)
    have HFA := Lib.hid hslc
    have i3 : (i : Int) ≤ (cp9 : Int) := by omega
    have i4 : IntKind.i64.wrap ((i : Int) + 1) = (i : Int) + 1 := IntWalk.i64_in _ (by omega)
    have i5 : (0 : Int) ≤ (i : Int) + 1 := by omega
    have i6 : (i : Int) + 1 ≤ (l9.length : Int) := by omega
    have i7 : ((i : Int) + 1).toNat = i + 1 := by omega
    clear hslD hrest ho2 hll hrun hbc hslc hm0 hm1 hlen hp1 hp2 hil hm3 hgl hgb hncap hgx f0 f1 f2 f3 f4 f5 z0 z1 z2 z3 z4 z5
    go_wp2
    go_region_held3 (fun w' => True) (trivial) (refine step_append_run rfl (.tmp 39) (.tmp 43) _ rfl _ _ rfl rfl _ _ HRUN.out ?_)
    all_goals go_wp2
    refine wp_region_freeG (by kernel_rfl : _ = loOps) (by kernel_rfl) (lo_free c (.slice A c.mdl.bats.length ca) (.slice A1 c.mdl.bows.length ca1) (.slice A2 c.bows.length ca2) (.slice A3 c.ord.length ca3) (.slice Ac nc cc) p0 p1 p2 p3 p4 vv _ _ w wc (fun W' hW' => KACC.out _ _ W' (HLB.out.below hW').bel (HFA.out.keep elOv_good (Same.of_below hW') fun b h => Nat.lt_of_lt_of_le h hW'.size) HFN.out HFW.out) (fun W' hW' => KREF.out _ _ W' (HLB.out.below hW').bel (HFA.out.keep elOv_good (Same.of_below hW') fun b h => Nat.lt_of_lt_of_le h hW'.size) HFN.out HFW.out) (fun W' hW' u hu => KACC.out u _ W' (HLB.out.below hW').bel hu (by simp) HXW.out) (fun W' hW' u hu => KREF.out u _ W' (HLB.out.below hW').bel hu (by simp) HXW.out)) (of_decide_eq_true (by kernel_rfl)) ⟨HLB.out, Below.refl _ _⟩ (fun d hd => ?_) ?_
    · simp only [List.mem_cons, List.not_mem_nil, or_false] at hd
      rcases hd with rfl | rfl | rfl
      · exact ⟨_, rfl, rfl⟩
      · exact ⟨_, rfl, rfl⟩
      · exact ⟨_, rfl, rfl⟩
    · rintro ⟨⟨lz⟩, df⟩ wx hin
      obtain ⟨v6, hv6, hs6⟩ := hin.atG 18 6 (by kernel_rfl)
      have hsz : lz.length = 77 := hin.size
      have hdf : df = [] := hin.dfr
      have HG2 := Lib.hid hin.g
      clear hin
      subst hdf
      have hs7 : v6 = .bool true := hs6
      subst hs7
      clear hs6
      dsimp only at hv6
      iterate 77 (obtain ⟨_, t, e, h2⟩ := listG_cons hsz; clear hsz; subst e; have hsz := h2; clear h2)
      have e0 := List.eq_nil_of_length_eq_zero hsz
      clear hsz
      subst e0
      simp only [List.getElem?_toArray, List.getElem?_cons_zero, List.getElem?_cons_succ, Option.some.injEq] at hv6
      subst hv6
      go_wp2
      go_ret
      exact ⟨rfl, HG2.out.1.bel⟩
end Go.Proofs.YtdlmmbfnmnglaaaGreatDoor
