/- Several texts of this family in one: Y10 J10 Y11 V12 V13, what a table is accepted by, FD V40 V41 V42 V43 V44. -/
import Derived.Test.YtdlmmbfnmnglaaaGreatDoorGA6
import Derived.Test.YtdlmmbfnmnglaaaGreatDoorGA2
import Derived.Test.YtdlmmbfnmnglaaaGreatDoorGA1
import Derived.Test.YtdlmmbfnmnglaaaGreatDoorGA4
import Derived.Sort.Grow
import Derived.Deep.Draws
import Derived.Test.YtdlmmbfnmnglaaaGreatDoorSortO
import Derived.RangeFuncNested
import Derived.RangeFuncBound
import Derived.RangeFuncCalls
import Derived.RangeFuncLeaves
import Derived.RangeFuncBox
import Derived.Shelf.Abstract
import Derived.Shelf.RegionOpen
import Derived.WalkKit
import Derived.OwnWalkIn
import Derived.TacticsInMore
import Derived.LoopNIn
import Derived.LoopIn
import Derived.Sort.MapsRangeIn
import Derived.Maps.AppendAt
set_option linter.unusedSimpArgs false
set_option linter.unusedVariables false
namespace Go.Proofs.YtdlmmbfnmnglaaaGreatDoor
open Go.RowKit Go.Maps

theorem small44_drop {l : List Bat} {k : Nat} (hk : k < l.length) : (l.drop k).all (fun b => decide (b.dist.length ≤ 100)) = (decide (l[k].dist.length ≤ 100) && (l.drop (k + 1)).all (fun b => decide (b.dist.length ≤ 100))) := by
  rw [drop_get hk, List.all_cons]
end Go.Proofs.YtdlmmbfnmnglaaaGreatDoor

namespace Go.Proofs.YtdlmmbfnmnglaaaGreatDoor
open Go.RowKit

theorem itoa_dig3 (n : Nat) (h : n < 10) : Lib.itoa (n : Int) = [UInt8.ofNat (48 + n)] := by
  unfold Lib.itoa
  rw [if_neg (by omega), Int.toNat_natCast, Lib.decDigits, dif_pos h]
theorem otcW_dig3 (r t : Nat) (b : Bool) (hr : r < 10) (ht : t < 10) : otcW ⟨(r : Int), b, (t : Int)⟩ = UInt8.ofNat (48 + r) :: ((if b = true then [87] else []) ++ [58, UInt8.ofNat (48 + t)]) := by
  unfold otcW
  simp only
  rw [itoa_dig3 r hr, itoa_dig3 t ht]
  simp
theorem dec_two (n : Nat) (h : 10 ≤ n) (h2 : n < 100) : Lib.itoa (n : Int) = [UInt8.ofNat (48 + n / 10), UInt8.ofNat (48 + n % 10)] := by
  unfold Lib.itoa
  rw [if_neg (by omega), Int.toNat_natCast, Lib.decDigits, dif_neg (by omega), Lib.decDigits, dif_pos (by omega)]
  rfl
theorem otcW_dig2 (r t : Nat) (b : Bool) (hr : r < 10) (h : 10 ≤ t) (ht : t < 100) : otcW ⟨(r : Int), b, (t : Int)⟩ = UInt8.ofNat (48 + r) :: ((if b = true then [87] else []) ++ [58, UInt8.ofNat (48 + t / 10), UInt8.ofNat (48 + t % 10)]) := by
  unfold otcW
  simp only
  rw [itoa_dig3 r hr, dec_two t h ht]
  simp
def exmM1d : List Otc := [⟨0, false, 8⟩, ⟨1, false, 4⟩, ⟨4, false, 4⟩]
end Go.Proofs.YtdlmmbfnmnglaaaGreatDoor

namespace Go.Proofs.YtdlmmbfnmnglaaaGreatDoor
open Go.RowKit

theorem bows_lit (W : World) (x : List UInt8) (n : Int) (hx : x.length ≤ maxLen) :
    Sl 2 elBow (W.alloc (.cells #[.string (S x), .int .i64 n] 62)) (· < (W.alloc (.cells #[.string (S x), .int .i64 n] 62)).heap.size) (.slice (some ⟨W.heap.size, 0, none⟩) 1 1) [⟨x, n⟩] := by
  have hk := Blk.new W 62 #[.string (S x), .int .i64 n]
  refine ⟨_, 1, rfl, Nat.le_refl _, by decide, fun h0 => ⟨W.heap.size, 0, rfl, by simp, fun i a hi => ?_⟩⟩
  have hlt := (List.getElem?_eq_some_iff.1 hi).1
  obtain rfl : i = 0 := by simp at hlt; omega
  simp at hi; subst hi
  refine ⟨[.string (S x), .int .i64 n], rfl, fun j u hu => ?_, rfl, hx⟩
  have hj : j = 0 ∨ j = 1 := by have := (List.getElem?_eq_some_iff.1 hu).1; simp at this; omega
  rcases hj with rfl | rfl
  · simp at hu; subst hu; exact hk.cell 0
  · simp at hu; subst hu; exact hk.cell 1
theorem ints_one (W : World) (a : Int) (e : TypeId) : Sl 1 elInt (W.alloc (.cells #[.int .i64 a] e)) (· < (W.alloc (.cells #[.int .i64 a] e)).heap.size) (.slice (some ⟨W.heap.size, 0, none⟩) 1 1) [a] := by
  have hk := Blk.new W e #[.int .i64 a]
  refine ⟨_, 1, rfl, Nat.le_refl _, by decide, fun h0 => ⟨W.heap.size, 0, rfl, by simp, fun i b hi => ?_⟩⟩
  have hlt := (List.getElem?_eq_some_iff.1 hi).1
  obtain rfl : i = 0 := by simp at hlt; omega
  simp at hi; subst hi
  refine ⟨[.int .i64 a], rfl, fun j u hu => ?_, rfl⟩
  obtain rfl : j = 0 := by have := (List.getElem?_eq_some_iff.1 hu).1; simp at this; omega
  simp at hu; subst hu; exact hk.cell 0
def chM : Mdl := ⟨[⟨[65], exmM1d⟩, ⟨[66], exmM1d⟩], [⟨[67], 0⟩]⟩
def ch1 : Chs := ⟨chM, [0], 6, 0, 2, [0, 1]⟩
/-- The first chase laid, in a world that has gone on. -/
structure AwI (w1 W : World) : Prop where
  bel : Below w1.heap.size w1 W
  ch : ChAt W (· < w1.heap.size + 1 + 1 + 1 + 1 + 1) (.slice (some ⟨w1.heap.size, 0, none⟩) 2 2) (.slice (some ⟨w1.heap.size + 1, 0, none⟩) 1 1) (.slice (some ⟨w1.heap.size + 1 + 1 + 1, 0, none⟩) 1 1) (.slice (some ⟨w1.heap.size + 1 + 1 + 1 + 1, 0, none⟩) 2 2) ch1
  blk : Blk W (w1.heap.size + 1 + 1 + 1 + 1 + 1) 28 #[.slice (some ⟨w1.heap.size, 0, none⟩) 2 2, .slice (some ⟨w1.heap.size + 1, 0, none⟩) 1 1, .slice (some ⟨w1.heap.size + 1 + 1 + 1, 0, none⟩) 1 1, .int .i64 6, .int .i64 0, .int .i64 2, .slice (some ⟨w1.heap.size + 1 + 1 + 1 + 1, 0, none⟩) 2 2]
theorem AwI.below {w1 W W' : World} (h : AwI w1 W) (hb : Below W.heap.size W W') : AwI w1 W' :=
  ⟨h.bel.trans (hb.mono h.bel.size), h.ch.keep (Same.below hb fun b hb => Nat.lt_trans hb h.blk.lt) fun b hb => hb, h.blk.below hb h.blk.lt⟩
theorem AwI.in {w1 W : World} (h : AwI w1 W) : ChAt W (· < W.heap.size) (.slice (some ⟨w1.heap.size, 0, none⟩) 2 2) (.slice (some ⟨w1.heap.size + 1, 0, none⟩) 1 1) (.slice (some ⟨w1.heap.size + 1 + 1 + 1, 0, none⟩) 1 1) (.slice (some ⟨w1.heap.size + 1 + 1 + 1 + 1, 0, none⟩) 2 2) ch1 := h.ch.keep (Same.refl _ _) fun b hb => Nat.lt_trans hb h.blk.lt
theorem AwI.cells {w1 W : World} (h : AwI w1 W) (k : Nat) (u : Value) (hk : #[Value.slice (some ⟨w1.heap.size, 0, none⟩) 2 2, .slice (some ⟨w1.heap.size + 1, 0, none⟩) 1 1, .slice (some ⟨w1.heap.size + 1 + 1 + 1, 0, none⟩) 1 1, .int .i64 6, .int .i64 0, .int .i64 2, .slice (some ⟨w1.heap.size + 1 + 1 + 1 + 1, 0, none⟩) 2 2][k]? = some u) : W.cell? ⟨w1.heap.size + 1 + 1 + 1 + 1 + 1, k, none⟩ = some u := (h.blk.cell k).trans hk
theorem Sl.up {α : Type} {size : Nat} {R : World → (Nat → Prop) → List Value → α → Prop} (hR : Good R) {W W' : World} {n m : Nat} {v : Value} {l : List α} (h : Sl size R W (· < W.heap.size) v l) (hb : Below W.heap.size W W') (hn : W.heap.size ≤ m) : Sl size R W' (· < m) v l :=
  h.keep hR (Same.of_below hb) fun b hb => Nat.lt_of_lt_of_le hb hn
end Go.Proofs.YtdlmmbfnmnglaaaGreatDoor

namespace Go.Proofs.YtdlmmbfnmnglaaaGreatDoor
open Go.RowKit

def exO1 : List UInt8 := [48, 58, 56, 32, 52, 58, 56]
def exO1d : List Otc := [⟨0, false, 8⟩, ⟨4, false, 8⟩]
def exO2 : List UInt8 := [48, 58, 49, 54]
def exO2d : List Otc := [⟨0, false, 16⟩]
theorem exO1_text : textC exO1d = (exO1, 0) := by
  have h0 : checkD exO1d = 0 := by kernel_rfl
  have e0 := otcW_dig3 0 8 false (by omega) (by omega)
  have e1 := otcW_dig3 4 8 false (by omega) (by omega)
  unfold textC
  rw [if_neg (fun k => k h0)]
  show (Lib.join [otcW ⟨((0 : Nat) : Int), false, ((8 : Nat) : Int)⟩, otcW ⟨((4 : Nat) : Int), false, ((8 : Nat) : Int)⟩] [32], (0 : Int)) = _
  rw [e0, e1]
  kernel_rfl
theorem exO2_text : textC exO2d = (exO2, 0) := by
  have h0 : checkD exO2d = 0 := by kernel_rfl
  have e0 := otcW_dig2 0 16 false (by omega) (by omega) (by omega)
  unfold textC
  rw [if_neg (fun k => k h0)]
  show (Lib.join [otcW ⟨((0 : Nat) : Int), false, ((16 : Nat) : Int)⟩] [32], (0 : Int)) = _
  rw [e0]
  kernel_rfl
theorem exO1_parse : parseC exO1 = (exO1d, 0) := by
  have h1 : (pieces 32 exO1).all pieceOk = true := by kernel_rfl
  have h2 : (pieces 32 exO1).map pieceO = exO1d := by kernel_rfl
  unfold parseC
  rw [h1, if_neg (by simp), h2, exO1_text, if_neg (by simp)]
theorem exO2_parse : parseC exO2 = (exO2d, 0) := by
  have h1 : (pieces 32 exO2).all pieceOk = true := by kernel_rfl
  have h2 : (pieces 32 exO2).map pieceO = exO2d := by kernel_rfl
  unfold parseC
  rw [h1, if_neg (by simp), h2, exO2_text, if_neg (by simp)]
theorem bats_lit3 (W : World) (v u : Value) (d z : List Otc) (a b c : List UInt8) (hv : Sl 3 elOtc W (· < W.heap.size) v d) (hu : Sl 3 elOtc W (· < W.heap.size) u z) (ha : a.length ≤ maxLen) (hb : b.length ≤ maxLen) (hc : c.length ≤ maxLen) :
    Sl 2 elBat (W.alloc (.cells #[.string (S a), v, .string (S b), u, .string (S c), u] 60)) (· < (W.alloc (.cells #[.string (S a), v, .string (S b), u, .string (S c), u] 60)).heap.size) (.slice (some ⟨W.heap.size, 0, none⟩) 3 3) [⟨a, d⟩, ⟨b, z⟩, ⟨c, z⟩] := by
  have hk := Blk.new W 60 #[.string (S a), v, .string (S b), u, .string (S c), u]
  have hbb : Below W.heap.size W (W.alloc (.cells #[.string (S a), v, .string (S b), u, .string (S c), u] 60)) := Below.alloc (Below.refl _ _) (Nat.le_refl _) _
  have hv2 := hv.keep (G := (· < (W.alloc (.cells #[.string (S a), v, .string (S b), u, .string (S c), u] 60)).heap.size)) elOtc_good (Same.of_below hbb) fun b h => Nat.lt_of_lt_of_le h hbb.size
  have hu2 := hu.keep (G := (· < (W.alloc (.cells #[.string (S a), v, .string (S b), u, .string (S c), u] 60)).heap.size)) elOtc_good (Same.of_below hbb) fun b h => Nat.lt_of_lt_of_le h hbb.size
  have two : ∀ {x y : Value} {j : Nat} {q : Value}, [x, y][j]? = some q → (j = 0 ∧ q = x) ∨ (j = 1 ∧ q = y) := fun {x y j q} h => by
    have hj : j = 0 ∨ j = 1 := by have := (List.getElem?_eq_some_iff.1 h).1; simp at this; omega
    rcases hj with rfl | rfl
    · simp at h; exact .inl ⟨rfl, h.symm⟩
    · simp at h; exact .inr ⟨rfl, h.symm⟩
  refine ⟨_, 3, rfl, Nat.le_refl _, by decide, fun h0 => ⟨W.heap.size, 0, rfl, by simp, fun i x hi => ?_⟩⟩
  have hlt := (List.getElem?_eq_some_iff.1 hi).1
  have hcs : i = 0 ∨ i = 1 ∨ i = 2 := by simp at hlt; omega
  rcases hcs with rfl | rfl | rfl
  · simp at hi; subst hi
    refine ⟨[.string (S a), v], rfl, fun j q hq => ?_, ⟨_, rfl, hv2⟩, ha⟩
    rcases two hq with ⟨rfl, rfl⟩ | ⟨rfl, rfl⟩
    · exact hk.cell 0
    · exact hk.cell 1
  · simp at hi; subst hi
    refine ⟨[.string (S b), u], rfl, fun j q hq => ?_, ⟨_, rfl, hu2⟩, hb⟩
    rcases two hq with ⟨rfl, rfl⟩ | ⟨rfl, rfl⟩
    · exact hk.cell 2
    · exact hk.cell 3
  · simp at hi; subst hi
    refine ⟨[.string (S c), u], rfl, fun j q hq => ?_, ⟨_, rfl, hu2⟩, hc⟩
    rcases two hq with ⟨rfl, rfl⟩ | ⟨rfl, rfl⟩
    · exact hk.cell 4
    · exact hk.cell 5
theorem ints_three (W : World) (a b c : Int) (e : TypeId) : Sl 1 elInt (W.alloc (.cells #[.int .i64 a, .int .i64 b, .int .i64 c] e)) (· < (W.alloc (.cells #[.int .i64 a, .int .i64 b, .int .i64 c] e)).heap.size) (.slice (some ⟨W.heap.size, 0, none⟩) 3 3) [a, b, c] := by
  have hk := Blk.new W e #[.int .i64 a, .int .i64 b, .int .i64 c]
  refine ⟨_, 3, rfl, Nat.le_refl _, by decide, fun h0 => ⟨W.heap.size, 0, rfl, by simp, fun i x hi => ?_⟩⟩
  have hlt := (List.getElem?_eq_some_iff.1 hi).1
  have hc : i = 0 ∨ i = 1 ∨ i = 2 := by simp at hlt; omega
  have one : ∀ {y : Value} {j : Nat} {q : Value}, [y][j]? = some q → j = 0 ∧ q = y := fun {y j q} h => by
    obtain rfl : j = 0 := by have := (List.getElem?_eq_some_iff.1 h).1; simp at this; exact this
    simp at h; exact ⟨rfl, h.symm⟩
  rcases hc with rfl | rfl | rfl
  · simp at hi; subst hi
    refine ⟨[.int .i64 a], rfl, fun j u hu => ?_, rfl⟩
    obtain ⟨rfl, rfl⟩ := one hu
    exact hk.cell 0
  · simp at hi; subst hi
    refine ⟨[.int .i64 b], rfl, fun j u hu => ?_, rfl⟩
    obtain ⟨rfl, rfl⟩ := one hu
    exact hk.cell 1
  · simp at hi; subst hi
    refine ⟨[.int .i64 c], rfl, fun j u hu => ?_, rfl⟩
    obtain ⟨rfl, rfl⟩ := one hu
    exact hk.cell 2
def chM3 : Mdl := ⟨[⟨[65], exO1d⟩, ⟨[66], exO2d⟩, ⟨[67], exO2d⟩], [⟨[88], 0⟩]⟩
def ch45 : Chs := ⟨chM3, [0], 6, 0, 4, [0, 1, 2]⟩
theorem ch45_best : bestOS ch45 = ((0, 1), 8, 0) := by kernel_rfl
def awW5 (w1 : World) (v u : Value) : World :=
  ((((w1.alloc (.cells #[.string (S [65]), v, .string (S [66]), u, .string (S [67]), u] 60)).alloc (.cells #[.string (S [88]), .int .i64 0] 62)).alloc (.cells #[.slice (some ⟨w1.heap.size, 0, none⟩) 3 3, .slice (some ⟨w1.heap.size + 1, 0, none⟩) 1 1] 25)).alloc (.cells #[.int .i64 0] 3)).alloc (.cells #[.int .i64 0, .int .i64 1, .int .i64 2] 3)
theorem aw45 (w1 : World) (v u : Value) (h : Sl 3 elOtc w1 (· < w1.heap.size) v exO1d) (hu : Sl 3 elOtc w1 (· < w1.heap.size) u exO2d) : Below w1.heap.size w1 (awW5 w1 v u) ∧ ChAt (awW5 w1 v u) (· < (awW5 w1 v u).heap.size) (.slice (some ⟨w1.heap.size, 0, none⟩) 3 3) (.slice (some ⟨w1.heap.size + 1, 0, none⟩) 1 1) (.slice (some ⟨w1.heap.size + 1 + 1 + 1, 0, none⟩) 1 1) (.slice (some ⟨w1.heap.size + 1 + 1 + 1 + 1, 0, none⟩) 3 3) ch45 := by
  unfold awW5
  have s1 := bats_lit3 w1 v u exO1d exO2d [65] [66] [67] h hu (by decide) (by decide) (by decide)
  obtain ⟨W1, hW1⟩ : ∃ W, W = w1.alloc (.cells #[.string (S [65]), v, .string (S [66]), u, .string (S [67]), u] 60) := ⟨_, rfl⟩
  have z1 : W1.heap.size = w1.heap.size + 1 := by rw [hW1]; simp
  have b1 : Below w1.heap.size w1 W1 := by rw [hW1]; exact Below.alloc (Below.refl _ _) (Nat.le_refl _) _
  rw [← hW1] at s1 ⊢
  have s2 := bows_lit W1 [88] 0 (by decide)
  rw [z1] at s2
  obtain ⟨W2, hW2⟩ : ∃ W, W = W1.alloc (.cells #[.string (S [88]), .int .i64 0] 62) := ⟨_, rfl⟩
  have z2 : W2.heap.size = w1.heap.size + 1 + 1 := by rw [hW2]; simp [z1]
  have b2 : Below W1.heap.size W1 W2 := by rw [hW2]; exact Below.alloc (Below.refl _ _) (Nat.le_refl _) _
  rw [← hW2] at s2 ⊢
  obtain ⟨W3, hW3⟩ : ∃ W, W = W2.alloc (.cells #[.slice (some ⟨w1.heap.size, 0, none⟩) 3 3, .slice (some ⟨w1.heap.size + 1, 0, none⟩) 1 1] 25) := ⟨_, rfl⟩
  have z3 : W3.heap.size = w1.heap.size + 1 + 1 + 1 := by rw [hW3]; simp [z2]
  have b3 : Below W2.heap.size W2 W3 := by rw [hW3]; exact Below.alloc (Below.refl _ _) (Nat.le_refl _) _
  rw [← hW3]
  have s4 := ints_one W3 0 3
  rw [z3] at s4
  obtain ⟨W4, hW4⟩ : ∃ W, W = W3.alloc (.cells #[.int .i64 0] 3) := ⟨_, rfl⟩
  have z4 : W4.heap.size = w1.heap.size + 1 + 1 + 1 + 1 := by rw [hW4]; simp [z3]
  have b4 : Below W3.heap.size W3 W4 := by rw [hW4]; exact Below.alloc (Below.refl _ _) (Nat.le_refl _) _
  rw [← hW4] at s4 ⊢
  have s5 := ints_three W4 0 1 2 3
  rw [z4] at s5
  obtain ⟨W5, hW5⟩ : ∃ W, W = W4.alloc (.cells #[.int .i64 0, .int .i64 1, .int .i64 2] 3) := ⟨_, rfl⟩
  have b5 : Below W4.heap.size W4 W5 := by rw [hW5]; exact Below.alloc (Below.refl _ _) (Nat.le_refl _) _
  rw [← hW5] at s5 ⊢
  have c4 := b5
  have c3 := b4.trans (c4.mono b4.size)
  have c2 := b3.trans (c3.mono b3.size)
  have c1 := b2.trans (c2.mono b2.size)
  exact ⟨b1.trans (c1.mono b1.size), ⟨⟨Sl.up elBat_good s1 c1 c1.size (n := 0), Sl.up elBow_good s2 c2 c2.size (n := 0)⟩, Sl.up elInt_good s4 c4 c4.size (n := 0), s5⟩⟩
set_option maxRecDepth 100000 in
set_option maxHeartbeats 2000000 in
theorem law45_awake (w : World) (hg : GlobN w) : Calls Tryz.prog 12 #[] w fun e w' => e = .returned (.bool true) ∧ Below w.heap.size w w' := by
  have k1 : Calls Tryz.prog 21 #[.string ⟨#[48, 58, 56, 32, 52, 58, 56]⟩] w fun e W' => ∃ A c, e = .returned (.tuple #[.slice A 2 c, .int .i64 0]) ∧ Sl 3 elOtc W' (· < W'.heap.size) (.slice A 2 c) exO1d ∧ Below w.heap.size w W' := by
    refine (ch_Parse (S exO1) w hg (by decide)).mono ?_
    rintro e W' ⟨v, rfl, hs, hb⟩
    rw [S_data, exO1_parse] at hs ⊢
    obtain ⟨A, c, rfl, _⟩ := hs.shape
    exact ⟨A, c, rfl, hs.keep elOtc_good (Same.refl _ _) fun _ h => h.2, hb⟩
  have k2 : ∀ W, Below w.heap.size w W → Calls Tryz.prog 21 #[.string ⟨#[48, 58, 49, 54]⟩] W fun e W' => ∃ A c, e = .returned (.tuple #[.slice A 1 c, .int .i64 0]) ∧ Sl 3 elOtc W' (· < W'.heap.size) (.slice A 1 c) exO2d ∧ Below W.heap.size W W' := fun W hW => by
    refine (ch_Parse (S exO2) W (hg.below hW) (by decide)).mono ?_
    rintro e W' ⟨v, rfl, hs, hb⟩
    rw [S_data, exO2_parse] at hs ⊢
    obtain ⟨A, c, rfl, _⟩ := hs.shape
    exact ⟨A, c, rfl, hs.keep elOtc_good (Same.refl _ _) fun _ h => h.2, hb⟩
  have k3 : ∀ (w1 : World) (v u : Value), Sl 3 elOtc w1 (· < w1.heap.size) v exO1d → Sl 3 elOtc w1 (· < w1.heap.size) u exO2d → Calls Tryz.prog 34 #[.agg #[.slice (some ⟨w1.heap.size, 0, none⟩) 3 3, .slice (some ⟨w1.heap.size + 1, 0, none⟩) 1 1, .slice (some ⟨w1.heap.size + 1 + 1 + 1, 0, none⟩) 1 1, .int .i64 6, .int .i64 0, .int .i64 4, .slice (some ⟨w1.heap.size + 1 + 1 + 1 + 1, 0, none⟩) 3 3]] (awW5 w1 v u) fun e W' => e = .returned (.tuple #[.agg #[.int .i64 0, .int .i64 1], .int .i64 8, .int .i64 0]) ∧ Below w1.heap.size w1 W' := fun w1 v u h1 h2 => by
    have h3 := aw45 w1 v u h1 h2
    have := or_Best ch45 _ _ _ _ _ h3.2
    rw [ch45_best] at this
    refine this.mono ?_
    rintro e W' ⟨rfl, hb⟩
    exact ⟨rfl, h3.1.trans (hb.mono h3.1.size)⟩
  have K1 := Lib.hid k1
  have K2 := Lib.hid k2
  have K3 := Lib.hid k3
  have tok0 : True := trivial
  clear k1 k2 k3 hg
  go_enter Tryz.func12, Tryz.ntmps12
  go_wp2_with (first
    | (clear tok0; go_at_call 21; ((with_reducible refine K1.out.mono ?_); rintro e w1 ⟨A1, c1, rfl, hs1, hb1⟩; have HS1 := Lib.hid hs1; have HB1 := Lib.hid hb1; clear hs1 hb1; have tok1 : True := trivial))
    | (clear tok1; go_at_call 21; ((with_reducible refine (K2.out _ HB1.out).mono ?_); rintro e w2 ⟨A2, c2, rfl, hs2, hb2⟩; have HS2 := Lib.hid hs2; have HS1' := Lib.hid (HS1.out.keep (G := (· < w2.heap.size)) elOtc_good (Same.of_below hb2) fun _ h => Nat.lt_of_lt_of_le h hb2.size); have HB2 := Lib.hid (HB1.out.trans (hb2.mono HB1.out.size)); clear hs2 hb2; have tok2 : True := trivial))
    | (clear tok2; go_at_call 34; refine (K3.out w2 _ _ HS1'.out HS2.out).mono ?_; rintro e w3 ⟨rfl, hb3⟩; have HB3 := Lib.hid (HB2.out.trans (hb3.mono HB2.out.size)); clear hb3; have tok3 : True := trivial))
  go_ret
  exact ⟨rfl, HB3.out.alloc HB3.out.size _⟩
end Go.Proofs.YtdlmmbfnmnglaaaGreatDoor

namespace Go.Proofs.YtdlmmbfnmnglaaaGreatDoor
open Go.RowKit

def bigT (c : Chs) : Bool := decide (30 < c.mdl.bats.length) || decide (30 < c.mdl.bows.length) || decide (4 < c.ord.length) || decide (4 < c.bows.length) || decide (16 < c.need)
def smallT (c : Chs) : Bool := !bigT c && c.mdl.bats.all (fun b => decide (b.dist.length ≤ 100))
theorem bigT_ways (c : Chs) : (bigT c = true ∧ (30 < (c.mdl.bats.length : Int) ∨ (¬ 30 < (c.mdl.bats.length : Int) ∧ 30 < (c.mdl.bows.length : Int)) ∨ (¬ 30 < (c.mdl.bats.length : Int) ∧ ¬ 30 < (c.mdl.bows.length : Int) ∧ 4 < (c.ord.length : Int)) ∨ (¬ 30 < (c.mdl.bats.length : Int) ∧ ¬ 30 < (c.mdl.bows.length : Int) ∧ ¬ 4 < (c.ord.length : Int) ∧ 4 < (c.bows.length : Int)) ∨ (¬ 30 < (c.mdl.bats.length : Int) ∧ ¬ 30 < (c.mdl.bows.length : Int) ∧ ¬ 4 < (c.ord.length : Int) ∧ ¬ 4 < (c.bows.length : Int) ∧ 16 < c.need))) ∨
    (bigT c = false ∧ ¬ 30 < (c.mdl.bats.length : Int) ∧ ¬ 30 < (c.mdl.bows.length : Int) ∧ ¬ 4 < (c.ord.length : Int) ∧ ¬ 4 < (c.bows.length : Int) ∧ ¬ 16 < c.need) := by
  cases h : bigT c
  · refine .inr ⟨rfl, ?_⟩
    unfold bigT at h
    simp only [Bool.or_eq_false_iff, decide_eq_false_iff_not] at h
    omega
  · refine .inl ⟨rfl, ?_⟩
    unfold bigT at h
    simp only [Bool.or_eq_true, decide_eq_true_eq] at h
    omega
set_option maxRecDepth 100000 in
set_option maxHeartbeats 2000000 in
theorem law45_Small (c : Chs) (bv wv pv ov : Value) (w : World) (h : ChAt w (· < w.heap.size) bv wv pv ov c) :
    Calls Tryz.prog 13 #[chV c bv wv pv ov] w fun e w' => e = .returned (.bool (smallT c)) ∧ Below w.heap.size w w' := by
  unfold chV
  obtain ⟨z, hz⟩ : ∃ z, z = smallT c := ⟨_, rfl⟩
  rw [← hz]
  unfold smallT at hz
  obtain ⟨A, ca, rfl, hc1, hc2⟩ := h.mdl.bat.shape
  obtain ⟨A1, ca1, rfl, hc3, hc4⟩ := h.mdl.bow.shape
  obtain ⟨A2, ca2, rfl, hc5, hc6⟩ := h.bow.shape
  obtain ⟨A3, ca3, rfl, hc7, hc8⟩ := h.ord.shape
  have HX := Lib.hid (OTB.new w c (.slice A c.mdl.bats.length ca) (.slice A1 c.mdl.bows.length ca1) (.slice A2 c.bows.length ca2) (.slice A3 c.ord.length ca3))
  have HL := Lib.hid h.mdl.bat
  have hw := bigT_ways c
  clear h
  rcases hw with ⟨hb, hw⟩ | ⟨hb, g1, g2, g3, g4, g5⟩
  · rw [hb, Bool.not_true, Bool.false_and] at hz
    have HZ := Lib.hid hz
    clear hz hb HL
    rcases hw with g1 | ⟨g1, g2⟩ | ⟨g1, g2, g3⟩ | ⟨g1, g2, g3, g4⟩ | ⟨g1, g2, g3, g4, g5⟩
    all_goals
      go_enter Tryz.func13, Tryz.ntmps13
      go_wp2
      go_ret
      exact ⟨ret_b HZ.out.symm, HX.out.bel⟩
  · rw [hb, Bool.not_false, Bool.true_and] at hz
    have HZ : Hid (z = (c.mdl.bats.drop 0).all (fun b => decide (b.dist.length ≤ 100))) := hz
    clear hz hb
    go_enter Tryz.func13, Tryz.ntmps13
    go_wp2
    go_loopw [38] (fun i wr => ∃ k : Nat, k ≤ c.mdl.bats.length ∧ i = .int .i64 k ∧ Hid (OTB w wr w.heap.size c (.slice A c.mdl.bats.length ca) (.slice A1 c.mdl.bows.length ca1) (.slice A2 c.bows.length ca2) (.slice A3 c.ord.length ca3)) ∧ Hid (z = (c.mdl.bats.drop k).all (fun b => decide (b.dist.length ≤ 100)))) (fun i _ => c.mdl.bats.length - (intOf i).toNat)
    case atStart => exact ⟨0, Nat.zero_le _, rfl, HX, HZ⟩
    case round =>
      clear HX HZ
      obtain ⟨k, hk, rfl, HW, hzz⟩ := hrel
      by_cases hlt : k < c.mdl.bats.length
      · obtain ⟨b0, o, v, rfl, hbl, yy0, yy1, hv, hpl⟩ := bat_at HL.out hlt
        have y0 := (HW.out.bel.cell (p := ⟨b0, o + k * 2, none⟩) hbl).trans yy0
        have y1 := (HW.out.bel.cell (p := ⟨b0, o + k * 2 + 1, none⟩) hbl).trans yy1
        have hz2 := hzz.out
        rw [small44_drop hlt] at hz2
        obtain ⟨A9, c9, hve, _, _⟩ := hv.shape
        obtain ⟨p, hp⟩ : ∃ b, b = c.mdl.bats[k] := ⟨_, rfl⟩
        rw [← hp] at y0 hz2 hve
        obtain ⟨n2, hn2⟩ : ∃ n, n = p.dist.length := ⟨_, rfl⟩
        obtain ⟨pn, hpn⟩ : ∃ n, n = p.name := ⟨_, rfl⟩
        rw [← hn2] at hve hz2
        rw [← hpn] at y0
        subst hve
        have HA := Lib.hid (HW.out.alloc (.cells #[.string (S pn), .slice A9 n2 c9] 60))
        clear hzz hp hn2 hpn yy0 yy1 hv hpl
        by_cases hs : n2 ≤ 100
        · rw [decide_eq_true hs, Bool.true_and] at hz2
          have HZZ := Lib.hid hz2
          have g9 : ¬ (100 : Int) < (n2 : Int) := by omega
          clear hz2 hs
          go_wp2
          go_roundw
          case rel => exact ⟨k + 1, by omega, by go_num, HA, HZZ⟩
          case measure => simp [intOf]; omega
        · rw [decide_eq_false hs, Bool.false_and] at hz2
          have HZZ := Lib.hid hz2
          have g9 : (100 : Int) < (n2 : Int) := by omega
          clear hz2 hs
          go_wp2
          go_ret
          exact ⟨ret_b HZZ.out.symm, HA.out.bel⟩
      · obtain rfl : k = c.mdl.bats.length := by omega
        have hz2 := hzz.out
        rw [List.drop_of_length_le (Nat.le_refl _), List.all_nil] at hz2
        have HZZ := Lib.hid hz2
        clear hz2 hzz
        go_wp2
        go_ret
        exact ⟨ret_b HZZ.out.symm, HW.out.bel⟩
end Go.Proofs.YtdlmmbfnmnglaaaGreatDoor
namespace Go.Proofs.YtdlmmbfnmnglaaaGreatDoor
open Go.RowKit Go.Maps

theorem entL_zero {c : Chs} {lk : Ost → Int × Bool} : ∀ {l : List Ove}, (∀ x ∈ l, valL c lk x.st = (x.val, true)) → entL c lk l = 0
  | [], _ => rfl
  | x :: l, h => by
    have hx := h x (by simp)
    rw [entL, hx, if_neg (by simp), if_neg (by simp), entL_zero fun y hy => h y (by simp [hy])]
theorem TabIs.accept {c : Chs} (h0 : checkO c = 0) {l : List Ove} (h : TabIs c l) : acceptS c l = 0 := by
  have ht := okT_of h0
  have hf : FormO c l := fun i hi => ⟨(stateO_ok ((((h.2 _).1 (List.getElem_mem hi)).1).ok ht).w16).2 (((h.2 _).1 (List.getElem_mem hi)).1.ok ht), fun hp => h.1 (i - 1) i (by omega) hi (by omega)⟩
  have hp : PairsO c (lookL l) := fun a b ha hb hne => by rw [h.look (ReachO.op ha hb hne)]
  rw [accept_ent h0 hf hp]
  exact entL_zero fun x hx => by
    obtain ⟨h1, h2⟩ := (h.2 x).1 hx
    rw [h.val ht h1, h2]
end Go.Proofs.YtdlmmbfnmnglaaaGreatDoor
set_option linter.unusedSimpArgs false
set_option linter.unusedVariables false
namespace Go.Proofs.YtdlmmbfnmnglaaaGreatDoor
open Go.RowKit

/-- As Below; and no draw is taken back. -/
structure Beld (B : Nat) (a w : World) : Prop extends Below B a w where
  drawn : a.drawn ≤ w.drawn
theorem Beld.refl (B : Nat) (w : World) : Beld B w w := ⟨Below.refl _ _, Nat.le_refl _⟩
theorem Beld.trans {B : Nat} {a b c : World} (h : Beld B a b) (k : Beld B b c) : Beld B a c := ⟨h.toBelow.trans k.toBelow, Nat.le_trans h.drawn k.drawn⟩
theorem Beld.mono {B B' : Nat} {w w' : World} (h : Beld B w w') (hB : B' ≤ B) : Beld B' w w' := ⟨h.toBelow.mono hB, h.drawn⟩
theorem Beld.drew {B : Nat} {a w : World} (h : Beld B a w) : Beld B a w.drew := ⟨h.toBelow.drew, Nat.le_succ_of_le h.drawn⟩
theorem Beld.alloc {B : Nat} {a w : World} (h : Beld B a w) (hB : B ≤ w.heap.size) (o : Obj) : Beld B a (w.alloc o) := ⟨h.toBelow.alloc hB o, h.drawn⟩
/-- What a call that makes memory alone leaves behind. -/
theorem Beld.grown {w w' : World} (h : Beld w.heap.size w w') : ∃ q os, w' = Sort.grow (w.drewN q) os := by
  refine ⟨w'.drawn - w.drawn, w'.heap.extract w.heap.size w'.heap.size, ?_⟩
  have hd : w.drawn + (w'.drawn - w.drawn) = w'.drawn := by have := h.drawn; omega
  have hh : w.heap ++ w'.heap.extract w.heap.size w'.heap.size = w'.heap := by
    refine Array.ext_getElem? fun k => ?_
    rw [Array.getElem?_append]
    split
    · rename_i hk; exact (h.block k hk).symm
    · rename_i hk
      have hs := h.size
      rw [Array.getElem?_extract]
      split
      · rw [show w.heap.size + (k - w.heap.size) = k by omega]
      · rename_i h2; rw [Array.getElem?_eq_none (by omega)]
  obtain ⟨h1, h2, h3⟩ := (⟨h.os, h.tape, h.output⟩ : _ ∧ _ ∧ _)
  cases w
  cases w'
  simp only [Sort.grow, World.drewN] at *
  subst h1 h2 h3
  rw [hh, hd]
/-- An operation yields a value of its slot's kind and turns nothing that was there. -/
def MeetsD (P : Program) (V : Tab) (o : Oper) (a : Act) (w : World) : Prop :=
  ∀ d, o.dst = some d → ∀ K Q, (∀ v w', Beld w.heap.size w w' → V d w' v → K (a.put o.dst v) w') → o.wp P a w K Q

structure RInD (ops : Array Oper) (V : Tab) (G : World → Prop) (init : List Nat) (a0 : Act) (w0 : World) (listed : Array Bool) (a : Act) (w : World) : Prop where
  size : a.tmps.size = a0.tmps.size
  dfr : a.defers = a0.defers
  g : G w
  below : Beld w0.heap.size w0 w
  ini : ∀ d ∈ init, Holds V a w d
  done : ∀ (i : Nat) (o : Oper) (d : Nat), ops[i]? = some o → listed.getD i false = true → o.dst = some d → Holds V a w d
  keep : ∀ k, (∀ (i : Nat) (o : Oper), ops[i]? = some o → o.dst ≠ some k) → a.tmps[k]? = a0.tmps[k]?

section
variable {P : Program} {ops : Array Oper} {V : Tab} {G : World → Prop} {needs : Nat → List Nat} {init : List Nat} {N : Nat} {Q : Exit → Act → World → Prop} {a0 : Act} {w0 : World}
theorem Holds.putD {a : Act} {w w' : World} {d k : Nat} {v : Value} (hsV : ∀ d w w' v, V d w v → Beld w.heap.size w w' → V d w' v) (h : Holds V a w k) (hb : Beld w.heap.size w w') (hv : V d w' v) : Holds V (a.put (some d) v) w' k := by
  obtain ⟨u, h1, h2⟩ := h
  unfold Holds
  rw [put_get]
  split
  · rename_i hc; obtain ⟨rfl, _⟩ := hc; exact ⟨v, rfl, hv⟩
  · exact ⟨u, h1, hsV _ _ _ _ h2 hb⟩
theorem meets_valueD {o : Oper} {a : Act} {w : World} {v : Value} (hr : (execOp a.eval o).run P w = .ok (.value v) w) (hv : ∀ d, o.dst = some d → V d w v) : MeetsD P V o a w := by
  intro d hd K Q hK
  unfold Oper.wp
  rw [hr]
  exact hK v w (Beld.refl _ _) (hv d hd)
theorem meets_moveD {o : Oper} {a : Act} {w : World} {x : Operand} (ho : o.op = .move x ∨ o.op = .assign x) (hv : ∀ d, o.dst = some d → V d w (a.eval x)) : MeetsD P V o a w := by
  refine meets_valueD (v := a.eval x) ?_ hv
  unfold execOp
  rcases ho with ho | ho <;> simp only [ho, Sem.run_pure]
theorem meets_fieldD {o : Oper} {a : Act} {w : World} {s : TypeId} {x : Operand} {f : Nat} {p q : Addr} (ho : o.op = .fieldAddr s x f) (hx : a.eval x = .pointer (some p))
    (hr : (Instr.fieldAt s (.pointer (some p)) f).run P w = .ok (.pointer (some q)) w) (hv : ∀ d, o.dst = some d → V d w (.pointer (some q))) : MeetsD P V o a w := by
  refine meets_valueD (v := .pointer (some q)) ?_ hv
  unfold execOp
  simp only [ho, hx, Sem.run_bind, hr, Result.andThen_ok, Sem.run_pure]
theorem meets_loadD {o : Oper} {a : Act} {w : World} {t : TypeId} {x : Operand} {p : Addr} {v : Value} (ho : o.op = .load t x) (hx : a.eval x = .pointer (some p))
    (hr : (Instr.loadAt t (.pointer (some p))).run P w = .ok v w) (hv : ∀ d, o.dst = some d → V d w v) : MeetsD P V o a w := by
  refine meets_valueD (v := v) ?_ hv
  unfold execOp
  simp only [ho, hx, Sem.run_bind, hr, Result.andThen_ok, Sem.run_pure]
theorem meets_buildD {o : Oper} {a : Act} {w : World} {t e : TypeId} {len : Nat} {parts : Array (Nat × Operand)} (ho : o.op = .buildSlice t len parts) (cells : Array Value)
    (hr : (Instr.buildSlice t len (parts.map fun (i, x) => (i, a.eval x))).run P w = .ok (.slice (some ⟨w.heap.size, 0, none⟩) len len) (w.alloc (.cells cells e)))
    (hv : ∀ d, o.dst = some d → V d (w.alloc (.cells cells e)) (.slice (some ⟨w.heap.size, 0, none⟩) len len)) : MeetsD P V o a w := by
  intro d hd K Q hK
  unfold Oper.wp execOp
  simp only [ho, Sem.run_bind, hr, Result.andThen_ok, Sem.run_pure]
  exact hK _ _ (Beld.alloc (Beld.refl _ _) (Nat.le_refl _) _) (hv d hd)
theorem meets_callD {o : Oper} {a : Act} {w : World} {c : Call} {g : Operand} {f : FuncId} {fn : Func} {args : Array Value} (ho : o.op = .call c) (hc : c.callee = .value g) (hg : a.eval g = .func (.func f) #[] #[]) (ha : c.args.map a.eval = args)
    (hf : P.funcs[f]? = some fn) (hname : (fn.name == "runtime.NumGoroutine") = false) (hb : fn.body.isSome = true)
    (hk : ∀ d, o.dst = some d → Calls P f args w fun e w' => ∃ v, e = .returned v ∧ Beld w.heap.size w w' ∧ V d w' v) : MeetsD P V o a w := by
  intro d hd K Q hK
  unfold Oper.wp execOp
  obtain ⟨b, hb⟩ := Option.isSome_iff_exists.1 hb
  have hr := enter_run (P := P) hf hname hb args w
  simp only [ho, resolve, hc, hg, ha, Deferred.ofValue, invoke, Sem.run_bind, Sem.run_pure, Result.andThen_ok, Array.append_empty, Array.empty_append, hr]
  refine (hk d hd).mono ?_
  rintro e w' ⟨v, rfl, h1, h2⟩
  exact hK v w' h1 h2
end
structure FreeD (P : Program) (ops : Array Oper) (V : Tab) (G : World → Prop) (needs : Nat → List Nat) (init : List Nat) (N : Nat) : Prop where
  back : ∀ (i : Nat) (o : Oper), ops[i]? = some o → ∀ e ∈ o.after, e.on < i
  dst : ∀ (i : Nat) (o : Oper), ops[i]? = some o → ∃ d, o.dst = some d ∧ d < N
  need : ∀ (i : Nat) (o : Oper), ops[i]? = some o → ∀ d ∈ needs i, d ∈ init ∨ ∃ e ∈ o.after, Region.binds .any e = true ∧ ∃ p, ops[e.on]? = some p ∧ p.dst = some d
  sV : ∀ d w w' v, V d w v → Beld w.heap.size w w' → V d w' v
  sG : ∀ w w', G w → Beld w.heap.size w w' → G w'
  step : ∀ (i : Nat) (o : Oper), ops[i]? = some o → ∀ a w, G w → (∀ x ∈ needs i, Holds V a w x) → (Region.wanted o (yielded ops a.tmps) = true ∧ MeetsD P V o a w) ∨ (Region.wanted o (yielded ops a.tmps) = false ∧ ∀ d, o.dst = some d → V d w undef)
section
variable {P : Program} {ops : Array Oper} {V : Tab} {G : World → Prop} {needs : Nat → List Nat} {init : List Nat} {N : Nat} {Q : Exit → Act → World → Prop} {a0 : Act} {w0 : World}
theorem all_listedD (hback : ∀ (i : Nat) (o : Oper), ops[i]? = some o → ∀ e ∈ o.after, e.on < i) {listed : Array Bool} (hr : Region.ready .any ops listed = []) (hsz : listed.size = ops.size) : ∀ i, i < ops.size → listed.getD i false = true := by
  intro i
  induction i using Nat.strongRecOn with
  | ind i ih =>
    intro hi
    cases hl : listed.getD i false with
    | true => rfl
    | false =>
      exfalso
      have h2 : listed.getD i true = false := by
        have hlt : i < listed.size := by omega
        simp [hlt] at hl ⊢; exact hl
      have ho : ops[i]? = some ops[i] := Array.getElem?_eq_getElem hi
      have : i ∈ Region.ready .any ops listed := mem_ready.2 ⟨h2, _, ho, fun e he _ => ih e.on (hback i _ ho e he) (by have := hback i _ ho e he; omega)⟩
      rw [hr] at this
      cases this
theorem wpAny_freeD (hF : FreeD P ops V G needs init N) (hN : N ≤ a0.tmps.size) (fin : ∀ a w, RInD ops V G init a0 w0 (Array.replicate ops.size true) a w → Q .normal a w) :
    ∀ (fuel : Nat) (listed : Array Bool) (a : Act) (w : World), listed.size = ops.size → listed.toList.count false ≤ fuel → RInD ops V G init a0 w0 listed a w → wpAny P .any ops Q fuel listed a w := by
  have hfin : ∀ (listed : Array Bool) (a : Act) (w : World), listed.size = ops.size → Region.ready .any ops listed = [] → RInD ops V G init a0 w0 listed a w → Q .normal a w := by
    intro listed a w hsz hr h
    refine fin a w ⟨h.size, h.dfr, h.g, h.below, h.ini, fun i o d ho _ hd => h.done i o d ho (all_listedD hF.back hr hsz i (Array.getElem?_eq_some_iff.1 ho).1) hd, h.keep⟩
  intro fuel
  induction fuel with
  | zero =>
    intro listed a w hsz hc h
    have hr : Region.ready .any ops listed = [] := by
      cases hr : Region.ready .any ops listed with
      | nil => rfl
      | cons j t =>
        exfalso
        have hj : j ∈ Region.ready .any ops listed := by rw [hr]; simp
        obtain ⟨h1, o, ho, _⟩ := mem_ready.1 hj
        have hlt : j < listed.size := by have := (Array.getElem?_eq_some_iff.1 ho).1; omega
        have h2 : listed[j]? = some false := by
          rw [Array.getElem?_eq_getElem hlt]; simp [hlt] at h1; rw [h1]
        have : false ∈ listed.toList := Array.mem_toList_iff.2 (Array.mem_of_getElem? h2)
        have := List.count_pos_iff.2 this
        omega
    exact ⟨hr, hfin listed a w hsz hr h⟩
  | succ fuel ih =>
    intro listed a w hsz hc h
    refine ⟨fun hr => hfin listed a w hsz hr h, fun i hi => ?_⟩
    obtain ⟨h1, o, ho, hall⟩ := mem_ready.1 hi
    obtain ⟨d, hd, hdN⟩ := hF.dst i o ho
    have hlt : i < listed.size := by have := (Array.getElem?_eq_some_iff.1 ho).1; omega
    have h2 : listed[i]? = some false := by
      rw [Array.getElem?_eq_getElem hlt]; simp [hlt] at h1; rw [h1]
    have hcnt := count_set listed.toList i (by rw [Array.getElem?_toList]; exact h2)
    have hneeds : ∀ x ∈ needs i, Holds V a w x := fun x hx => by
      rcases hF.need i o ho x hx with hx | ⟨e, he, hbi, p, hp, hpd⟩
      · exact h.ini x hx
      · exact h.done e.on p x hp (hall e he hbi) hpd
    have go : ∀ v w', Beld w.heap.size w w' → V d w' v → wpAny P .any ops Q fuel (listed.setIfInBounds i true) (a.put o.dst v) w' := fun v w' hb hv => by
      rw [hd]
      refine ih _ _ _ (by simpa using hsz) (by rw [Array.toList_setIfInBounds]; omega) ⟨by unfold Act.put; simpa using h.size, h.dfr, hF.sG _ _ h.g hb, h.below.trans (hb.mono h.below.size), fun x hx => (h.ini x hx).putD hF.sV hb hv, fun j p x hj hl hx => ?_, fun k hk => ?_⟩
      · by_cases hji : j = i
        · subst hji
          rw [ho] at hj; obtain rfl := Option.some.inj hj
          have hdx : d = x := Option.some.inj (hd.symm.trans hx)
          subst hdx
          refine ⟨v, ?_, hv⟩
          rw [put_get, if_pos ⟨rfl, by rw [h.size]; exact Nat.lt_of_lt_of_le hdN hN⟩]
        · have hl' : listed.getD j false = true := by rw [getD_set_ne false (Ne.symm hji)] at hl; exact hl
          exact (h.done j p x hj hl' hx).putD hF.sV hb hv
      · rw [put_get, if_neg (fun hc => hk i o ho (by rw [hd, hc.1]))]
        exact h.keep k hk
    unfold wpOp
    rw [ho]
    dsimp only
    rcases hF.step i o ho a w h.g hneeds with ⟨hw, hm⟩ | ⟨hw, hm⟩
    · rw [hw, if_pos rfl]
      exact .inl (hm d hd _ _ go)
    · rw [hw, if_neg (by simp)]
      exact go undef w (Beld.refl _ _) (hm d hd)
theorem wp_region_freeD {ops' : Array Oper} {id : Nat} (he : ops = ops') (hm : P.follows .mixedOrders = true) (hF : FreeD P ops' V G needs init N) (hN : N ≤ a0.tmps.size) (hG : G w0) (hini : ∀ d ∈ init, Holds V a0 w0 d)
    (fin : ∀ a w, RInD ops' V G init a0 w0 (Array.replicate ops'.size true) a w → Q .normal a w) : (Code.region id ops true).wp P Q a0 w0 := by
  subst he
  have hb : Beld w0.heap.size w0 { w0 with drawn := w0.drawn + 1 } := Beld.drew (Beld.refl _ _)
  refine wp_region_any hm (wpAny_freeD hF hN fin _ _ _ _ (by simp) (by simp) ⟨rfl, rfl, hF.sG _ _ hG hb, hb, fun d hd => ?_, fun i o d ho hl => ?_, fun _ _ => rfl⟩)
  · obtain ⟨v, h1, h2⟩ := hini d hd
    exact ⟨v, h1, hF.sV _ _ _ _ h2 hb⟩
  · exfalso
    have hlt := (Array.getElem?_eq_some_iff.1 ho).1
    simp [hlt] at hl
end
theorem RInD.atG {ops : Array Oper} {V : Tab} {G : World → Prop} {init : List Nat} {a0 a : Act} {w0 w : World} (h : RInD ops V G init a0 w0 (Array.replicate ops.size true) a w) (i d : Nat) (hd : (ops[i]?).bind (·.dst) = some d) : Holds V a w d := by
  cases ho : ops[i]? with
  | none => rw [ho] at hd; cases hd
  | some o =>
    rw [ho] at hd
    have hlt := (Array.getElem?_eq_some_iff.1 ho).1
    exact h.done i o d ho (by simp [hlt]) hd
end Go.Proofs.YtdlmmbfnmnglaaaGreatDoor
set_option linter.unusedSimpArgs false
set_option linter.unusedVariables false
namespace Go.Proofs.YtdlmmbfnmnglaaaGreatDoor
open Go.RowKit

theorem beld_twoO (w : World) (o1 o2 : Obj) : Beld w.heap.size w ((w.alloc o1).alloc o2) := ⟨below_two w o1 o2, Nat.le_refl _⟩
set_option maxRecDepth 100000 in
set_option maxHeartbeats 1000000 in
theorem cmp_OrDO (l : List Int) (v : Value) (F : Nat → Prop) (w : World) (h : Sl 1 elInt w F v l) (hF : ∀ b, F b → b < w.heap.size) : Calls Tryz.prog 69 #[v] w fun e w' => e = .returned (.int .i64 (orL l)) ∧ Beld w.heap.size w w' := by
  obtain ⟨z, hz⟩ : ∃ z, z = orL l := ⟨_, rfl⟩
  rw [← hz]
  obtain ⟨A, c, rfl, hc, hc2⟩ := h.shape
  have HZ : Hid (z = orL (l.drop 0)) := hz
  have HL := Lib.hid h
  have HB := Lib.hid (Beld.refl w.heap.size w)
  have HF := Lib.hid hF
  clear hz h hF
  go_enter Tryz.func69, Tryz.ntmps69
  go_wp2
  go_loopw [8] (fun i wr => ∃ k : Nat, k ≤ l.length ∧ i = .int .i64 k ∧ Beld w.heap.size w wr ∧ Hid (z = orL (l.drop k))) (fun i _ => l.length - (intOf i).toNat)
  case atStart => exact ⟨0, Nat.zero_le _, rfl, HB.out, HZ⟩
  case round =>
    obtain ⟨k, hk, rfl, hb, hzz⟩ := hrel
    have HBB := Lib.hid hb
    by_cases hlt : k < l.length
    · obtain ⟨b0, o, rfl, hbl, yy0⟩ := int_at HL.out hlt
      have y0 := (hb.toBelow.cell (p := ⟨b0, o + k, none⟩) (HF.out _ hbl)).trans yy0
      have hz2 := hzz.out
      rw [drop_get hlt, orL] at hz2
      obtain ⟨p, hp⟩ : ∃ p, p = l[k] := ⟨_, rfl⟩
      rw [← hp] at hz2 y0
      clear hb hzz hp yy0
      by_cases hin : p = 0
      · rw [if_pos hin] at hz2
        have e1 : (p != 0) = false := by simp [hin]
        have HZZ := Lib.hid hz2
        clear hz2 hin
        go_wp2
        go_roundw
        case rel => exact ⟨k + 1, by omega, by go_num, HBB.out, HZZ⟩
        case measure => simp [intOf]; omega
      · rw [if_neg hin] at hz2
        have e1 : (p != 0) = true := by simp [hin]
        have HZZ := Lib.hid hz2
        clear hz2 hin
        go_wp2
        go_ret
        exact ⟨ret_i HZZ.out.symm, HBB.out⟩
    · obtain rfl : k = l.length := by omega
      have hz2 := hzz.out
      rw [List.drop_of_length_le (Nat.le_refl _), orL] at hz2
      have HZZ := Lib.hid hz2
      clear hb hzz hz2
      go_wp2
      go_ret
      exact ⟨ret_i HZZ.out.symm, HBB.out⟩
set_option maxRecDepth 100000 in
set_option maxHeartbeats 2000000 in
theorem co_freeD (s t : Ost) (w : World) :
    FreeD Tryz.prog coOps (coV s t w.heap.size) (fun W => Beld w.heap.size w W ∧ Blk W w.heap.size 45 #[.int .i64 s.ball, .int .i64 s.need, .int .i64 s.str, .int .i64 s.par, .int .u16 s.wait] ∧ Blk W (w.heap.size + 1) 45 #[.int .i64 t.ball, .int .i64 t.need, .int .i64 t.str, .int .i64 t.par, .int .u16 t.wait]) (fun i => coNeeds.getD i []) [2, 3] 32 := by
  refine ⟨backG_of (by kernel_rfl), dstG_of (by kernel_rfl), needG_of (by kernel_rfl), fun d w1 w2 v h hb => ?_, fun W W' h hb => ⟨h.1.trans (hb.mono h.1.size), h.2.1.below hb.toBelow h.2.1.lt, h.2.2.below hb.toBelow h.2.2.lt⟩, ?_⟩
  · unfold coV at h ⊢
    by_cases hd : d = 30
    · rw [if_pos hd] at h ⊢
      exact h.keep elInt_good (Same.of_below hb.toBelow) fun b hb2 => Nat.lt_of_lt_of_le hb2 hb.size
    · rw [if_neg hd] at h ⊢
      exact h
  intro i o ho a W hG hn
  have hlt : i < 28 := by rw [← co_size]; exact (Array.getElem?_eq_some_iff.1 ho).1
  have hcase : i = 0 ∨ i = 1 ∨ i = 2 ∨ i = 3 ∨ i = 4 ∨ i = 5 ∨ i = 6 ∨ i = 7 ∨ i = 8 ∨ i = 9 ∨ i = 10 ∨ i = 11 ∨ i = 12 ∨ i = 13 ∨ i = 14 ∨ i = 15 ∨ i = 16 ∨ i = 17 ∨ i = 18 ∨ i = 19 ∨ i = 20 ∨ i = 21 ∨ i = 22 ∨ i = 23 ∨ i = 24 ∨ i = 25 ∨ i = 26 ∨ i = 27 := by omega
  rcases hcase with rfl | rfl | rfl | rfl | rfl | rfl | rfl | rfl | rfl | rfl | rfl | rfl | rfl | rfl | rfl | rfl | rfl | rfl | rfl | rfl | rfl | rfl | rfl | rfl | rfl | rfl | rfl | rfl
  · obtain ⟨h1, h2⟩ := opG_of (x := .fieldAddr 45 (.tmp 2) 0) (d := some 5) (by kernel_rfl) ho
    refine .inl ⟨free_not (guardG_of (by kernel_rfl) ho), ?_⟩
    exact meets_fieldD h1 (co_val 2 (.pointer (some ⟨w.heap.size, 0, none⟩)) hn (of_decide_eq_true (by kernel_rfl)) (by decide) rfl) (by kernel_rfl : (Instr.fieldAt 45 (.pointer (some ⟨w.heap.size, 0, none⟩)) 0).run Tryz.prog W = .ok (.pointer (some ⟨w.heap.size, 0, none⟩)) W) (co_put h2 (by decide) rfl)
  · obtain ⟨h1, h2⟩ := opG_of (x := .load 3 (.tmp 5)) (d := some 6) (by kernel_rfl) ho
    refine .inl ⟨free_not (guardG_of (by kernel_rfl) ho), ?_⟩
    exact meets_loadD h1 (co_val 5 (.pointer (some ⟨w.heap.size, 0, none⟩)) hn (of_decide_eq_true (by kernel_rfl)) (by decide) rfl) (loadAt_cell (by kernel_rfl) ((hG.2.1.cell 0).trans rfl)) (co_put h2 (by decide) rfl)
  · obtain ⟨h1, h2⟩ := opG_of (x := .fieldAddr 45 (.tmp 3) 0) (d := some 7) (by kernel_rfl) ho
    refine .inl ⟨free_not (guardG_of (by kernel_rfl) ho), ?_⟩
    exact meets_fieldD h1 (co_val 3 (.pointer (some ⟨w.heap.size + 1, 0, none⟩)) hn (of_decide_eq_true (by kernel_rfl)) (by decide) rfl) (by kernel_rfl : (Instr.fieldAt 45 (.pointer (some ⟨w.heap.size + 1, 0, none⟩)) 0).run Tryz.prog W = .ok (.pointer (some ⟨w.heap.size + 1, 0, none⟩)) W) (co_put h2 (by decide) rfl)
  · obtain ⟨h1, h2⟩ := opG_of (x := .load 3 (.tmp 7)) (d := some 8) (by kernel_rfl) ho
    refine .inl ⟨free_not (guardG_of (by kernel_rfl) ho), ?_⟩
    exact meets_loadD h1 (co_val 7 (.pointer (some ⟨w.heap.size + 1, 0, none⟩)) hn (of_decide_eq_true (by kernel_rfl)) (by decide) rfl) (loadAt_cell (by kernel_rfl) ((hG.2.2.cell 0).trans rfl)) (co_put h2 (by decide) rfl)
  · obtain ⟨h1, h2⟩ := opG_of (x := .call { callee := .value (.func 70), args := #[.tmp 6, .tmp 8], argTypes := #[3, 3] }) (d := some 9) (by kernel_rfl) ho
    refine .inl ⟨free_not (guardG_of (by kernel_rfl) ho), ?_⟩
    refine meets_callD (args := #[.int .i64 s.ball, .int .i64 t.ball]) h1 rfl rfl (by have e1 := (co_val 6 (.int .i64 s.ball) hn (of_decide_eq_true (by kernel_rfl)) (by decide) rfl); have e2 := (co_val 8 (.int .i64 t.ball) hn (of_decide_eq_true (by kernel_rfl)) (by decide) rfl); simp [e1, e2]) Tryz.func70 (by kernel_rfl) (by kernel_rfl) fun d hd => ?_
    refine (cmp_intE _ _ W).mono ?_
    rintro e W' ⟨rfl, rfl⟩
    exact ⟨_, rfl, Beld.refl _ _, co_put h2 (by decide) rfl d hd⟩
  · obtain ⟨h1, h2⟩ := opG_of (x := .fieldAddr 45 (.tmp 2) 1) (d := some 10) (by kernel_rfl) ho
    refine .inl ⟨free_not (guardG_of (by kernel_rfl) ho), ?_⟩
    exact meets_fieldD h1 (co_val 2 (.pointer (some ⟨w.heap.size, 0, none⟩)) hn (of_decide_eq_true (by kernel_rfl)) (by decide) rfl) (by kernel_rfl : (Instr.fieldAt 45 (.pointer (some ⟨w.heap.size, 0, none⟩)) 1).run Tryz.prog W = .ok (.pointer (some ⟨w.heap.size, 1, none⟩)) W) (co_put h2 (by decide) rfl)
  · obtain ⟨h1, h2⟩ := opG_of (x := .load 3 (.tmp 10)) (d := some 11) (by kernel_rfl) ho
    refine .inl ⟨free_not (guardG_of (by kernel_rfl) ho), ?_⟩
    exact meets_loadD h1 (co_val 10 (.pointer (some ⟨w.heap.size, 1, none⟩)) hn (of_decide_eq_true (by kernel_rfl)) (by decide) rfl) (loadAt_cell (by kernel_rfl) ((hG.2.1.cell 1).trans rfl)) (co_put h2 (by decide) rfl)
  · obtain ⟨h1, h2⟩ := opG_of (x := .fieldAddr 45 (.tmp 3) 1) (d := some 12) (by kernel_rfl) ho
    refine .inl ⟨free_not (guardG_of (by kernel_rfl) ho), ?_⟩
    exact meets_fieldD h1 (co_val 3 (.pointer (some ⟨w.heap.size + 1, 0, none⟩)) hn (of_decide_eq_true (by kernel_rfl)) (by decide) rfl) (by kernel_rfl : (Instr.fieldAt 45 (.pointer (some ⟨w.heap.size + 1, 0, none⟩)) 1).run Tryz.prog W = .ok (.pointer (some ⟨w.heap.size + 1, 1, none⟩)) W) (co_put h2 (by decide) rfl)
  · obtain ⟨h1, h2⟩ := opG_of (x := .load 3 (.tmp 12)) (d := some 13) (by kernel_rfl) ho
    refine .inl ⟨free_not (guardG_of (by kernel_rfl) ho), ?_⟩
    exact meets_loadD h1 (co_val 12 (.pointer (some ⟨w.heap.size + 1, 1, none⟩)) hn (of_decide_eq_true (by kernel_rfl)) (by decide) rfl) (loadAt_cell (by kernel_rfl) ((hG.2.2.cell 1).trans rfl)) (co_put h2 (by decide) rfl)
  · obtain ⟨h1, h2⟩ := opG_of (x := .call { callee := .value (.func 70), args := #[.tmp 11, .tmp 13], argTypes := #[3, 3] }) (d := some 14) (by kernel_rfl) ho
    refine .inl ⟨free_not (guardG_of (by kernel_rfl) ho), ?_⟩
    refine meets_callD (args := #[.int .i64 s.need, .int .i64 t.need]) h1 rfl rfl (by have e1 := (co_val 11 (.int .i64 s.need) hn (of_decide_eq_true (by kernel_rfl)) (by decide) rfl); have e2 := (co_val 13 (.int .i64 t.need) hn (of_decide_eq_true (by kernel_rfl)) (by decide) rfl); simp [e1, e2]) Tryz.func70 (by kernel_rfl) (by kernel_rfl) fun d hd => ?_
    refine (cmp_intE _ _ W).mono ?_
    rintro e W' ⟨rfl, rfl⟩
    exact ⟨_, rfl, Beld.refl _ _, co_put h2 (by decide) rfl d hd⟩
  · obtain ⟨h1, h2⟩ := opG_of (x := .fieldAddr 45 (.tmp 2) 2) (d := some 15) (by kernel_rfl) ho
    refine .inl ⟨free_not (guardG_of (by kernel_rfl) ho), ?_⟩
    exact meets_fieldD h1 (co_val 2 (.pointer (some ⟨w.heap.size, 0, none⟩)) hn (of_decide_eq_true (by kernel_rfl)) (by decide) rfl) (by kernel_rfl : (Instr.fieldAt 45 (.pointer (some ⟨w.heap.size, 0, none⟩)) 2).run Tryz.prog W = .ok (.pointer (some ⟨w.heap.size, 2, none⟩)) W) (co_put h2 (by decide) rfl)
  · obtain ⟨h1, h2⟩ := opG_of (x := .load 3 (.tmp 15)) (d := some 16) (by kernel_rfl) ho
    refine .inl ⟨free_not (guardG_of (by kernel_rfl) ho), ?_⟩
    exact meets_loadD h1 (co_val 15 (.pointer (some ⟨w.heap.size, 2, none⟩)) hn (of_decide_eq_true (by kernel_rfl)) (by decide) rfl) (loadAt_cell (by kernel_rfl) ((hG.2.1.cell 2).trans rfl)) (co_put h2 (by decide) rfl)
  · obtain ⟨h1, h2⟩ := opG_of (x := .fieldAddr 45 (.tmp 3) 2) (d := some 17) (by kernel_rfl) ho
    refine .inl ⟨free_not (guardG_of (by kernel_rfl) ho), ?_⟩
    exact meets_fieldD h1 (co_val 3 (.pointer (some ⟨w.heap.size + 1, 0, none⟩)) hn (of_decide_eq_true (by kernel_rfl)) (by decide) rfl) (by kernel_rfl : (Instr.fieldAt 45 (.pointer (some ⟨w.heap.size + 1, 0, none⟩)) 2).run Tryz.prog W = .ok (.pointer (some ⟨w.heap.size + 1, 2, none⟩)) W) (co_put h2 (by decide) rfl)
  · obtain ⟨h1, h2⟩ := opG_of (x := .load 3 (.tmp 17)) (d := some 18) (by kernel_rfl) ho
    refine .inl ⟨free_not (guardG_of (by kernel_rfl) ho), ?_⟩
    exact meets_loadD h1 (co_val 17 (.pointer (some ⟨w.heap.size + 1, 2, none⟩)) hn (of_decide_eq_true (by kernel_rfl)) (by decide) rfl) (loadAt_cell (by kernel_rfl) ((hG.2.2.cell 2).trans rfl)) (co_put h2 (by decide) rfl)
  · obtain ⟨h1, h2⟩ := opG_of (x := .call { callee := .value (.func 70), args := #[.tmp 16, .tmp 18], argTypes := #[3, 3] }) (d := some 19) (by kernel_rfl) ho
    refine .inl ⟨free_not (guardG_of (by kernel_rfl) ho), ?_⟩
    refine meets_callD (args := #[.int .i64 s.str, .int .i64 t.str]) h1 rfl rfl (by have e1 := (co_val 16 (.int .i64 s.str) hn (of_decide_eq_true (by kernel_rfl)) (by decide) rfl); have e2 := (co_val 18 (.int .i64 t.str) hn (of_decide_eq_true (by kernel_rfl)) (by decide) rfl); simp [e1, e2]) Tryz.func70 (by kernel_rfl) (by kernel_rfl) fun d hd => ?_
    refine (cmp_intE _ _ W).mono ?_
    rintro e W' ⟨rfl, rfl⟩
    exact ⟨_, rfl, Beld.refl _ _, co_put h2 (by decide) rfl d hd⟩
  · obtain ⟨h1, h2⟩ := opG_of (x := .fieldAddr 45 (.tmp 2) 3) (d := some 20) (by kernel_rfl) ho
    refine .inl ⟨free_not (guardG_of (by kernel_rfl) ho), ?_⟩
    exact meets_fieldD h1 (co_val 2 (.pointer (some ⟨w.heap.size, 0, none⟩)) hn (of_decide_eq_true (by kernel_rfl)) (by decide) rfl) (by kernel_rfl : (Instr.fieldAt 45 (.pointer (some ⟨w.heap.size, 0, none⟩)) 3).run Tryz.prog W = .ok (.pointer (some ⟨w.heap.size, 3, none⟩)) W) (co_put h2 (by decide) rfl)
  · obtain ⟨h1, h2⟩ := opG_of (x := .load 3 (.tmp 20)) (d := some 21) (by kernel_rfl) ho
    refine .inl ⟨free_not (guardG_of (by kernel_rfl) ho), ?_⟩
    exact meets_loadD h1 (co_val 20 (.pointer (some ⟨w.heap.size, 3, none⟩)) hn (of_decide_eq_true (by kernel_rfl)) (by decide) rfl) (loadAt_cell (by kernel_rfl) ((hG.2.1.cell 3).trans rfl)) (co_put h2 (by decide) rfl)
  · obtain ⟨h1, h2⟩ := opG_of (x := .fieldAddr 45 (.tmp 3) 3) (d := some 22) (by kernel_rfl) ho
    refine .inl ⟨free_not (guardG_of (by kernel_rfl) ho), ?_⟩
    exact meets_fieldD h1 (co_val 3 (.pointer (some ⟨w.heap.size + 1, 0, none⟩)) hn (of_decide_eq_true (by kernel_rfl)) (by decide) rfl) (by kernel_rfl : (Instr.fieldAt 45 (.pointer (some ⟨w.heap.size + 1, 0, none⟩)) 3).run Tryz.prog W = .ok (.pointer (some ⟨w.heap.size + 1, 3, none⟩)) W) (co_put h2 (by decide) rfl)
  · obtain ⟨h1, h2⟩ := opG_of (x := .load 3 (.tmp 22)) (d := some 23) (by kernel_rfl) ho
    refine .inl ⟨free_not (guardG_of (by kernel_rfl) ho), ?_⟩
    exact meets_loadD h1 (co_val 22 (.pointer (some ⟨w.heap.size + 1, 3, none⟩)) hn (of_decide_eq_true (by kernel_rfl)) (by decide) rfl) (loadAt_cell (by kernel_rfl) ((hG.2.2.cell 3).trans rfl)) (co_put h2 (by decide) rfl)
  · obtain ⟨h1, h2⟩ := opG_of (x := .call { callee := .value (.func 70), args := #[.tmp 21, .tmp 23], argTypes := #[3, 3] }) (d := some 24) (by kernel_rfl) ho
    refine .inl ⟨free_not (guardG_of (by kernel_rfl) ho), ?_⟩
    refine meets_callD (args := #[.int .i64 s.par, .int .i64 t.par]) h1 rfl rfl (by have e1 := (co_val 21 (.int .i64 s.par) hn (of_decide_eq_true (by kernel_rfl)) (by decide) rfl); have e2 := (co_val 23 (.int .i64 t.par) hn (of_decide_eq_true (by kernel_rfl)) (by decide) rfl); simp [e1, e2]) Tryz.func70 (by kernel_rfl) (by kernel_rfl) fun d hd => ?_
    refine (cmp_intE _ _ W).mono ?_
    rintro e W' ⟨rfl, rfl⟩
    exact ⟨_, rfl, Beld.refl _ _, co_put h2 (by decide) rfl d hd⟩
  · obtain ⟨h1, h2⟩ := opG_of (x := .fieldAddr 45 (.tmp 2) 4) (d := some 25) (by kernel_rfl) ho
    refine .inl ⟨free_not (guardG_of (by kernel_rfl) ho), ?_⟩
    exact meets_fieldD h1 (co_val 2 (.pointer (some ⟨w.heap.size, 0, none⟩)) hn (of_decide_eq_true (by kernel_rfl)) (by decide) rfl) (by kernel_rfl : (Instr.fieldAt 45 (.pointer (some ⟨w.heap.size, 0, none⟩)) 4).run Tryz.prog W = .ok (.pointer (some ⟨w.heap.size, 4, none⟩)) W) (co_put h2 (by decide) rfl)
  · obtain ⟨h1, h2⟩ := opG_of (x := .load 43 (.tmp 25)) (d := some 26) (by kernel_rfl) ho
    refine .inl ⟨free_not (guardG_of (by kernel_rfl) ho), ?_⟩
    exact meets_loadD h1 (co_val 25 (.pointer (some ⟨w.heap.size, 4, none⟩)) hn (of_decide_eq_true (by kernel_rfl)) (by decide) rfl) (loadAt_cell (by kernel_rfl) ((hG.2.1.cell 4).trans rfl)) (co_put h2 (by decide) rfl)
  · obtain ⟨h1, h2⟩ := opG_of (x := .fieldAddr 45 (.tmp 3) 4) (d := some 27) (by kernel_rfl) ho
    refine .inl ⟨free_not (guardG_of (by kernel_rfl) ho), ?_⟩
    exact meets_fieldD h1 (co_val 3 (.pointer (some ⟨w.heap.size + 1, 0, none⟩)) hn (of_decide_eq_true (by kernel_rfl)) (by decide) rfl) (by kernel_rfl : (Instr.fieldAt 45 (.pointer (some ⟨w.heap.size + 1, 0, none⟩)) 4).run Tryz.prog W = .ok (.pointer (some ⟨w.heap.size + 1, 4, none⟩)) W) (co_put h2 (by decide) rfl)
  · obtain ⟨h1, h2⟩ := opG_of (x := .load 43 (.tmp 27)) (d := some 28) (by kernel_rfl) ho
    refine .inl ⟨free_not (guardG_of (by kernel_rfl) ho), ?_⟩
    exact meets_loadD h1 (co_val 27 (.pointer (some ⟨w.heap.size + 1, 4, none⟩)) hn (of_decide_eq_true (by kernel_rfl)) (by decide) rfl) (loadAt_cell (by kernel_rfl) ((hG.2.2.cell 4).trans rfl)) (co_put h2 (by decide) rfl)
  · obtain ⟨h1, h2⟩ := opG_of (x := .call { callee := .value (.func 83), args := #[.tmp 26, .tmp 28], argTypes := #[43, 43] }) (d := some 29) (by kernel_rfl) ho
    refine .inl ⟨free_not (guardG_of (by kernel_rfl) ho), ?_⟩
    refine meets_callD (args := #[.int .u16 s.wait, .int .u16 t.wait]) h1 rfl rfl (by have e1 := (co_val 26 (.int .u16 s.wait) hn (of_decide_eq_true (by kernel_rfl)) (by decide) rfl); have e2 := (co_val 28 (.int .u16 t.wait) hn (of_decide_eq_true (by kernel_rfl)) (by decide) rfl); simp [e1, e2]) Tryz.func83 (by kernel_rfl) (by kernel_rfl) fun d hd => ?_
    refine (cmp_u16E _ _ W).mono ?_
    rintro e W' ⟨rfl, rfl⟩
    exact ⟨_, rfl, Beld.refl _ _, co_put h2 (by decide) rfl d hd⟩
  · obtain ⟨h1, h2⟩ := opG_of (x := .buildSlice 26 5 #[(0, .tmp 9), (1, .tmp 14), (2, .tmp 19), (3, .tmp 24), (4, .tmp 29)]) (d := some 30) (by kernel_rfl) ho
    refine .inl ⟨free_not (guardG_of (by kernel_rfl) ho), ?_⟩
    refine meets_buildD (e := 3) h1 #[.int .i64 (cmpI s.ball t.ball), .int .i64 (cmpI s.need t.need), .int .i64 (cmpI s.str t.str), .int .i64 (cmpI s.par t.par), .int .i64 (cmpI s.wait t.wait)] ?_ (fun d hd => ?_)
    · have e0 := (co_val 9 (.int .i64 (cmpI s.ball t.ball)) hn (of_decide_eq_true (by kernel_rfl)) (by decide) rfl); have e1 := (co_val 14 (.int .i64 (cmpI s.need t.need)) hn (of_decide_eq_true (by kernel_rfl)) (by decide) rfl); have e2 := (co_val 19 (.int .i64 (cmpI s.str t.str)) hn (of_decide_eq_true (by kernel_rfl)) (by decide) rfl); have e3 := (co_val 24 (.int .i64 (cmpI s.par t.par)) hn (of_decide_eq_true (by kernel_rfl)) (by decide) rfl); have e4 := (co_val 29 (.int .i64 (cmpI s.wait t.wait)) hn (of_decide_eq_true (by kernel_rfl)) (by decide) rfl)
      simp only [List.map_toArray, List.map_cons, List.map_nil, e0, e1, e2, e3, e4]
      exact bi_5 W _ _ _ _ _
    · rw [h2] at hd
      obtain rfl := Option.some.inj hd
      unfold coV
      rw [if_pos rfl]
      exact ints_five W _ _ _ _ _
  · obtain ⟨h1, h2⟩ := opG_of (x := .call { callee := .value (.func 69), args := #[.tmp 30], argTypes := #[26] }) (d := some 31) (by kernel_rfl) ho
    refine .inl ⟨free_not (guardG_of (by kernel_rfl) ho), ?_⟩
    obtain ⟨u, k1, k2⟩ := hn 30 (of_decide_eq_true (by kernel_rfl))
    unfold coV at k2
    rw [if_pos rfl] at k2
    refine meets_callD (args := #[u]) h1 rfl rfl (by have e1 : a.eval (.tmp 30) = u := eval_tmp k1; simp [e1]) Tryz.func69 (by kernel_rfl) (by kernel_rfl) fun d hd => ?_
    refine (cmp_OrDO _ _ _ W k2 fun b h => h).mono ?_
    rintro e W' ⟨rfl, hb⟩
    exact ⟨_, rfl, hb, co_put h2 (by decide) rfl d hd⟩
  · obtain ⟨h1, h2⟩ := opG_of (x := .assign (.tmp 31)) (d := some 4) (by kernel_rfl) ho
    refine .inl ⟨free_not (guardG_of (by kernel_rfl) ho), ?_⟩
    exact meets_moveD (.inr h1) (co_put h2 (by decide) (co_val 31 (.int .i64 (cmpO s t)) hn (of_decide_eq_true (by kernel_rfl)) (by decide) rfl))
set_option maxRecDepth 100000 in
set_option maxHeartbeats 2000000 in
theorem or_compareD (s t : Ost) (w : World) : Calls Tryz.prog 41 #[osV s, osV t] w fun e w' => e = .returned (.int .i64 (cmpO s t)) ∧ Beld w.heap.size w w' := by
  have hF := co_freeD s t w
  have hb := beld_twoO w (.cells #[.int .i64 s.ball, .int .i64 s.need, .int .i64 s.str, .int .i64 s.par, .int .u16 s.wait] 45) (.cells #[.int .i64 t.ball, .int .i64 t.need, .int .i64 t.str, .int .i64 t.par, .int .u16 t.wait] 45)
  have h1 := (Blk.new w 45 #[.int .i64 s.ball, .int .i64 s.need, .int .i64 s.str, .int .i64 s.par, .int .u16 s.wait]).alloc (.cells #[.int .i64 t.ball, .int .i64 t.need, .int .i64 t.str, .int .i64 t.par, .int .u16 t.wait] 45)
  have h2 := blk_two w (.cells #[.int .i64 s.ball, .int .i64 s.need, .int .i64 s.str, .int .i64 s.par, .int .u16 s.wait] 45) 45 #[.int .i64 t.ball, .int .i64 t.need, .int .i64 t.str, .int .i64 t.par, .int .u16 t.wait]
  have HG := Lib.hid (⟨hb, h1, h2⟩ : _ ∧ _ ∧ _)
  have HF := Lib.hid hF
  unfold osV
  clear hF hb h1 h2
  go_enter Tryz.func41, Tryz.ntmps41
  go_wp2
  refine wp_region_freeD (by kernel_rfl : _ = coOps) (by kernel_rfl) HF.out (of_decide_eq_true (by kernel_rfl)) HG.out (fun d hd => ?_) ?_
  · simp only [List.mem_cons, List.not_mem_nil, or_false] at hd
    rcases hd with rfl | rfl
    · exact ⟨_, rfl, by unfold coV; rw [if_neg (by decide)]; rfl⟩
    · exact ⟨_, rfl, by unfold coV; rw [if_neg (by decide)]; rfl⟩
  · rintro ⟨⟨l⟩, df⟩ wx hin
    obtain ⟨v4, hv4, hs4⟩ := hin.atG 27 4 (by kernel_rfl)
    have hsz : l.length = 32 := hin.size
    have hdf : df = [] := hin.dfr
    have HG2 := Lib.hid hin.g
    clear hin
    subst hdf
    unfold coV at hs4
    rw [if_neg (by decide)] at hs4
    have hs5 : v4 = .int .i64 (cmpO s t) := hs4
    subst hs5
    clear hs4
    dsimp only at hv4
    obtain ⟨z, hz⟩ : ∃ z, z = cmpO s t := ⟨_, rfl⟩
    rw [← hz] at hv4
    have HZ := Lib.hid hz
    clear hz
    iterate 32 (obtain ⟨_, t, e, h2⟩ := listG_cons hsz; clear hsz; subst e; have hsz := h2; clear h2)
    have e0 := List.eq_nil_of_length_eq_zero hsz
    clear hsz
    subst e0
    simp only [List.getElem?_toArray, List.getElem?_cons_zero, List.getElem?_cons_succ, Option.some.injEq] at hv4
    subst hv4
    go_wp2
    go_ret
    exact ⟨ret_i HZ.out, HG2.out.1⟩
instance instOstJ : Inhabited Ost := ⟨⟨0, 0, 0, 0, 0⟩⟩
def encOs (s : Ost) : List Value := [.int .i64 s.ball, .int .i64 s.need, .int .i64 s.str, .int .i64 s.par, .int .u16 s.wait]
def elOsK (_ : World) (_ : Nat → Prop) (cs : List Value) (x : Ost) : Prop := cs = encOs x
theorem elOsK_good : Good elOsK := ⟨fun h _ _ => h⟩
theorem swoOs : Sort.SWO (ltOf cmpO) where
  irrefl x := by unfold ltOf; rw [decide_eq_false_iff_not]; exact cmpO_irr x
  trans x y z h1 h2 := by
    unfold ltOf at *
    rw [decide_eq_true_eq] at *
    exact cmpO_trans h1 h2
  ntrans x y z h1 h2 := by
    unfold ltOf at *
    rw [decide_eq_false_iff_not, less_iff] at *
    omega
theorem cmpLaysOs (blk off size : Nat) (w : World) : CmpLays Tryz.prog 41 #[] encOs 5 cmpO blk off size w :=
  fun m os dk _ x y => (or_compareD x y _).mono fun e w' h => ⟨h.1, h.2.grown⟩
theorem getD5o {α : Type} [Inhabited α] (l : List α) {i : Nat} (h : i < l.length) : l.toArray[i]! = l[i] := by simp [h]
theorem holds_ownO {l : List Ost} {B g cap : Nat} {W : World} (h : OwnSl 5 elOsK 45 B W (.slice (some ⟨g, 0, none⟩) l.length cap) l) : Sort.HoldsK encOs 5 W g 0 l.toArray := by
  obtain ⟨css, hlen, ho, hsz, hel⟩ := h
  intro t ht
  rw [Sort.size_flatK] at ht
  have htl : t < l.length * 5 := by simpa using ht
  have hi : t / 5 < l.length := by omega
  have hcs : css[t / 5]? = some css[t / 5] := List.getElem?_eq_getElem (by omega)
  have he : css[t / 5] = encOs l[t / 5] := hel (t / 5) l[t / 5] css[t / 5] (List.getElem?_eq_getElem hi) hcs
  have hc5 : t % 5 < (encOs l[t / 5]).length := Nat.mod_lt _ (by decide)
  have hu : css[t / 5][t % 5]? = some (encOs l[t / 5])[t % 5] := by rw [he, List.getElem?_eq_getElem hc5]
  have hf := flatten_get hsz hcs hu
  rw [show t / 5 * 5 + t % 5 = t from by omega] at hf
  refine ⟨?_, by rw [Nat.zero_add]; exact ho.frozenAt t⟩
  rw [Nat.zero_add, ho.cellAt t (by simpa using htl), hf, Sort.get_flatK _ _ _ _ ht, getD5o l hi]
  have : (encOs l[t / 5])[t % 5]! = (encOs l[t / 5])[t % 5] := getElem!_pos (encOs l[t / 5]) (t % 5) hc5
  rw [this]
  rfl
theorem sl_holdsO {l : List Ost} {g cap n : Nat} {W : World} (hn : n = l.length) (h1 : l.length ≤ cap) (h2 : cap ≤ maxLen) (h : Sort.HoldsK encOs 5 W g 0 l.toArray) : Sl 5 elOsK W (fun b => b = g) (.slice (some ⟨g, 0, none⟩) n cap) l := by
  subst hn
  refine ⟨_, cap, rfl, h1, h2, fun _ => ⟨g, 0, rfl, rfl, fun i a hi => ?_⟩⟩
  have hil := (List.getElem?_eq_some_iff.1 hi).1
  have hia : l[i] = a := (List.getElem?_eq_some_iff.1 hi).2
  refine ⟨encOs a, rfl, fun j u hj => ?_, rfl⟩
  have hj5 : j < 5 := (List.getElem?_eq_some_iff.1 hj).1
  have := (h.cell (i := i) (c := j) (by simpa using hil) hj5).1
  rw [this, getD5o l hil, hia, getElem!_pos (encOs a) j (show j < (encOs a).length from hj5)]
  exact congrArg some (List.getElem?_eq_some_iff.1 hj).2
theorem only_sortedO {w : World} {g n : Nat} {os : Array Obj} (d : Array Ost) : Only g w (sortWorldK encOs 5 w g 0 n d os) := by
  refine ⟨rfl, rfl, rfl, by simp [sortWorldK, Sort.putRowK, Sort.putRow, Sort.mapBlock, Sort.grow, Sort.ahead], fun k hk hne => ?_⟩
  unfold sortWorldK Sort.putRowK
  rw [Sort.heap_grow_old _ _ (by simpa using hk)]
  have : g ≠ k := fun e => hne (by rw [e])
  simp [Sort.putRow, Sort.mapBlock, Sort.ahead, Array.getElem?_modify, this]
set_option maxHeartbeats 1000000 in
theorem ost_Sort (l : List Ost) (B g cap : Nat) (W : World) (h : OwnSl 5 elOsK 45 B W (.slice (some ⟨g, 0, none⟩) l.length cap) l) (hl : l.length ≤ 1000000000000) :
    Calls Tryz.prog 99 #[.slice (some ⟨g, 0, none⟩) l.length cap, .func (.func 41) #[] #[]] W fun e w' => e = .returned (.tuple #[]) ∧
      ∃ l' : List Ost, l'.Perm l ∧ l'.length = l.length ∧ (l'.Pairwise fun a b => ¬ cmpO b a < 0) ∧ Sl 5 elOsK w' (fun b => b = g) (.slice (some ⟨g, 0, none⟩) l.length cap) l' ∧ Only g W w' := by
  have hb := h.block g rfl
  have hcap : l.length ≤ cap ∧ cap ≤ maxLen := by
    obtain ⟨css, hlen, ho, _⟩ := h
    rcases ho.2 with ⟨hv, _⟩ | ⟨g', cap', cur, hv, _, _, h1, h2, _⟩
    · cases hv
    · injection hv with _ _ e; subst e; exact ⟨h1, h2⟩
  have eg : ∀ args w, (callFunc 41 args).run Tryz.prog w = .ok (.enter 41 args) w := enters_of Tryz.func41 (by kernel_rfl) rfl
  have hH := holds_ownO h
  have hcon := AnyQ.slices_SortFunc Tryz.sortOst 5 Tryz.isAgg45 Tryz.sizeOf45 encOs (fun _ => rfl) (fun x v hv => by simp [encOs] at hv; rcases hv with rfl | rfl | rfl | rfl | rfl <;> rfl) cmpO swoOs 41 #[] g 0 cap l.toArray W eg (cmpLaysOs g 0 l.toArray.size W) hH hb.2 (by simp; omega)
  change Calls Tryz.prog 99 _ _ _ at hcon
  have hsz : l.toArray.size = l.length := by simp
  rw [hsz] at hcon
  refine hcon.mono ?_
  rintro e w' ⟨rfl, d', n, os, hp, hs, rfl⟩
  have hds : d'.size = l.length := by rw [hp.1]; simp
  refine ⟨rfl, d'.toList, ?_, by simpa using hds, ?_, ?_, only_sortedO d'⟩
  · have := hp.2.2
    rw [show d'.extract 0 l.length = d' from by rw [← hds]; simp, show l.toArray.extract 0 l.length = l.toArray from by simp] at this
    simpa using this
  · rw [List.pairwise_iff_getElem]
    intro i j hi hj hij
    have := hs i j (Nat.zero_le _) hij (by rw [← hds]; simpa using hj)
    unfold ltOf at this
    rw [getElem!_pos d' j (by simpa using hj), getElem!_pos d' i (by simpa using hi)] at this
    simpa using this
  · have hH2 := holdsK_sortWorldK_c encOs 5 W g 0 l.toArray d' n os hH hb.2 (by rw [hds]; simp)
    refine sl_holdsO (by simpa using hds.symm) (by simp; omega) hcap.2 ?_
    simpa using hH2
end Go.Proofs.YtdlmmbfnmnglaaaGreatDoor
set_option linter.unusedSimpArgs false
set_option linter.unusedVariables false
namespace Go.Proofs.YtdlmmbfnmnglaaaGreatDoor
open Go.RowKit Go.Maps Go.Shelf
attribute [local go_sem] Oper.semAt_some

/-- What keys have come out of a map, in any order: each once. -/
structure CollKO (D : DataW Unit) (left : Lit → Bool) (l : List Ost) : Prop where
  has : ∀ s ∈ l, Maps.has D (keyOs s) = true ∧ left (keyOs s) = false ∧ SmolO s
  all : ∀ s, SmolO s → Maps.has D (keyOs s) = true → left (keyOs s) = false → s ∈ l
  one : l.Nodup
theorem CollKO.start (D : DataW Unit) : CollKO D (Maps.has D) [] := ⟨fun e he => (by cases he), fun s _ h1 h2 => (by rw [h1] at h2; cases h2), List.nodup_nil⟩
theorem CollKO.step {D : DataW Unit} {left : Lit → Bool} {l : List Ost} (h : CollKO D left l) {e : Ost} (h1 : Maps.has D (keyOs e) = true) (h2 : left (keyOs e) = true) (h3 : SmolO e) :
    CollKO D (fun z => left z && !z.sameKey (keyOs e)) (l ++ [e]) := by
  refine ⟨fun x hx => ?_, fun s hs hh hl => ?_, ?_⟩
  · rcases List.mem_append.1 hx with hx | hx
    · obtain ⟨k1, k2, k3⟩ := h.has x hx
      exact ⟨k1, by rw [k2]; rfl, k3⟩
    · simp at hx; subst hx
      exact ⟨h1, by rw [WideAt.sameKey_self (okey_lit _)]; simp, h3⟩
  · cases hc : left (keyOs s)
    · exact List.mem_append.2 (.inl (h.all s hs hh hc))
    · rw [hc] at hl
      by_cases e2 : e = s
      · simp [e2]
      · exfalso
        have : (keyOs s).sameKey (keyOs e) = false := Go.Maps.sameKey_ne fun e3 => e2 (okey_inj h3 hs e3.symm)
        rw [this] at hl; cases hl
  · rw [List.nodup_append]
    refine ⟨h.one, by simp, fun x hx y hy e2 => ?_⟩
    simp at hy; subst hy e2
    obtain ⟨_, k2, _⟩ := h.has x hx
    rw [h2] at k2; cases k2
set_option maxRecDepth 100000 in
set_option maxHeartbeats 2000000 in
theorem or_keys1 (c : Chs) (hc : OkT c) (F : Fence) (n : Nat) (hf : F.fn 100) (hro : F.round = none) (hn : 1 ≤ n) (l Bm b nn : Nat) (D0 : DataW Unit) (hk : KnownO c D0) (J Jx : List Ost → World → Prop)
    (hY : ∀ pre x W, J pre W → pre.length < Maps.size D0 → YieldAt F (n - 1) Tryz.prog l #[osV x] W fun e W' =>
      (e = .returned (.bool true) ∧ J (pre ++ [x]) W' ∧ KeepsWalks W W') ∨ (e = .returned (.bool false) ∧ Jx (pre ++ [x]) W'))
    (W : World) (hJ : AbidesFrom W.heap.size J) (hm : W.cell? ⟨Bm, 0, none⟩ = some (.map (some b))) (hown : ValsO W b nn D0) (h0 : J [] W) :
    CallsIn F n Tryz.prog 100 #[.func (.yield l) #[] #[], .pointer (some ⟨Bm, 0, none⟩)] W fun e W' => (∃ v, e = .returned v) ∧
      ((∃ ss : List Ost, (CollKO D0 (fun _ => false) ss ∧ ss.length ≤ Maps.size D0) ∧ J ss W') ∨ (∃ pre : List Ost, True ∧ Jx pre W')) := by
  refine callsIn_of_wp Tryz.func100 rfl hf ?_ hro
  simp only [Tryz.ntmps100, List.size_toArray, List.length_cons, List.length_nil, Nat.reduceAdd, Nat.reduceSub, Array.replicate_succ, Array.replicate_zero, List.push_toArray, List.append_toArray, List.nil_append, List.cons_append]
  gi_wp2_with (gi_at_range; refine wpListIn_range_own _ rfl _ 81 rfl 45 2 law45 Tryz.underlying81 (plainElem Tryz.prog 2) b nn D0 rfl hown ?_; intro w0 hrg0 hg0 hs0)
  go_frame
  gi_loopw [3] (fun _ wr => ∃ (left : Lit → Bool) (cnt : Nat) (ss : List Ost), wr.ranges Tryz.prog 45 (plainElem Tryz.prog 2) b W.heap.size nn D0 left cnt ∧ ss.length + cnt ≤ Maps.size D0 ∧ CollKO D0 left ss ∧ J ss wr)
    (fun _ wr => wr.rangeLeft b W.heap.size)
  case atStart => exact ⟨_, _, [], hrg0, by simp, CollKO.start D0, hJ [] W w0 none h0 hg0 (fun r e => by cases e)⟩
  case round =>
    obtain ⟨left, cnt, ss, hrg, hcs, hC, hJs⟩ := hrel
    gi_wp2_with (gi_at_next; refine wpListIn_next_ranges _ rfl _ rfl 45 law45 (plainElem Tryz.prog 2) (fun v : Value => v) (Value.int .i64) (fun key kl _ => ⟨key, rfl⟩) (fun v y hv => by obtain ⟨c9, rfl, _⟩ := plainElem_int_inv Tryz.underlying2 hv; exact ⟨c9, rfl⟩) b W.heap.size nn _ _ _ rfl hrg ?_ ?_)
    · intro hc0 hl0
      have hle : left = fun _ => false := funext hl0
      gi_wp2
      go_end0
      exact ⟨⟨_, rfl⟩, .inl ⟨ss, ⟨by rw [← hle]; exact hC, by omega⟩, hJs⟩⟩
    · intro x cc kl y1 y2 w2 cnt2 hkey hlk hRv hat hrg2 hlt hg2 hs2 hen
      have hhas := has_true_of_atKey hat
      obtain ⟨s, rfl, rfl, hs⟩ := keyO_inv hc hk hkey hhas
      have hC2 := hC.step hhas hlk (hs.smol hc)
      have hJ2 : J ss w2 := hJ ss wr w2 (some W.heap.size) hJs hg2 (fun r e => by cases e; exact ⟨Nat.le_refl _, hrg.iter_walk⟩)
      obtain ⟨⟨q0, q1, q2, q3, q4⟩, hq⟩ : ∃ x, x = s := ⟨_, rfl⟩
      have hJ3 : J ss (w2.alloc (.cells #[.int .i64 q0, .int .i64 q1, .int .i64 q2, .int .i64 q3, .int .u16 q4] 45)) := hJ ss w2 _ none hJ2 (World.grownBy_alloc _ _ _) (fun r e => by cases e)
      obtain ⟨fn, tmps, assign, body, hy, hR⟩ := hY ss s _ hJ3 (by omega)
      rw [← hq] at hy hen hR
      unfold osV at hy hen
      dsimp only at hy hen
      have HR := Lib.hid hR
      have HC2 := Lib.hid hC2
      have HRG2 := Lib.hid (hrg2.alloc (.cells #[.int .i64 q0, .int .i64 q1, .int .i64 q2, .int .i64 q3, .int .u16 q4] 45))
      have HLT := Lib.hid hlt
      have HCS := Lib.hid hcs
      have HRG := Lib.hid hrg
      clear hs2 hR hC2 hJ2 hJ3 hJs hC hkey hlk hRv hat hrg2 hlt hg2 hhas hs hcs hrg hJ hY
      gi_wp2
      refine HR.out.mono ?_
      rintro e W3 (⟨rfl, hJ3, hk3⟩ | ⟨rfl, hJx3⟩)
      · have HRG3 := Lib.hid (HRG2.out.of_walks hk3)
        have HJ3 := Lib.hid hJ3
        clear hJ3 hk3
        gi_wp2
        go_roundw
        case rel => exact ⟨_, cnt2, ss ++ [s], HRG3.out, by have h1 := HCS.out; have h2 := HLT.out; simp; omega, HC2.out, by rw [hq] at HJ3; exact HJ3.out⟩
        case measure => rw [HRG3.out.left_eq, HRG.out.left_eq]; exact HLT.out
      · gi_wp2
        refine bodyPost_ret (results_none rfl _ _ _) rfl ?_
        exact ⟨⟨_, rfl⟩, .inr ⟨_, trivial, hJx3⟩⟩
/-- maps.Keys hands back a value that stops. -/
theorem or_keys_stops (c : Chs) (hc : OkT c) (F : Fence) (n : Nat) (hf : F.fn 100) (hro : F.round = none) (hn : 1 ≤ n) (Bm b nn : Nat) (D0 : DataW Unit) (hk : KnownO c D0) (w : World) (hBm : Bm < w.heap.size)
    (hm : w.cell? ⟨Bm, 0, none⟩ = some (.map (some b))) (hown : ValsO w b nn D0) :
    SeqStops F n Tryz.prog 100 #[.pointer (some ⟨Bm, 0, none⟩)] osV (fun ss => CollKO D0 (fun _ => false) ss ∧ ss.length ≤ Maps.size D0) (fun _ => True) (Maps.size D0) w := fun l J Jx W hW hJ _ hY h0 => by
  exact or_keys1 c hc F n hf hro hn l Bm b nn D0 hk J Jx hY W hJ ((hW.cell (p := ⟨Bm, 0, none⟩) hBm).trans hm) (ovals_below hown hW) h0
set_option maxHeartbeats 1000000 in
theorem or_keys (F : Fence) (n : Nat) (hf : F.fn 54) (hro : F.round = none) (mb : Option Nat) (w : World) :
    CallsIn F n Tryz.prog 54 #[.map mb] w fun e w' => e = .returned (.func (.func 100) #[] #[.pointer (some ⟨w.heap.size, 0, none⟩)]) ∧ w' = w.alloc (.cells #[.map mb] 81) := by
  refine callsIn_of_wp Tryz.func54 rfl hf ?_ hro
  simp only [Tryz.ntmps54, List.size_toArray, List.length_cons, List.length_nil, Nat.reduceAdd, Nat.reduceSub, Array.replicate_succ, Array.replicate_zero, List.push_toArray, List.append_toArray, List.nil_append, List.cons_append]
  gi_wp2
  go_ret
  exact ⟨rfl, rfl⟩
end Go.Proofs.YtdlmmbfnmnglaaaGreatDoor
set_option linter.unusedSimpArgs false
set_option linter.unusedVariables false
namespace Go.Proofs.YtdlmmbfnmnglaaaGreatDoor
open Go.RowKit Go.Maps Go.Shelf
attribute [local go_sem] Oper.semAt_some

theorem infoOst : (Tryz.prog.info? 45).map (fun i => (i.zero, i.size, i.bytes)) = some (some (.agg #[.int .i64 0, .int .i64 0, .int .i64 0, .int .i64 0, .int .u16 0]), 5, 40) := by kernel_rfl
theorem row_someO {W : World} {base e size k : Nat} {v : Value} {xs : List Value} (h : W.ownsRow base e size v k xs) (hk : k ≠ 0) : ∃ g cap, v = .slice (some ⟨g, 0, none⟩) k cap := by
  rcases h.2 with ⟨_, h0⟩ | ⟨g, cap, _, e, _⟩
  · exact absurd h0 hk
  · exact ⟨g, cap, e⟩
theorem sl_ost_ne : 97 ≠ 45 := by decide
set_option maxRecDepth 100000 in
set_option maxHeartbeats 4000000 in
theorem or_appendSeq (F : Fence) (n : Nat) (hf : F.fn 127) (hro : F.round = none) (hn : 3 ≤ n) (gf : Nat) (lb : Array Value) (hFg : F.fn gf) (eg : ∀ args w, (callFunc gf args).run Tryz.prog w = .ok (.enter gf args) w)
    (S Sp : List Ost → Prop) (N : Nat) (hN : N ≤ 36000000000) (w : World) (hseq : SeqStops F (n - 1) Tryz.prog gf lb osV S Sp N w) :
    CallsIn F n Tryz.prog 127 #[.slice none 0 0, .func (.func gf) #[] lb] w fun e w' => ∃ (v : Value) (ss : List Ost), e = .returned v ∧ S ss ∧ w'.ownsRow w.heap.size 45 5 v ss.length (ss.map encOs).flatten ∧ Below w.heap.size w w' := by
  have h1 : 1 ≤ n := by omega
  obtain ⟨i0, hi, hz0, hz1, hz2⟩ := info_parts infoOst
  refine callsIn_of_wp_marks Tryz.func127 rfl hf ?_ hro
  simp only [Tryz.ntmps127, List.size_toArray, List.length_cons, List.length_nil, Nat.reduceAdd, Nat.reduceSub, Array.replicate_succ, Array.replicate_zero, List.push_toArray, List.append_toArray, List.nil_append, List.cons_append]
  gi_wp2
  have bO := Boxed.new w 97 (.slice none 0 0)
  have hB0 : Below w.heap.size w (w.alloc (.cells #[.slice none 0 0] 97)) := (Below.refl _ w).alloc (Nat.le_refl _) _
  refine wpIn_rangeFunc_ownH hro h1 (gf := gf) (lb := lb) rfl hFg eg hseq walksK_t walksK_b hB0 (fun _ => rfl)
    (fun pre W => (∃ v, Boxed W w.heap.size 97 v ∧ W.ownsRow w.heap.size 45 5 v pre.length (pre.map encOs).flatten ∧ True) ∧ Below w.heap.size w W)
    (fun _ _ _ => False)
    (OwnFrom.and (Own.from (holdsRow_own w.heap.size w.heap.size 97 45 5 (fun pre : List Ost => pre.length) (fun pre => (pre.map encOs).flatten) (fun _ _ => True)) _) (ownFrom_below (Nat.le_refl _) (by simp)))
    (fun _ _ _ _ _ hs _ _ => hs)
    ⟨⟨_, bO, World.ownsRow_nil _ _ _ _, trivial⟩, hB0⟩
    (fun x a' W => ∃ Bx, w.heap.size < Bx ∧ Blk W Bx 45 (encOs x).toArray ∧ a' = { tmps := #[.slice none 0 0, .func (.func gf) #[] lb, .pointer (some ⟨w.heap.size, 0, none⟩), undef, .slice none 0 0, .pointer (some ⟨Bx, 0, none⟩), .func (.func gf) #[] lb, osV x, undef, undef, undef, undef, undef], defers := [] })
    (fun x a' _ X Y row hs hg hr => by
      obtain ⟨Bx, g1, g2, g3⟩ := hs
      exact ⟨Bx, g1, g2.grown hg (fun e => by obtain ⟨_, o, ho, hc⟩ := hr Bx e; rw [show X.heap[Bx]? = _ from g2] at ho; cases ho; cases hc), g3⟩)
    ?assign ?body ?done ?stop
  case assign =>
    rintro l pre x W K ⟨⟨v, hv, hrow, _⟩, hB⟩ hK
    have hk := fun (Bx : Nat) W' => hK { tmps := #[.slice none 0 0, .func (.func gf) #[] lb, .pointer (some ⟨w.heap.size, 0, none⟩), undef, .slice none 0 0, .pointer (some ⟨Bx, 0, none⟩), .func (.func gf) #[] lb, osV x, undef, undef, undef, undef, undef], defers := [] } W'
    obtain ⟨q0, q1, q2, q3, q4⟩ := x
    unfold osV at hk ⊢
    dsimp only at hk ⊢
    have HK := Lib.hid hk
    have hvl := hv.lt
    clear hk hK
    gi_wp2
    exact HK.out _ _ ((KeepsOthers.alloc _ _).from _) (KeepsWalks.alloc _ _) ⟨⟨v, hv.alloc _, hrow.alloc _, trivial⟩, hB.alloc hB.size _⟩ ⟨W.heap.size, hvl, Blk.new W 45 _, rfl⟩
  case body =>
    rintro l pre x a' W hl _ ⟨⟨v, hv, hrow, _⟩, hB⟩ ⟨Bx, hBx, hbx, rfl⟩ hlt
    have hc := hv.cell
    have hroom : pre.length + 1 ≤ maxLen ∧ (pre.length + 1) * 40 ≤ 140737488355328 := by simp only [maxLen]; omega
    have hfl : ((pre ++ [x]).map encOs).flatten = (pre.map encOs).flatten ++ encOs x := by simp
    have hln : (pre ++ [x]).length = pre.length + 1 := by simp
    obtain ⟨q0, q1, q2, q3, q4⟩ := x
    have c0 := hbx.cell 0
    have c1 := hbx.cell 1
    have c2 := hbx.cell 2
    have c3 := hbx.cell 3
    have c4 := hbx.cell 4
    unfold encOs at c0 c1 c2 c3 c4
    simp only [List.getElem?_toArray, List.getElem?_cons_zero, List.getElem?_cons_succ] at c0 c1 c2 c3 c4
    have HFL := Lib.hid hfl
    have HLN := Lib.hid hln
    have HROOM := Lib.hid hroom
    have HB := Lib.hid hB
    have HV := Lib.hid hv
    have HROW := Lib.hid hrow
    have HBS := Lib.hid hB.size
    unfold osV
    clear hfl hln hroom hB hbx hseq hv hrow hlt
    gi_wp2_with (gi_at_builtin; refine wpListIn_append_own _ rfl _ _ 97 rfl w.heap.size 45 i0 (.agg #[.int .i64 0, .int .i64 0, .int .i64 0, .int .i64 0, .int .u16 0]) 5 40 Tryz.underlying97 hi hz0 hz1 hz2 rfl (by decide) _ _ _ rfl (HROW.out.alloc _) ⟨W.heap.size, 0, none⟩ 1 1 [.int .i64 q0, .int .i64 q1, .int .i64 q2, .int .i64 q3, .int .u16 q4] rfl rfl (cells_new _ _ _ _) (oneCells rfl) HROOM.out.1 HROOM.out.2 (by have := HBS.out; simp; omega) ?_; intro v' w1 hown' hgrow _; obtain ⟨g', cap', rfl⟩ := ownsRow_succ hown'; obtain ⟨hv1, hv2, hr2, hk2, hb2⟩ := HV.out.appended sl_ost_ne HROW.out HBS.out (Nat.le_refl _) hown' hgrow; have hc1 := hv1.cell; have hf1 := hv1.frozen; have HK2 := Lib.hid hk2; have HV2 := Lib.hid hv2; have HR2 := Lib.hid hr2; have HB2 := Lib.hid hb2; clear hc c0 c1 c2 c3 c4 hv1 hv2 hr2 hk2 hb2 hown' hgrow)
    exact ⟨HK2.out.from _, HK2.out.walks, ⟨_, HV2.out, by rw [HFL.out, HLN.out]; exact HR2.out⟩, HB.out.trans HB2.out⟩
  case done =>
    rintro D ys W hD hS ⟨⟨v, hv, hrow, _⟩, hB⟩ hK
    have hc := hv.cell
    gi_wp2
    refine ⟨by simp, .inl ⟨_, _, rfl, run_takeDeferred hK, ?_⟩⟩
    exact ⟨_, results_tmp rfl _ _ _, v, ys, rfl, hS, ownsRow_putObj hrow _ hK rfl, hB.trans (belowK_b (w := w) (Nat.le_refl _) W D _ _ (by simp at hD; omega) hK rfl rfl)⟩
  case stop =>
    rintro D c pre W _ _ h _
    exact h.elim
set_option maxHeartbeats 1000000 in
theorem or_collect (F : Fence) (n : Nat) (hf : F.fn 98) (hf2 : F.fn 127) (hro : F.round = none) (hn : 4 ≤ n) (gf : Nat) (lb : Array Value) (hFg : F.fn gf) (eg : ∀ args w, (callFunc gf args).run Tryz.prog w = .ok (.enter gf args) w)
    (S Sp : List Ost → Prop) (N : Nat) (hN : N ≤ 36000000000) (w : World) (hseq : SeqStops F (n - 1 - 1) Tryz.prog gf lb osV S Sp N w) :
    CallsIn F n Tryz.prog 98 #[.func (.func gf) #[] lb] w fun e w' => ∃ (v : Value) (ss : List Ost), e = .returned v ∧ S ss ∧ w'.ownsRow w.heap.size 45 5 v ss.length (ss.map encOs).flatten ∧ Below w.heap.size w w' := by
  have h1 : 1 ≤ n := by omega
  refine callsIn_of_wp Tryz.func98 rfl hf ?_ hro
  simp only [Tryz.ntmps98, List.size_toArray, List.length_cons, List.length_nil, Nat.reduceAdd, Nat.reduceSub, Array.replicate_succ, Array.replicate_zero, List.push_toArray, List.append_toArray, List.nil_append, List.cons_append]
  gi_wp2_with (gi_at_call 127; refine (or_appendSeq F (n - 1) hf2 hro (by omega) gf lb hFg eg S Sp N hN _ hseq).mono ?_; rintro e w' ⟨v, ss, rfl, hS, hrow, hb⟩)
  go_ret
  exact ⟨v, ss, rfl, hS, hrow, hb⟩
/-- slices.SortedFunc over what maps.Keys hands back: the keys, in order. -/
theorem or_sortedFunc (c : Chs) (hc : OkT c) (r : Ost) (Bm b nn : Nat) (D0 : DataW Unit) (hk : KnownO c D0) (hr : OkOs c r) (hh : Maps.has D0 (keyOs r) = true) (hnn : Maps.size D0 ≤ 36000000000) (w : World) (hBm : Bm < w.heap.size)
    (hm : w.cell? ⟨Bm, 0, none⟩ = some (.map (some b))) (hown : ValsO w b nn D0) :
    Calls Tryz.prog 53 #[.func (.func 100) #[] #[.pointer (some ⟨Bm, 0, none⟩)], .func (.func 41) #[] #[]] w fun e w' => ∃ (g cap : Nat) (l : List Ost), e = .returned (.slice (some ⟨g, 0, none⟩) l.length cap) ∧ (w.heap.size ≤ g ∧ g < w'.heap.size) ∧ l.length ≤ 36000000000 ∧
      (∃ ss, CollKO D0 (fun _ => false) ss ∧ l.Perm ss) ∧ (l.Pairwise fun x y => ¬ cmpO y x < 0) ∧ Sl 5 elOsK w' (fun b => b = g) (.slice (some ⟨g, 0, none⟩) l.length cap) l ∧ Below w.heap.size w w' := by
  refine (callsIn_wide (n := 6)).1 ?_
  have hseq := (or_keys_stops c hc Fence.wide 3 trivial rfl (by omega) Bm b nn D0 hk w hBm hm hown)
  have hcol := or_collect Fence.wide 5 trivial trivial rfl (by omega) 100 #[.pointer (some ⟨Bm, 0, none⟩)] trivial (enters_of Tryz.func100 (by kernel_rfl) rfl) _ _ _ hnn w hseq
  have hsrt := fun (l : List Ost) g cap W h1 h2 => callsIn_wide (n := 5) |>.2 (ost_Sort l w.heap.size g cap W h1 h2)
  refine callsIn_of_wp Tryz.func53 rfl trivial ?_ rfl
  simp only [Tryz.ntmps53, List.size_toArray, List.length_cons, List.length_nil, Nat.reduceAdd, Nat.reduceSub, Array.replicate_succ, Array.replicate_zero, List.push_toArray, List.append_toArray, List.nil_append, List.cons_append]
  have HC := Lib.hid hcol
  have HS := Lib.hid hsrt
  have HK := Lib.hid hk
  clear hseq hcol hsrt hk hm hown
  gi_wp2_with (first
    | (refine ⟨trivial, ?_⟩; gi_at_call 98; refine HC.out.mono ?_; rintro e w2 ⟨v, ss, rfl, ⟨hS, hlen⟩, hrow, hb⟩; obtain ⟨g, cap, rfl⟩ : ∃ g cap, v = .slice (some ⟨g, 0, none⟩) ss.length cap := row_someO hrow (fun h0 => by have h9 := hS.all r (hr.smol hc) hh rfl; rw [List.eq_nil_of_length_eq_zero h0] at h9; cases h9); have HROW := Lib.hid (show OwnSl 5 elOsK 45 w.heap.size w2 (.slice (some ⟨g, 0, none⟩) ss.length cap) ss from ⟨ss.map encOs, by simp, hrow, fun cs h => (by obtain ⟨x, _, rfl⟩ := List.mem_map.1 h; rfl), fun i a cs h1 h2 => (by rw [List.getElem?_map, h1] at h2; exact (Option.some.inj h2).symm)⟩); have HSS := Lib.hid hS; have HLEN := Lib.hid hlen; have HB := Lib.hid hb; clear hS hlen hrow hb)
    | (refine ⟨trivial, ?_⟩; gi_at_call 99; refine (HS.out ss g cap w2 HROW.out (by have := HLEN.out; omega)).mono ?_; rintro e w3 ⟨rfl, l, hp, hl2, hs, hsl, ho⟩; have HP := Lib.hid hp; have HSO := Lib.hid hs; have HL2 := Lib.hid hl2; have HSL := Lib.hid hsl; have HO := Lib.hid ho; clear hp hl2 hs hsl ho))
  go_ret
  exact ⟨g, cap, l, by rw [HL2.out] <;> rfl, ⟨(HROW.out.block g rfl).1, Nat.lt_of_lt_of_le (HROW.out.block g rfl).2 HO.out.size⟩, by have := HLEN.out; have := HL2.out; omega, ⟨ss, HSS.out, HP.out⟩, HSO.out.imp (fun h => by omega), by rw [HL2.out]; exact HSL.out, HB.out.trans (HO.out.below (HROW.out.block g rfl).1 HB.out.size)⟩
end Go.Proofs.YtdlmmbfnmnglaaaGreatDoor
set_option linter.unusedSimpArgs false
set_option linter.unusedVariables false
namespace Go.Proofs.YtdlmmbfnmnglaaaGreatDoor
open Go.RowKit Go.Maps Go.Shelf

def entVO (c : Chs) (s : Ost) : Ove := ⟨s, vO c s⟩
theorem keys_tabO {c : Chs} (ht : OkT c) {D : DataW Unit} (hk : KnownO c D) (hop : ∀ a b : Nat, a < c.ord.length → b < c.ord.length → a ≠ b → Maps.has D (keyOs (openO c a b)) = true) {ss l : List Ost} (hC : CollKO D (fun _ => false) ss) (hp : l.Perm ss) (hs : l.Pairwise fun x y => ¬ cmpO y x < 0) : TabIs c (l.map (entVO c)) := by
  refine ⟨strict_of ?_ ?_, fun e => ?_⟩
  · rw [List.pairwise_map]
    exact hs.imp fun h => leO_iff.2 h
  · rw [List.pairwise_map]
    exact (hp.nodup_iff.2 hC.one).imp fun h => h
  rw [List.mem_map]
  constructor
  · rintro ⟨s, hs2, rfl⟩
    obtain ⟨k1, _, k3⟩ := hC.has s (hp.mem_iff.1 hs2)
    obtain ⟨s', e1, e2, e3⟩ := hk.sub _ k1
    have := okey_inj k3 (e2.smol ht) e1
    subst this
    exact ⟨e3, rfl⟩
  · rintro ⟨h1, h2⟩
    have hh : OkOs c e.st ∧ Maps.has D (keyOs e.st) = true := h1 (fun s => OkOs c s ∧ Maps.has D (keyOs s) = true) (fun a b ha hb hne => ⟨(openO_ok ht ha hb hne).1, hop a b ha hb hne⟩) fun s x hs hx => by
      obtain ⟨i, hi, rfl⟩ := List.getElem_of_mem hx
      obtain ⟨g1, _, g3, _⟩ := nexts_law ht hs.1
      exact ⟨(g3 i hi (by omega)).ok, hk.clo s hs.1 hs.2 _ hx⟩
    exact ⟨e.st, hp.mem_iff.2 (hC.all _ (hh.1.smol ht) hh.2 rfl), by unfold entVO; rw [← h2]⟩
/-- The row of entries under way. -/
structure TlO (wB W : World) (lc : List Ove) (v : Value) : Prop where
  bel : Below wB.heap.size wB W
  own : OwnSl 6 elOv 47 wB.heap.size W v lc
theorem TlO.below {wB W W' : World} {lc : List Ove} {v : Value} (h : TlO wB W lc v) (hb : Below W.heap.size W W') : TlO wB W' lc v := ⟨h.bel.trans (hb.mono h.bel.size), h.own.below elOv_good hb⟩
theorem TlO.app {wB W W' : World} {lc lc' : List Ove} {v v' : Value} (h : TlO wB W lc v) (ho : OwnSl 6 elOv 47 wB.heap.size W' v' lc') (hg : W.grownBy W' v.ownBlock) : TlO wB W' lc' v' := ⟨below_own h.bel h.own hg (Nat.le_refl _) h.bel.size, ho⟩
theorem ostk_at {w : World} {F : Nat → Prop} {A : Option Addr} {n c : Nat} {l : List Ost} (h : Sl 5 elOsK w F (.slice A n c) l) {k : Nat} (hk : k < l.length) :
    ∃ b o, A = some ⟨b, o, none⟩ ∧ F b ∧ w.cell? ⟨b, o + k * 5, none⟩ = some (.int .i64 l[k].ball) ∧ w.cell? ⟨b, o + k * 5 + 1, none⟩ = some (.int .i64 l[k].need) ∧ w.cell? ⟨b, o + k * 5 + 2, none⟩ = some (.int .i64 l[k].str) ∧ w.cell? ⟨b, o + k * 5 + 3, none⟩ = some (.int .i64 l[k].par) ∧ w.cell? ⟨b, o + k * 5 + 4, none⟩ = some (.int .u16 l[k].wait) := by
  obtain ⟨b, o, cs, e, hF, hcs, hcell, hel⟩ := h.at hk
  have hel : cs = _ := hel
  subst hel
  exact ⟨b, o, e, hF, hcell 0 _ rfl, hcell 1 _ rfl, hcell 2 _ rfl, hcell 3 _ rfl, hcell 4 _ rfl⟩
set_option maxRecDepth 100000 in
set_option maxHeartbeats 8000000 in
theorem or_Table (c : Chs) (bv wv pv ov : Value) (w : World) (h : ChAt w (· < w.heap.size) bv wv pv ov c) (h4 : c.bows.length ≤ 4) :
    Calls Tryz.prog 19 #[chV c bv wv pv ov] w (TabPost c w) := by
  obtain ⟨A, ca, rfl, hc1, hc2⟩ := h.mdl.bat.shape
  obtain ⟨A1, ca1, rfl, hc3, hc4⟩ := h.mdl.bow.shape
  obtain ⟨A2, ca2, rfl, hc5, hc6⟩ := h.bow.shape
  obtain ⟨A3, ca3, rfl, hc7, hc8⟩ := h.ord.shape
  have HX := Lib.hid (OTB.new w c (.slice A c.mdl.bats.length ca) (.slice A1 c.mdl.bows.length ca1) (.slice A2 c.bows.length ca2) (.slice A3 c.ord.length ca3))
  have HM := Lib.hid h
  have k1 := fun W (hW : Below w.heap.size w W) => or_Check c _ _ _ _ W (HM.out.below hW)
  unfold chV at k1 ⊢
  obtain ⟨u, hu⟩ : ∃ u, u = checkO c := ⟨_, rfl⟩
  rw [← hu] at k1
  have K1 := Lib.hid k1
  have tok0 : True := trivial
  have hmm := @run_makeMap Tryz.prog
  by_cases h0 : u = 0
  case neg =>
    have HU := Lib.hid hu
    have H0 := Lib.hid h0
    have eu : (u != 0) = true := by simp [h0]
    clear h0 k1 hu h
    go_enter Tryz.func19, Tryz.ntmps19
    go_wp2_with (clear tok0; go_at_call 39; refine (K1.out _ HX.out.bel).mono ?_; rintro e w2 ⟨rfl, hb2⟩; have HX2 := Lib.hid (HX.out.below hb2); clear hb2; have tok1 : True := trivial)
    go_ret2
    exact .inl ⟨by rw [← HU.out]; exact H0.out, by rw [← HU.out] <;> rfl, HX2.out.bel⟩
  have hc0 : checkO c = 0 := by omega
  have ht := okT_of hc0
  have eu : (u != 0) = false := by simp [h0]
  have hnp := ht.np
  have kop := fun (a b : Nat) (ha : a < c.ord.length) (hb : b < c.ord.length) W (hW : Below w.heap.size w W) => or_opened c a b _ _ _ _ W (HM.out.below hW) ht ha hb
  have ksol : ∀ (i j : Nat) (hi : i < c.ord.length) (hj : j < c.ord.length) (hne : i ≠ j) (W : World) (b N : Nat) (hW : TbO w W b N (OpTo c i j) c (.slice A c.mdl.bats.length ca) (.slice A1 c.mdl.bows.length ca1) (.slice A2 c.bows.length ca2) (.slice A3 c.ord.length ca3)) (hN : N + cntR 8 ≤ 2000000000000000000), Calls Tryz.prog 52 #[chV c (.slice A c.mdl.bats.length ca) (.slice A1 c.mdl.bows.length ca1) (.slice A2 c.bows.length ca2) (.slice A3 c.ord.length ca3), osV (openO c i j), .map (some b)] W fun e W' => e = .returned (.int .i64 (vO c (openO c i j))) ∧ TbO w W' b (N + cntR 8) (OpTo c i (j + 1)) c (.slice A c.mdl.bats.length ca) (.slice A1 c.mdl.bows.length ca1) (.slice A2 c.bows.length ca2) (.slice A3 c.ord.length ca3) := fun i j hi hj hne W b N hW hN => by
    obtain ⟨q1, q2, q3⟩ := openO_ok ht hi hj hne
    obtain ⟨D, d1, d2, d3⟩ := hW.vals
    have hbb := hW.hb
    have hr8 : rankO c (openO c i j) ≤ 8 := by unfold rankO; rw [q2, q3]; simp; omega
    have hc8 := cntR_mono hr8
    refine (or_solve c ht _ (openO c i j) rfl q1 (ReachO.op hi hj hne) _ _ _ _ (· < w.heap.size) b N D W (HM.out.keep (Same.of_below hW.base.bel) fun _ h => h) (fun x hx => ⟨Nat.lt_of_lt_of_le hx hW.base.bel.size, by have : x < w.heap.size := hx; omega⟩) d1 d2 (by omega)).mono ?_
    rintro e W' ⟨a1, a2, D7, a3, a4, a5, a6⟩
    exact ⟨a1, hW.into a2 ⟨D7, a3.mono (by omega), a4, d3.step a5 a6⟩⟩
  have hK := cntR8
  obtain ⟨K, hKe⟩ : ∃ K, K = cntR 8 := ⟨_, rfl⟩
  rw [← hKe] at ksol hK
  unfold chV at kop ksol
  have KKE := Lib.hid (fun (mb : Option Nat) W => (callsIn_wide (n := 3)).1 (or_keys Fence.wide 3 trivial rfl mb W))
  have KSR := Lib.hid (fun (Bm b : Nat) (D : DataW Unit) (hk : KnownO c D) (hh : OpTo c c.ord.length 0 D) W (hB : Bm < W.heap.size) (hm : W.cell? ⟨Bm, 0, none⟩ = some (.map (some b))) (hv : ValsO W b 36000000000 D) => or_sortedFunc c ht (openO c 0 1) Bm b 36000000000 D hk (openO_ok ht (a := 0) (b := 1) (by omega) (by omega) (by decide)).1 (hh 0 1 (.inl (by omega)) (by omega) (by omega) (by decide)) hv.size_le W hB hm hv)
  have HTAB := Lib.hid (fun (D : DataW Unit) (ss l : List Ost) (hk : KnownO c D) (hop : OpTo c c.ord.length 0 D) (hC : CollKO D (fun _ => false) ss) (hp : l.Perm ss) (hs2 : l.Pairwise fun x y => ¬ cmpO y x < 0) => keys_tabO ht hk (fun a b ha hb hne => hop a b (.inl ha) ha hb hne) hC hp hs2)
  have HIN := Lib.hid (fun (D : DataW Unit) (ss l : List Ost) (hk : KnownO c D) (hC : CollKO D (fun _ => false) ss) (hp : l.Perm ss) (k : Nat) (hk2 : k < l.length) => (by
    obtain ⟨k1, _, k3⟩ := hC.has _ (hp.mem_iff.1 (List.getElem_mem hk2))
    obtain ⟨s', e1, e2, e3⟩ := hk.sub _ k1
    have e4 := okey_inj k3 (e2.smol ht) e1
    rw [← e4] at e2
    exact ⟨hk.val _ e2 k1, okey_of k3⟩ : D.atKey (keyOs l[k]) (.lit (.int .i64 0)) = .lit (.int .i64 (vO c l[k])) ∧ keyOf Tryz.prog 45 (osV l[k]) = some (keyOs l[k])))
  have KOP := Lib.hid kop
  have KSOL := Lib.hid ksol
  have HC0 := Lib.hid hc0
  obtain ⟨hnp1, hnp2⟩ := hnp
  clear h0 k1 hu h ht kop ksol hKe h4 hc0
  go_enter Tryz.func19, Tryz.ntmps19
  go_wp2_with (clear tok0; go_at_call 39; refine (K1.out _ HX.out.bel).mono ?_; rintro e w2 ⟨rfl, hb2⟩; have HX2 := Lib.hid (HX.out.below hb2); obtain ⟨x0, x1, x2, x3, x4, x5, x6⟩ := HX2.out.cells; have hl1 := HX2.out.box.lt; clear hb2; have tok1 : True := trivial)
  go_loopw [20] (fun i wr => ∃ (a : Nat), a ≤ c.ord.length ∧ i = .int .i64 a ∧ Hid (TbO w wr w2.heap.size (a * 6 * K) (OpTo c a 0) c (.slice A c.mdl.bats.length ca) (.slice A1 c.mdl.bows.length ca1) (.slice A2 c.bows.length ca2) (.slice A3 c.ord.length ca3))) (fun i _ => c.ord.length - (intOf i).toNat)
  case atStart => exact ⟨0, Nat.zero_le _, rfl, Lib.hid (by first | (rw [Nat.zero_mul]; exact TbO.new HX2.out) | (rw [Nat.zero_mul, Nat.zero_mul]; exact TbO.new HX2.out))⟩
  case round =>
    clear x0 x1 x2 x3 x4 x5 x6 hl1
    obtain ⟨a, ha, rfl, HS⟩ := hrel
    obtain ⟨x0, x1, x2, x3, x4, x5, x6⟩ := HS.out.cells
    obtain ⟨wo, hwo⟩ : ∃ wo : World, wo = wr := ⟨_, rfl⟩
    subst hwo
    by_cases hat : a < c.ord.length
    · go_wp2
      go_loopw [26] (fun i wr => ∃ (b : Nat), b ≤ c.ord.length ∧ i = .int .i64 b ∧ Hid (TbO w wr w2.heap.size ((a * 6 + b) * K) (OpTo c a b) c (.slice A c.mdl.bats.length ca) (.slice A1 c.mdl.bows.length ca1) (.slice A2 c.bows.length ca2) (.slice A3 c.ord.length ca3))) (fun i _ => c.ord.length - (intOf i).toNat)
      case atStart => exact ⟨0, Nat.zero_le _, rfl, HS⟩
      case round =>
        clear x0 x1 x2 x3 x4 x5 x6 HS
        obtain ⟨b, hb, rfl, HS⟩ := hrel
        obtain ⟨x0, x1, x2, x3, x4, x5, x6⟩ := HS.out.cells
        by_cases hbt : b < c.ord.length
        · by_cases hab : a = b
          · have e1 : ((a : Int) != (b : Int)) = false := by rw [hab]; simp
            have HS2 := Lib.hid (show TbO w wr w2.heap.size ((a * 6 + (b + 1)) * K) (OpTo c a (b + 1)) c (.slice A c.mdl.bats.length ca) (.slice A1 c.mdl.bows.length ca1) (.slice A2 c.bows.length ca2) (.slice A3 c.ord.length ca3) from HS.out.le (Nat.mul_le_mul_right K (by omega)) (fun D h => by subst hab; exact h.same))
            clear hab
            go_wp2
            go_roundw
            case rel => exact ⟨b + 1, by omega, by go_num, HS2⟩
            case measure => simp [intOf]; omega
          · have e1 : ((a : Int) != (b : Int)) = true := by simp; omega
            have kO := KOP.out a b hat hbt
            have kR := KSOL.out a b hat hbt hab
            obtain ⟨⟨t0, t1, t2, t3, t4⟩, hs'⟩ : ∃ x, x = openO c a b := ⟨_, rfl⟩
            simp only [← hs'] at kO kR
            obtain ⟨vv, hvv'⟩ : ∃ x, x = vO c ⟨t0, t1, t2, t3, t4⟩ := ⟨_, rfl⟩
            simp only [← hvv'] at kR
            unfold osV at kO kR
            dsimp only at kO kR
            have hkK : (a * 6 + b) * K + K ≤ 2000000000000000000 := by have := Nat.mul_le_mul_right K (show (a * 6 + b) + 1 ≤ 36 by omega); rw [Nat.add_mul, Nat.one_mul] at this; omega
            have hkk : (a * 6 + (b + 1)) * K = (a * 6 + b) * K + K := by rw [show a * 6 + (b + 1) = (a * 6 + b) + 1 by omega, Nat.add_mul (a * 6 + b), Nat.one_mul]
            have KO := Lib.hid kO
            have KR := Lib.hid kR
            have HKK := Lib.hid hkk
            have HHK := Lib.hid hkK
            clear kO kR hs' hvv' hkk hkK hab
            go_wp2
            have HSD := Lib.hid HS.out.drew
            clear x0 x1 x2 x3 x4 x5 x6
            obtain ⟨x0, x1, x2, x3, x4, x5, x6⟩ := HSD.out.cells
            have tok9 : True := trivial
            go_region_held3 (fun w' => w'.cell? ⟨w.heap.size, 0, none⟩ = some (.slice A c.mdl.bats.length ca) ∧ w'.cell? ⟨w.heap.size, 1, none⟩ = some (.slice A1 c.mdl.bows.length ca1) ∧ w'.cell? ⟨w.heap.size, 2, none⟩ = some (.slice A2 c.bows.length ca2) ∧ w'.cell? ⟨w.heap.size, 3, none⟩ = some (.int .i64 c.over) ∧ w'.cell? ⟨w.heap.size, 4, none⟩ = some (.int .i64 c.done) ∧ w'.cell? ⟨w.heap.size, 5, none⟩ = some (.int .i64 c.need) ∧ w'.cell? ⟨w.heap.size, 6, none⟩ = some (.slice A3 c.ord.length ca3)) (first | exact ⟨x0, x1, x2, x3, x4, x5, x6⟩ | go_keep) (first
              | (clear tok9; go_at_call 43; refine (KO.out _ HSD.out.base.bel).mono ?_; rintro e w6 ⟨rfl, hb6⟩; have HS6 := Lib.hid (HSD.out.below hb6); clear x0 x1 x2 x3 x4 x5 x6; obtain ⟨x0, x1, x2, x3, x4, x5, x6⟩ := HS6.out.cells; clear hb6; have tok10 : True := trivial)
              | (clear tok10; go_at_call 52; refine (KR.out _ _ _ HS6.out HHK.out).mono ?_; rintro e w7 ⟨rfl, hs7⟩; have HS7 := Lib.hid hs7; clear x0 x1 x2 x3 x4 x5 x6; obtain ⟨x0, x1, x2, x3, x4, x5, x6⟩ := HS7.out.cells; clear hs7; have tok11 : True := trivial))
            all_goals go_wp2
            all_goals go_roundw
            case rel => exact ⟨b + 1, by omega, by go_num, Lib.hid (by rw [HKK.out]; exact HS7.out)⟩
            case measure => simp [intOf]; omega
        · obtain rfl : b = c.ord.length := by omega
          have HS2 := Lib.hid (show TbO w wr w2.heap.size ((a + 1) * 6 * K) (OpTo c (a + 1) 0) c (.slice A c.mdl.bats.length ca) (.slice A1 c.mdl.bows.length ca1) (.slice A2 c.bows.length ca2) (.slice A3 c.ord.length ca3) from HS.out.le (Nat.mul_le_mul_right K (by omega)) (fun D h => h.row))
          clear HS
          go_wp2
          go_roundw
          case rel => exact ⟨a + 1, by omega, by go_num, HS2⟩
          case measure => simp [intOf]; omega
    · obtain rfl : a = c.ord.length := by omega
      obtain ⟨D, hv, hk, hp⟩ := HS.out.vals
      have hv := hv.mono (show c.ord.length * 6 * K ≤ 36000000000 from by have := Nat.mul_le_mul_right K (show c.ord.length * 6 ≤ 36 by omega); omega)
      have HV := Lib.hid hv
      have HKN := Lib.hid hk
      have HP := Lib.hid hp
      have HBL := Lib.hid HS.out.base.bel
      have HSIZE := Lib.hid hv.size_le
      clear hv hk hp hmm
      have tok3 : True := trivial
      clear x0 x1 x2 x3 x4 x5 x6
      go_wp2_with (first
        | (clear tok3; go_at_call 54; refine (KKE.out _ _).mono ?_; rintro e w4 ⟨rfl, hw4⟩; have HV4 := Lib.hid (show ValsO w4 w2.heap.size 36000000000 D from by rw [hw4]; exact ovals_below HV.out (Below.alloc (Below.refl _ _) (Nat.le_refl _) _)); have HBX := Lib.hid (show wo.heap.size < w4.heap.size ∧ w4.cell? ⟨wo.heap.size, 0, none⟩ = some (.map (some w2.heap.size)) from by rw [hw4]; exact ⟨by simp, (Blk.new wo 81 #[.map (some w2.heap.size)]).cell 0⟩); have HB4 := Lib.hid (show Below wo.heap.size wo w4 from by rw [hw4]; exact Below.alloc (Below.refl _ _) (Nat.le_refl _) _); clear hw4; have tok4 : True := trivial)
        | (clear tok4; go_at_call 53; refine (KSR.out _ _ _ HKN.out HP.out _ HBX.out.1 HBX.out.2 HV4.out).mono ?_; rintro e w5 ⟨gl, cl, l, rfl, hgl, hln, ⟨ss, hC, hp⟩, hso, hsl, hb5⟩; have HC := Lib.hid hC; have HPM := Lib.hid hp; have HSO := Lib.hid hso; have HSL := Lib.hid (hsl.keep elOsK_good (G := (· < w5.heap.size)) (Same.refl _ _) (fun b hb => by rw [hb]; exact hgl.2)); have HB5 := Lib.hid hb5; have HV5 := Lib.hid (ovals_below HV4.out hb5); have HLN := Lib.hid hln; clear hC hp hso hsl hb5 hgl hln; have tok5 : True := trivial))
      have HL := Lib.hid (fun (k : Nat) (hk : k < l.length) => HIN.out D ss l HKN.out HC.out HPM.out k hk)
      have HTI := Lib.hid (HTAB.out D ss l HKN.out HP.out HC.out HPM.out HSO.out)
      have HT0 := Lib.hid (show TlO w5 w5 [] (.slice none 0 0) from ⟨Below.refl _ _, OwnSl.nil _⟩)
      have HBA := Lib.hid (HBL.out.trans ((HB4.out.trans (HB5.out.mono HB4.out.size)).mono HBL.out.size))
      have HSZ := Lib.hid (show w.heap.size ≤ w5.heap.size from HBA.out.size)
      clear HIN HTAB HC HP HSO HPM HBX HB4 HB5 HV4 HX2 KSR KKE K1 HX HKN HSIZE KOP KSOL
      go_loopw [8, 45] (fun v i wr => ∃ (k : Nat) (lc : List Ove) (Ao : Option Addr) (no co : Nat), k ≤ l.length ∧ i = .int .i64 k ∧ v = .slice Ao no co ∧ Hid (TlO w5 wr lc (.slice Ao no co)) ∧ Hid (lc = (l.take k).map (entVO c))) (fun _ i _ => l.length - (intOf i).toNat)
      case atStart => exact ⟨0, [], none, 0, 0, Nat.zero_le _, rfl, rfl, HT0, Lib.hid (by simp)⟩
      case round =>
        clear HT0
        obtain ⟨k, lc, Ao, no, co, hk, rfl, rfl, HT, HLC⟩ := hrel
        have hll : l.length ≤ 36000000000 := HLN.out
        have hwk : IntKind.i64.wrap ((k : Int) + 1) = (k : Int) + 1 := IntWalk.i64_in _ (by omega)
        by_cases hlt : k < l.length
        · obtain ⟨b0, o0, he0, hbl, yy⟩ := ostk_at HSL.out (k := k) hlt
          obtain ⟨rfl, rfl⟩ : gl = b0 ∧ o0 = 0 := by injection he0 with h9; injection h9 with h8 h7; exact ⟨h8, h7.symm⟩
          simp only [Nat.zero_add] at yy
          obtain ⟨hat, hkey⟩ := HL.out k hlt
          have hnx : (l.take (k + 1)).map (entVO c) = lc ++ [entVO c l[k]] := by rw [HLC.out, List.take_add_one, List.getElem?_eq_getElem hlt, List.map_append]; rfl
          have hlcl : lc.length = k := by rw [HLC.out, List.length_map, List.length_take]; omega
          unfold entVO at hnx
          obtain ⟨vv, hvv⟩ : ∃ x, x = vO c l[k] := ⟨_, rfl⟩
          rw [← hvv] at hat hnx
          obtain ⟨kst, hkst⟩ : ∃ x, x = keyOs l[k] := ⟨_, rfl⟩
          rw [← hkst] at hat hkey
          obtain ⟨⟨q0, q1, q2, q3, q4⟩, hq⟩ : ∃ x, x = l[k] := ⟨_, rfl⟩
          rw [← hq] at hkey hnx
          simp only [← hq] at yy
          unfold osV at hkey
          dsimp only at hkey yy
          obtain ⟨z0, z1, z2, z3, z4⟩ := yy
          have y0 := (HT.out.bel.cell (p := ⟨gl, k * 5, none⟩) hbl).trans z0
          have y1 := (HT.out.bel.cell (p := ⟨gl, k * 5 + 1, none⟩) hbl).trans z1
          have y2 := (HT.out.bel.cell (p := ⟨gl, k * 5 + 2, none⟩) hbl).trans z2
          have y3 := (HT.out.bel.cell (p := ⟨gl, k * 5 + 3, none⟩) hbl).trans z3
          have y4 := (HT.out.bel.cell (p := ⟨gl, k * 5 + 4, none⟩) hbl).trans z4
          have HT1 := Lib.hid (HT.out.below (Below.alloc (Below.refl wr.heap.size wr) (Nat.le_refl _) (.cells #[.int .i64 q0, .int .i64 q1, .int .i64 q2, .int .i64 q3, .int .u16 q4] 45)))
          have HBK := Lib.hid (Blk.new wr 45 #[.int .i64 q0, .int .i64 q1, .int .i64 q2, .int .i64 q3, .int .u16 q4])
          have HVW := Lib.hid (ovals_below HV5.out HT1.out.bel)
          have HKEY := Lib.hid hkey
          have HAT := Lib.hid hat
          have HNX := Lib.hid hnx
          have hroom : lc.length + 1 ≤ maxLen ∧ (lc.length + 1) * 48 ≤ 140737488355328 := by have := HLN.out; rw [hlcl]; simp only [maxLen]; omega
          have HROOM := Lib.hid hroom
          clear hat hkey hnx hlcl hvv hkst hq z0 z1 z2 z3 z4 he0 hroom
          go_wp2
          obtain ⟨W1, hW1⟩ : ∃ W1, W1 = wr.alloc (.cells #[.int .i64 q0, .int .i64 q1, .int .i64 q2, .int .i64 q3, .int .u16 q4] 45) := ⟨_, rfl⟩
          rw [← hW1] at HT1 HBK HVW ⊢
          clear y0 y1 y2 y3 y4 hW1
          have HTD := Lib.hid (HT1.out.below (Below.drew (Below.refl _ _)))
          have HVD := Lib.hid (ovals_below HVW.out (Below.drew (Below.refl _ _)))
          obtain ⟨cc, hrun, hat2, _⟩ := HVD.out.lookup_int law45 Tryz.underlying81 Tryz.underlying2 (zero_i64 _) HKEY.out
          have hcc : cc = vv := (by have := hat2.symm.trans HAT.out; injection this with this; injection this)
          subst hcc
          clear hat2
          have HBD := Lib.hid HBK.out.drew
          have HTA := Lib.hid (((HT1.out.below (Below.alloc (Below.refl W1.heap.size W1) (Nat.le_refl _) (.cells #[.int .i64 q0, .int .i64 q1, .int .i64 q2, .int .i64 q3, .int .u16 q4, .int .i64 cc] 47))).below (Below.drew (Below.refl _ _)) : TlO w5 (W1.alloc (.cells #[.int .i64 q0, .int .i64 q1, .int .i64 q2, .int .i64 q3, .int .u16 q4, .int .i64 cc] 47)).drew lc (.slice Ao no co)))
          have HBA2 := Lib.hid ((HBK.out.alloc (.cells #[.int .i64 q0, .int .i64 q1, .int .i64 q2, .int .i64 q3, .int .u16 q4, .int .i64 cc] 47)).drew)
          have u0 : W1.drew.cell? ⟨wr.heap.size, 0, none⟩ = some (.int .i64 q0) := HBD.out.cell 0
          have u1 : W1.drew.cell? ⟨wr.heap.size, 1, none⟩ = some (.int .i64 q1) := HBD.out.cell 1
          have u2 : W1.drew.cell? ⟨wr.heap.size, 2, none⟩ = some (.int .i64 q2) := HBD.out.cell 2
          have u3 : W1.drew.cell? ⟨wr.heap.size, 3, none⟩ = some (.int .i64 q3) := HBD.out.cell 3
          have u4 : W1.drew.cell? ⟨wr.heap.size, 4, none⟩ = some (.int .u16 q4) := HBD.out.cell 4
          go_region_held3 (fun w' => w'.cell? ⟨wr.heap.size, 0, none⟩ = some (.int .i64 q0) ∧ w'.cell? ⟨wr.heap.size, 1, none⟩ = some (.int .i64 q1) ∧ w'.cell? ⟨wr.heap.size, 2, none⟩ = some (.int .i64 q2) ∧ w'.cell? ⟨wr.heap.size, 3, none⟩ = some (.int .i64 q3) ∧ w'.cell? ⟨wr.heap.size, 4, none⟩ = some (.int .u16 q4)) (first | exact ⟨u0, u1, u2, u3, u4⟩ | exact ⟨HBA2.out.cell 0, HBA2.out.cell 1, HBA2.out.cell 2, HBA2.out.cell 3, HBA2.out.cell 4⟩ | go_keep) ((refine step_append_el rfl (.tmp 49) (.tmp 55) _ rfl E_ov elOv_good _ _ lc rfl HTA.out.own ⟨W1.heap.size, 0, none⟩ 1 [.int .i64 q0, .int .i64 q1, .int .i64 q2, .int .i64 q3, .int .u16 q4, .int .i64 cc] rfl ⟨⟨q0, q1, q2, q3, q4⟩, cc⟩ rfl (fun j u hj => cells_new W1 _ _ _ j u hj) (oneCells rfl) rfl HROOM.out.1 HROOM.out.2 HTA.out.bel.size ?_; intro g6 c6 w6 hown6 hg6 hor; have HN := Lib.hid (HTA.out.app hown6 hg6); have HB6 := HBA2.out.grown hg6 (fun e => by have := (OwnSl.block HT.out.own _ e).2; omega); clear u0 u1 u2 u3 u4; have u0 := HB6.cell 0; have u1 := HB6.cell 1; have u2 := HB6.cell 2; have u3 := HB6.cell 3; have u4 := HB6.cell 4; clear hown6 hg6 hor HB6))
          all_goals go_wp2
          all_goals go_roundw
          case rel =>
            exact ⟨k + 1, lc ++ [⟨⟨q0, q1, q2, q3, q4⟩, _⟩], _, _, _, by omega, by go_num, rfl, HN, Lib.hid HNX.out.symm⟩
          case measure => simp [intOf]; omega
        · obtain rfl : k = l.length := by omega
          have hlc := HLC.out
          rw [List.take_length] at hlc
          have hti := HTI.out
          rw [← hlc] at hti
          obtain ⟨An, cn, hvn, hcn1, hcn2⟩ := (OwnSl.sl elOv_good HT.out.own).shape
          obtain ⟨rfl, rfl, rfl⟩ : Ao = An ∧ no = lc.length ∧ co = cn := by injection hvn with e1 e2 e3; exact ⟨e1, e2, e3⟩
          have HTT := Lib.hid hti
          have HLL := Lib.hid (show lc.length ≤ 36000000000 from by rw [hlc, List.length_map]; exact HLN.out)
          clear hlc hti hvn HLC hwk
          go_wp2
          go_ret2
          exact .inr ⟨HC0.out, Ao, co, lc, rfl, HBA.out.trans (HT.out.bel.mono HSZ.out), HTT.out, HLL.out, own_base HSZ.out HT.out.own⟩
end Go.Proofs.YtdlmmbfnmnglaaaGreatDoor
set_option linter.unusedSimpArgs false
set_option linter.unusedVariables false
namespace Go.Proofs.YtdlmmbfnmnglaaaGreatDoor
open Go.RowKit

theorem neq_ov (p0 p1 p2 p3 p4 vv : Int) (W : World) : (binOp .neq 47 (.agg #[.int .i64 p0, .int .i64 p1, .int .i64 p2, .int .i64 p3, .int .u16 p4, .int .i64 vv]) (.agg #[.int .i64 p0, .int .i64 p1, .int .i64 p2, .int .i64 p3, .int .u16 p4, .int .i64 vv])).run Tryz.prog W = .ok (.bool false) W := by
  simp [go_sem]
set_option maxRecDepth 100000 in
set_option maxHeartbeats 2000000 in
theorem law45_equal (l : List Ove) (v1 v2 : Value) (F1 F2 : Nat → Prop) (w : World) (h1 : Sl 6 elOv w F1 v1 l) (h2 : Sl 6 elOv w F2 v2 l) (hF1 : ∀ b, F1 b → b < w.heap.size) (hF2 : ∀ b, F2 b → b < w.heap.size) (hn : l.length ≤ 36000000000) :
    Calls Tryz.prog 20 #[v1, v2] w fun e w' => e = .returned (.bool true) ∧ Below w.heap.size w w' := by
  obtain ⟨A, c, rfl, hc, hc2⟩ := h1.shape
  obtain ⟨A1, c1, rfl, hc3, hc4⟩ := h2.shape
  have H1 := Lib.hid h1
  have H2 := Lib.hid h2
  have HF1 := Lib.hid hF1
  have HF2 := Lib.hid hF2
  have HB := Lib.hid (Below.refl w.heap.size w)
  clear h1 h2 hF1 hF2
  go_enter Tryz.func20, Tryz.ntmps20
  go_wp2
  go_loopw [13] (fun i wr => ∃ k : Nat, k ≤ l.length ∧ i = .int .i64 k ∧ Hid (Below w.heap.size w wr)) (fun i _ => l.length - (intOf i).toNat)
  case atStart => exact ⟨0, Nat.zero_le _, rfl, HB⟩
  case round =>
    clear HB
    obtain ⟨k, hk, rfl, HB⟩ := hrel
    by_cases hlt : k < l.length
    · obtain ⟨b0, o0, rfl, hb0, yy⟩ := ov_at H1.out (k := k) hlt
      obtain ⟨b1, o1, rfl, hb1, zz⟩ := ov_at H2.out (k := k) hlt
      have yy := six_below HB.out (HF1.out _ hb0) yy
      have zz := six_below HB.out (HF2.out _ hb1) zz
      obtain ⟨⟨⟨p0, p1, p2, p3, p4⟩, vv⟩, hp⟩ : ∃ x, x = l[k]'hlt := ⟨_, rfl⟩
      simp only [← hp] at yy zz
      clear hp
      obtain ⟨y0, y1, y2, y3, y4, y5⟩ := yy
      obtain ⟨z0, z1, z2, z3, z4, z5⟩ := zz
      have hcmp := fun W => neq_ov p0 p1 p2 p3 p4 vv W
      have hwk : IntKind.i64.wrap ((k : Int) + 1) = (k : Int) + 1 := IntWalk.i64_in _ (by omega)
      have HBD := Lib.hid (fun nq => (⟨HB.out.os, HB.out.tape, HB.out.output, HB.out.size, HB.out.block⟩ : Below w.heap.size w (wr.drewN nq)))
      go_wp2
      go_quiet (fail)
      go_wp2
      go_roundw
      case rel => exact ⟨k + 1, by omega, by go_num, Lib.hid (HBD.out _)⟩
      case measure => simp [intOf]; omega
    · obtain rfl : k = l.length := by omega
      go_wp2
      go_ret
      exact ⟨rfl, HB.out⟩
set_option maxRecDepth 100000 in
set_option maxHeartbeats 4000000 in
theorem law_OrderTables (c : Chs) (bv wv pv ov : Value) (w : World) (hg : GlobN w) (h : ChAt w (· < w.heap.size) bv wv pv ov c) :
    Calls Tryz.prog 6 #[chV c bv wv pv ov] w fun e w' => e = .returned (.bool true) ∧ Below w.heap.size w w' := by
  have k1 := fun W (hW : Below w.heap.size w W) => law45_awake W (hg.below hW)
  have k2 := fun W (hW : Below w.heap.size w W) => law45_Small c _ _ _ _ W (h.below hW)
  have kt := fun (h6 : c.bows.length ≤ 4) W (hW : Below w.heap.size w W) => or_Table c bv wv pv ov W (h.below hW) h6
  have kr := fun (h6 : c.bows.length ≤ 4) W (hW : Below w.heap.size w W) => r45_Table c bv wv pv ov W (h.below hW) h6
  have ka := fun (v : Value) (l : List Ove) W (hW : Below w.heap.size w W) (hl : Sl 6 elOv W (· < W.heap.size) v l) (hn : l.length ≤ 1000000000000) (hw : TabW l) => or_Accept c bv wv pv ov v l W (h.below hW) hl hn hw
  have hac := fun (h0 : checkO c = 0) (l : List Ove) (ht : TabIs c l) => ht.accept h0
  unfold chV at k2 kt kr ka ⊢
  obtain ⟨A, ca, rfl, hc1, hc2⟩ := h.mdl.bat.shape
  obtain ⟨A1, ca1, rfl, hc3, hc4⟩ := h.mdl.bow.shape
  obtain ⟨A2, ca2, rfl, hc5, hc6⟩ := h.bow.shape
  obtain ⟨A3, ca3, rfl, hc7, hc8⟩ := h.ord.shape
  have HX0 := Lib.hid (OTB.new w c (.slice A c.mdl.bats.length ca) (.slice A1 c.mdl.bows.length ca1) (.slice A2 c.bows.length ca2) (.slice A3 c.ord.length ca3))
  have K1 := Lib.hid k1
  have tok0 : True := trivial
  cases hs : smallT c
  · rw [hs] at k2
    have K2 := Lib.hid k2
    clear k1 k2 kt kr ka hac hs hg h
    go_enter Tryz.func6, Tryz.ntmps6
    go_wp2_with (first
      | (clear tok0; go_at_call 12; refine (K1.out _ HX0.out.bel).mono ?_; rintro e w1 ⟨rfl, hb⟩; have HX2 := Lib.hid (HX0.out.below hb); obtain ⟨x0, x1, x2, x3, x4, x5, x6⟩ := HX2.out.cells; clear hb; have tok1 : True := trivial)
      | (clear tok1; go_at_call 13; refine (K2.out _ HX2.out.bel).mono ?_; rintro e w2 ⟨rfl, hb⟩; have HX3 := Lib.hid (HX2.out.below hb); clear hb; have tok2 : True := trivial))
    go_ret
    exact ⟨rfl, HX3.out.bel⟩
  have h6 : c.bows.length ≤ 4 := by
    unfold smallT at hs
    rw [Bool.and_eq_true, Bool.not_eq_true'] at hs
    have := hs.1
    unfold bigT at this
    simp only [Bool.or_eq_false_iff, decide_eq_false_iff_not] at this
    omega
  rw [hs] at k2
  have K2 := Lib.hid k2
  have kt := kt h6
  have kr := kr h6
  unfold TabPost at kt kr
  by_cases h0 : checkO c = 0
  · skip
    have KT := Lib.hid (fun W hW => (kt W hW).mono (R' := fun e w' => ∃ A cp l, e = .returned (.tuple #[.slice A l.length cp, .int .i64 0]) ∧ Below W.heap.size W w' ∧ TabIs c l ∧ l.length ≤ 36000000000 ∧ Sl 6 elOv w' (· < w'.heap.size) (.slice A l.length cp) l) (by
      rintro e w' (⟨h1, _⟩ | ⟨_, A, cp, l, h2, h3, h4, h5, h6⟩)
      · exact absurd h0 h1
      · exact ⟨A, cp, l, h2, h3, h4, h5, (OwnSl.sl elOv_good h6).keep elOv_good (Same.refl _ _) fun b h => h.2⟩))
    have KR := Lib.hid (fun W hW => (kr W hW).mono (R' := fun e w' => ∃ A cp l, e = .returned (.tuple #[.slice A l.length cp, .int .i64 0]) ∧ Below W.heap.size W w' ∧ TabIs c l ∧ Sl 6 elOv w' (· < w'.heap.size) (.slice A l.length cp) l) (by
      rintro e w' (⟨h1, _⟩ | ⟨_, A, cp, l, h2, h3, h4, h5, h6⟩)
      · exact absurd h0 h1
      · exact ⟨A, cp, l, h2, h3, h4, (OwnSl.sl elOv_good h6).keep elOv_good (Same.refl _ _) fun b h => h.2⟩))
    have HOK := Lib.hid (okT_of h0)
    have HAC := Lib.hid (hac h0)
    have KA := Lib.hid ka
    clear k1 k2 kt kr ka hac hs hg h h6 h0
    go_enter Tryz.func6, Tryz.ntmps6
    go_wp2_with (first
      | (clear tok0; go_at_call 12; refine (K1.out _ HX0.out.bel).mono ?_; rintro e w1 ⟨rfl, hb⟩; have HX2 := Lib.hid (HX0.out.below hb); obtain ⟨x0, x1, x2, x3, x4, x5, x6⟩ := HX2.out.cells; clear hb; have tok1 : True := trivial)
      | (clear tok1; go_at_call 13; refine (K2.out _ HX2.out.bel).mono ?_; rintro e w2 ⟨rfl, hb⟩; have HX3 := Lib.hid (HX2.out.below hb); clear x0 x1 x2 x3 x4 x5 x6; obtain ⟨x0, x1, x2, x3, x4, x5, x6⟩ := HX3.out.cells; clear hb; have tok2 : True := trivial)
      | (clear tok2; go_at_call 19; refine (KT.out _ HX3.out.bel).mono ?_; rintro e w3 ⟨B1, cp1, l, rfl, hb, hti, hln, hsl⟩; have HX4 := Lib.hid (HX3.out.below hb); have HTI := Lib.hid hti; have HLN := Lib.hid hln; have HS1 := Lib.hid hsl; clear x0 x1 x2 x3 x4 x5 x6; obtain ⟨x0, x1, x2, x3, x4, x5, x6⟩ := HX4.out.cells; clear hb hti hln hsl; have tok3 : True := trivial)
      | (clear tok3; go_at_call 14; refine (KR.out _ HX4.out.bel).mono ?_; rintro e w4 ⟨B2, cp2, l2, rfl, hb, hti, hsl⟩; have hll := hti.one HTI.out; subst hll; have HX5 := Lib.hid (HX4.out.below hb); have HS2 := Lib.hid hsl; have HS3 := Lib.hid (HS1.out.keep elOv_good (G := (· < w4.heap.size)) (Same.of_below hb) fun b h => Nat.lt_of_lt_of_le h hb.size); clear x0 x1 x2 x3 x4 x5 x6; obtain ⟨x0, x1, x2, x3, x4, x5, x6⟩ := HX5.out.cells; clear hb hti hsl; have tok4 : True := trivial)
      | (clear tok4; go_at_call 20; refine (law45_equal _ _ _ _ _ _ HS3.out HS2.out (fun b h => h) (fun b h => h) HLN.out).mono ?_; rintro e w5 ⟨rfl, hb⟩; have HX6 := Lib.hid (HX5.out.below hb); have HS4 := Lib.hid (HS3.out.keep elOv_good (G := (· < w5.heap.size)) (Same.of_below hb) fun b h => Nat.lt_of_lt_of_le h hb.size); clear x0 x1 x2 x3 x4 x5 x6; obtain ⟨x0, x1, x2, x3, x4, x5, x6⟩ := HX6.out.cells; clear hb; have tok5 : True := trivial)
      | (clear tok5; go_at_call 15; refine (KA.out _ _ _ HX6.out.bel HS4.out (by have := HLN.out; omega) (HTI.out.w HOK.out)).mono ?_; rintro e w6 ⟨rfl, hb⟩; have HX7 := Lib.hid (HX6.out.below hb); have hz := HAC.out _ HTI.out; rw [hz]; clear hb hz; have tok6 : True := trivial))
    go_ret
    exact ⟨rfl, HX7.out.bel⟩
  · obtain ⟨u, hu⟩ : ∃ x, x = checkO c := ⟨_, rfl⟩
    simp only [← hu] at kt kr h0
    have KT := Lib.hid (fun W hW => (kt W hW).mono (R' := fun e w' => e = .returned (.tuple #[.slice none 0 0, .int .i64 u]) ∧ Below W.heap.size W w') (by
      rintro e w' (⟨_, h2, h3⟩ | ⟨h1, _⟩)
      · exact ⟨h2, h3⟩
      · exact absurd h1 h0))
    have KR := Lib.hid (fun W hW => (kr W hW).mono (R' := fun e w' => e = .returned (.tuple #[.slice none 0 0, .int .i64 u]) ∧ Below W.heap.size W w') (by
      rintro e w' (⟨_, h2, h3⟩ | ⟨h1, _⟩)
      · exact ⟨h2, h3⟩
      · exact absurd h1 h0))
    have eu : (u != 0) = true := by simp [h0]
    clear k1 k2 kt kr ka hac hs hg h h6 h0 hu
    go_enter Tryz.func6, Tryz.ntmps6
    go_wp2_with (first
      | (clear tok0; go_at_call 12; refine (K1.out _ HX0.out.bel).mono ?_; rintro e w1 ⟨rfl, hb⟩; have HX2 := Lib.hid (HX0.out.below hb); obtain ⟨x0, x1, x2, x3, x4, x5, x6⟩ := HX2.out.cells; clear hb; have tok1 : True := trivial)
      | (clear tok1; go_at_call 13; refine (K2.out _ HX2.out.bel).mono ?_; rintro e w2 ⟨rfl, hb⟩; have HX3 := Lib.hid (HX2.out.below hb); clear x0 x1 x2 x3 x4 x5 x6; obtain ⟨x0, x1, x2, x3, x4, x5, x6⟩ := HX3.out.cells; clear hb; have tok2 : True := trivial)
      | (clear tok2; go_at_call 19; refine (KT.out _ HX3.out.bel).mono ?_; rintro e w3 ⟨rfl, hb⟩; have HX4 := Lib.hid (HX3.out.below hb); clear x0 x1 x2 x3 x4 x5 x6; obtain ⟨x0, x1, x2, x3, x4, x5, x6⟩ := HX4.out.cells; clear hb; have tok3 : True := trivial)
      | (clear tok3; go_at_call 14; refine (KR.out _ HX4.out.bel).mono ?_; rintro e w4 ⟨rfl, hb⟩; have HX5 := Lib.hid (HX4.out.below hb); clear x0 x1 x2 x3 x4 x5 x6; obtain ⟨x0, x1, x2, x3, x4, x5, x6⟩ := HX5.out.cells; clear hb; have tok4 : True := trivial)
      | (clear tok4; go_at_call 20; refine (law45_equal [] _ _ (fun _ => False) (fun _ => False) _ (Sl.nil _ _) (Sl.nil _ _) (fun b h => h.elim) (fun b h => h.elim) (by simp)).mono ?_; rintro e w5 ⟨rfl, hb⟩; have HX6 := Lib.hid (HX5.out.below hb); clear x0 x1 x2 x3 x4 x5 x6; obtain ⟨x0, x1, x2, x3, x4, x5, x6⟩ := HX6.out.cells; clear hb; have tok5 : True := trivial))
    go_ret
    exact ⟨rfl, HX6.out.bel⟩
end Go.Proofs.YtdlmmbfnmnglaaaGreatDoor
