/- The contract of the law's awake: the chapter's examples. -/
import Derived.Test.YtdgejeiiiholnaaGreatDoorM1
import Derived.Test.YtdgejeiiiholnaaGreatDoorN2
import Derived.Test.YtdgejeiiiholnaaGreatDoorN3
import Derived.Test.YtdgejeiiiholnaaGreatDoorT7
import Derived.Test.YtdgejeiiiholnaaGreatDoorT6
set_option linter.unusedSimpArgs false
set_option linter.unusedVariables false
namespace Go.Proofs.YtdgejeiiiholnaaGreatDoor
open Go.RowKit

def awA : List UInt8 := [65, 32, 32, 34, 98, 32, 34, 34, 99, 34, 34, 34, 32, 59, 32, 120, 10, 10, 66, 59]
theorem awA_split : splitS awA = ([⟨1, [⟨[65], 1, false⟩, ⟨[98, 32, 34, 99, 34], 4, true⟩]⟩, ⟨3, [⟨[66], 1, false⟩]⟩], []) := by kernel_rfl
theorem awB_split : splitS [65, 34] = ([], [⟨1, 2, 4⟩]) := by kernel_rfl
theorem awC_split : splitS [34, 65, 34, 66] = ([], [⟨1, 4, 4⟩]) := by kernel_rfl
theorem awN1 : numberS [45, 48] (-1) 1 = (0, 4) := by kernel_rfl
theorem awN2 : numberS [55] 0 5 = (0, 2) := by kernel_rfl
theorem awP : padS (-7) 3 = [45, 48, 48, 55] := by
  have e : Lib.decDigits 7 = [55] := by rw [Lib.decDigits_one (by omega)]; rfl
  have e2 : (-7 : Int).natAbs = 7 := rfl
  unfold padS
  rw [e2, e]
  decide
theorem awQ : quoteS [97, 34] = [34, 97, 34, 34, 34] := by kernel_rfl
def AwL (W : World) (b o b1 o1 c1 : Nat) : Prop :=
  W.cell? ⟨b, o + 1, none⟩ = some (.slice (some ⟨b1, o1, none⟩) 2 c1) ∧ W.cell? ⟨b, o + 2, none⟩ = some (.int .i64 3) ∧ W.cell? ⟨b1, o1 + 3, none⟩ = some (.string ⟨#[98, 32, 34, 99, 34]⟩) ∧ W.cell? ⟨b1, o1 + 3 + 1, none⟩ = some (.int .i64 4) ∧ W.cell? ⟨b1, o1 + 3 + 2, none⟩ = some (.bool true)
def AwD (W : World) (b o : Nat) (x y z : Int) : Prop := W.cell? ⟨b, o, none⟩ = some (.int .i64 x) ∧ W.cell? ⟨b, o + 1, none⟩ = some (.int .i64 y) ∧ W.cell? ⟨b, o + 2, none⟩ = some (.int .i64 z)
theorem cell_below {w w' : World} (hb : Below w.heap.size w w') {a : Addr} {v : Value} (h : w.cell? a = some v) : w'.cell? a = some v := (hb.cell (World.block_lt_of_cell? w _ h)).trans h
theorem AwL.below {w w' : World} {b o b1 o1 c1 : Nat} (h : AwL w b o b1 o1 c1) (hb : Below w.heap.size w w') : AwL w' b o b1 o1 c1 :=
  ⟨cell_below hb h.1, cell_below hb h.2.1, cell_below hb h.2.2.1, cell_below hb h.2.2.2.1, cell_below hb h.2.2.2.2⟩
theorem AwD.below {w w' : World} {b o : Nat} {x y z : Int} (h : AwD w b o x y z) (hb : Below w.heap.size w w') : AwD w' b o x y z := ⟨cell_below hb h.1, cell_below hb h.2.1, cell_below hb h.2.2⟩
theorem dia_one {w : World} {F : Nat → Prop} {v : Value} {x y z : Int} (h : Sl 3 elDia w F v [⟨x, y, z⟩]) : ∃ b o c, v = .slice (some ⟨b, o, none⟩) 1 c ∧ AwD w b o x y z := by
  obtain ⟨A, c, rfl, _⟩ := h.shape
  obtain ⟨b, o, cs, rfl, _, _, h4, h5⟩ := h.at (k := 0) (by simp)
  have h5' : cs = [.int .i64 x, .int .i64 y, .int .i64 z] := h5
  subst h5'
  have y0 := h4 0 _ rfl
  have y1 := h4 1 _ rfl
  have y2 := h4 2 _ rfl
  simp only [Nat.zero_mul, Nat.add_zero] at y0 y1 y2
  exact ⟨b, o, c, rfl, y0, y1, y2⟩
theorem awA_cells {w : World} {F : Nat → Prop} {v : Value} (h : Sl 2 elLin w F v [⟨1, [⟨[65], 1, false⟩, ⟨[98, 32, 34, 99, 34], 4, true⟩]⟩, ⟨3, [⟨[66], 1, false⟩]⟩]) :
    ∃ b o c b1 o1 c1, v = .slice (some ⟨b, o, none⟩) 2 c ∧ AwL w b o b1 o1 c1 := by
  obtain ⟨A, c, rfl, _⟩ := h.shape
  obtain ⟨b, o, A2, c2, rfl, _, _, y1, hs, _⟩ := lin_at h (k := 0) (by simp)
  obtain ⟨b', o', A3, c3, e, _, z0, _⟩ := lin_at h (k := 1) (by simp)
  simp only [Option.some.injEq, Addr.mk.injEq] at e
  obtain ⟨rfl, rfl, _⟩ := e
  obtain ⟨b1, o1, rfl, _, u0, u1, u2⟩ := fld_at hs (k := 1) (by simp)
  simp only [Nat.zero_mul, Nat.add_zero, Nat.one_mul] at y1 z0 u0 u1 u2
  exact ⟨b, o, c, b1, o1, c2, rfl, y1, z0, u0, u1, u2⟩
set_option maxRecDepth 100000 in
set_option maxHeartbeats 4000000 in
theorem law03_awake (w : World) (hg : GlobN w) : Calls Tryz.prog 11 #[] w fun e w' => e = .returned (.bool true) ∧ Below w.heap.size w w' := by
  have s1 : ∀ W, Below w.heap.size w W → Calls Tryz.prog 12 #[.string ⟨#[65, 32, 32, 34, 98, 32, 34, 34, 99, 34, 34, 34, 32, 59, 32, 120, 10, 10, 66, 59]⟩] W fun e W' => ∃ b o c b1 o1 c1 D d, e = .returned (.tuple #[.slice (some ⟨b, o, none⟩) 2 c, .slice D 0 d]) ∧ AwL W' b o b1 o1 c1 ∧ Below w.heap.size w W' := fun W hW => by
    refine (text_Split (S awA) W (hg.below hW).glob (by decide)).mono ?_
    rintro e W' ⟨v, dv, rfl, hv, hd, hb⟩
    rw [S_data, awA_split] at hv hd
    obtain ⟨b, o, c, b1, o1, c1, rfl, hl⟩ := awA_cells hv
    obtain ⟨D, d, rfl, _⟩ := hd.shape
    exact ⟨b, o, c, b1, o1, c1, D, d, rfl, hl, hW.trans (hb.mono hW.size)⟩
  have s2 : ∀ W, Below w.heap.size w W → Calls Tryz.prog 12 #[.string ⟨#[65, 34]⟩] W fun e W' => ∃ v b o c, e = .returned (.tuple #[v, .slice (some ⟨b, o, none⟩) 1 c]) ∧ AwD W' b o 1 2 4 ∧ Below w.heap.size w W' ∧ Below W.heap.size W W' := fun W hW => by
    refine (text_Split (S [65, 34]) W (hg.below hW).glob (by decide)).mono ?_
    rintro e W' ⟨v, dv, rfl, hv, hd, hb⟩
    rw [S_data, awB_split] at hd
    obtain ⟨b, o, c, rfl, h⟩ := dia_one hd
    exact ⟨v, b, o, c, rfl, h, hW.trans (hb.mono hW.size), hb⟩
  have s3 : ∀ W, Below w.heap.size w W → Calls Tryz.prog 12 #[.string ⟨#[34, 65, 34, 66]⟩] W fun e W' => ∃ v b o c, e = .returned (.tuple #[v, .slice (some ⟨b, o, none⟩) 1 c]) ∧ AwD W' b o 1 4 4 ∧ Below w.heap.size w W' ∧ Below W.heap.size W W' := fun W hW => by
    refine (text_Split (S [34, 65, 34, 66]) W (hg.below hW).glob (by decide)).mono ?_
    rintro e W' ⟨v, dv, rfl, hv, hd, hb⟩
    rw [S_data, awC_split] at hd
    obtain ⟨b, o, c, rfl, h⟩ := dia_one hd
    exact ⟨v, b, o, c, rfl, h, hW.trans (hb.mono hW.size), hb⟩
  have n1 : ∀ W, Below w.heap.size w W → Calls Tryz.prog 48 #[.string ⟨#[45, 48]⟩, .int .i64 (-1), .int .i64 1] W fun e W' => e = .returned (.tuple #[.int .i64 0, .int .i64 4]) ∧ Below w.heap.size w W' ∧ Below W.heap.size W W' := fun W hW => by
    refine (text_Number (S [45, 48]) (-1) 1 W (hg.below hW) (by decide)).mono ?_
    rintro e W' ⟨rfl, hb⟩
    rw [S_data, awN1]
    exact ⟨rfl, hW.trans (hb.mono hW.size), hb⟩
  have n2 : ∀ W, Below w.heap.size w W → Calls Tryz.prog 48 #[.string ⟨#[55]⟩, .int .i64 0, .int .i64 5] W fun e W' => e = .returned (.tuple #[.int .i64 0, .int .i64 2]) ∧ Below w.heap.size w W' ∧ Below W.heap.size W W' := fun W hW => by
    refine (text_Number (S [55]) 0 5 W (hg.below hW) (by decide)).mono ?_
    rintro e W' ⟨rfl, hb⟩
    rw [S_data, awN2]
    exact ⟨rfl, hW.trans (hb.mono hW.size), hb⟩
  have p1 : ∀ W, Below w.heap.size w W → Calls Tryz.prog 49 #[.int .i64 (-7), .int .i64 3] W fun e W' => e = .returned (.string ⟨#[45, 48, 48, 55]⟩) ∧ Below w.heap.size w W' ∧ Below W.heap.size W W' := fun W hW => by
    refine (text_Padded (-7) 3 W (hg.below hW) (by omega) (by omega) (by omega) (by omega)).mono ?_
    rintro e W' ⟨rfl, hb⟩
    rw [awP]
    exact ⟨rfl, hW.trans (hb.mono hW.size), hb⟩
  have q1 : ∀ W, Below w.heap.size w W → Calls Tryz.prog 50 #[.string ⟨#[97, 34]⟩] W fun e W' => e = .returned (.string ⟨#[34, 97, 34, 34, 34]⟩) ∧ Below w.heap.size w W' := fun W hW => by
    refine (text_Quote (S [97, 34]) W (hg.below hW).glob (by decide)).mono ?_
    rintro e W' ⟨rfl, hb⟩
    rw [S_data, awQ]
    exact ⟨rfl, hW.trans (hb.mono hW.size)⟩
  have S1 := Lib.hid s1
  have S2 := Lib.hid s2
  have S3 := Lib.hid s3
  have N1 := Lib.hid n1
  have N2 := Lib.hid n2
  have P1 := Lib.hid p1
  have Q1 := Lib.hid q1
  clear s1 s2 s3 n1 n2 p1 q1 hg
  go_enter Tryz.func11, Tryz.ntmps11
  go_wp2_with (first
    | (go_at_call 12; ((with_reducible refine (S1.out _ (Below.refl _ _)).mono ?_); rintro e w1 ⟨b, o, c, b1, o1, c1, D, d, rfl, hl1, hb1⟩; have HL1 := Lib.hid hl1; have HB1 := Lib.hid hb1; clear hl1 hb1))
    | (go_at_call 12; ((with_reducible refine (S2.out _ HB1.out).mono ?_); rintro e w2 ⟨v2, bf, of, cf, rfl, hd2, hb2, hc2⟩; have HL2 := Lib.hid (HL1.out.below hc2); have HD2 := Lib.hid hd2; have HB2 := Lib.hid hb2; clear hd2 hb2 hc2))
    | (go_at_call 12; ((with_reducible refine (S3.out _ HB2.out).mono ?_); rintro e w3 ⟨v3, bg, og, cg, rfl, hd3, hb3, hc3⟩; have hl3 := HL2.out.below hc3; obtain ⟨y0, y1, y2, y3, y4⟩ := hl3; have HL3 := Lib.hid (HL2.out.below hc3); have HF3 := Lib.hid (HD2.out.below hc3); have HD3 := Lib.hid hd3; have HB3 := Lib.hid hb3; clear hd3 hb3 hc3))
    | (go_at_call 48; ((with_reducible refine (N1.out _ HB3.out).mono ?_); rintro e w4 ⟨rfl, hb4, hc4⟩; have HL4 := Lib.hid (HL3.out.below hc4); have HF4 := Lib.hid (HF3.out.below hc4); have HD4 := Lib.hid (HD3.out.below hc4); have HB4 := Lib.hid hb4; clear hb4 hc4))
    | (go_at_call 48; ((with_reducible refine (N2.out _ HB4.out).mono ?_); rintro e w5 ⟨rfl, hb5, hc5⟩; obtain ⟨x0, x1, x2, x3, x4⟩ := HL4.out.below hc5; obtain ⟨f0, f1, f2⟩ := HF4.out.below hc5; obtain ⟨g0, g1, g2⟩ := HD4.out.below hc5; have HB5 := Lib.hid hb5; clear hb5 hc5))
    | (go_at_call 49; refine (P1.out _ HB5.out).mono ?_; rintro e w6 ⟨rfl, hb6, hc6⟩; have HB6 := Lib.hid hb6; clear hb6 hc6)
    | (go_at_call 50; refine (Q1.out _ HB6.out).mono ?_; rintro e w7 ⟨rfl, hb7⟩; have HB7 := Lib.hid hb7; clear hb7))
  go_ret
  exact ⟨rfl, HB7.out⟩
end Go.Proofs.YtdgejeiiiholnaaGreatDoor
