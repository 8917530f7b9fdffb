/- The walk of TopMartingale: the value of a chase is the sum over all courses, and along any course the weighted sum of what follows. -/
import Derived.Test.YtfnfbojaiikigaaGreatDoorYM2
import Derived.StillTailTactics
set_option linter.unusedSimpArgs false
set_option linter.unusedVariables false
namespace Go.Proofs.YtfnfbojaiikigaaGreatDoor
open Go.RowKit

def exT : List UInt8 := [48, 58, 56, 32, 52, 58, 56]
def exTd : List Otc := [⟨0, false, 8⟩, ⟨4, false, 8⟩]
theorem exT_text : textC exTd = (exT, 0) := by
  have h0 : checkD exTd = 0 := by kernel_rfl
  have e0 := otcW_dig3 0 8 false (by omega) (by omega)
  have e1 := otcW_dig3 4 8 false (by omega) (by omega)
  unfold textC
  rw [if_neg (fun k => k h0)]
  show (Lib.join [otcW ⟨((0 : Nat) : Int), false, ((8 : Nat) : Int)⟩, otcW ⟨((4 : Nat) : Int), false, ((8 : Nat) : Int)⟩] [32], (0 : Int)) = _
  rw [e0, e1]
  kernel_rfl
theorem exT_parse : parseC exT = (exTd, 0) := by
  have h1 : (pieces 32 exT).all pieceOk = true := by kernel_rfl
  have h2 : (pieces 32 exT).map pieceO = exTd := by kernel_rfl
  unfold parseC
  rw [h1, if_neg (by simp), h2, exT_text, if_neg (by simp)]
theorem exT_mean : meanS exTd = (32, 0) := by kernel_rfl
set_option maxRecDepth 100000 in
set_option maxHeartbeats 2000000 in
theorem top_planAwake (w : World) (hg : GlobN w) : Calls Tryz.prog 11 #[] w fun e w' => e = .returned (.bool true) ∧ Below w.heap.size w w' := by
  have kp1 : Calls Tryz.prog 39 #[.string ⟨#[48, 58, 56, 32, 52, 58, 56]⟩] w fun e W' => ∃ A c, e = .returned (.tuple #[.slice A 2 c, .int .i64 0]) ∧ Sl 3 elOtc W' (· < W'.heap.size) (.slice A 2 c) exTd ∧ Below w.heap.size w W' := by
    refine (ch_Parse (S exT) w hg (by decide)).mono ?_
    rintro e W' ⟨v, rfl, hs, hb⟩
    rw [S_data, exT_parse] at hs ⊢
    obtain ⟨A, c, rfl, _⟩ := hs.shape
    exact ⟨A, c, rfl, hs.keep elOtc_good (Same.refl _ _) fun _ h => h.2, hb⟩
  have km : ∀ W A c, Below w.heap.size w W → Sl 3 elOtc W (· < W.heap.size) (.slice A 2 c) exTd → Calls Tryz.prog 40 #[.slice A 2 c] W fun e W' => e = .returned (.tuple #[.int .i64 32, .int .i64 0]) ∧ Below w.heap.size w W' := fun W A c hW h => by
    refine (ch_Mean exTd _ W h).mono ?_
    rintro e W' ⟨rfl, hb⟩
    rw [exT_mean]
    exact ⟨rfl, hW.trans (hb.mono hW.size)⟩
  have KP1 := Lib.hid kp1
  have KM := Lib.hid km
  clear kp1 km hg
  go_enter Tryz.func11, Tryz.ntmps11
  go_wp2_with (first
    | (go_at_call 39; ((with_reducible refine KP1.out.mono ?_); rintro e w1 ⟨A, c, rfl, hs1, hb1⟩; have HS1 := Lib.hid hs1; have HB1 := Lib.hid hb1; clear hs1 hb1))
    | (go_at_call 40; refine (KM.out _ _ _ HB1.out HS1.out).mono ?_; rintro e w2 ⟨rfl, hb2⟩; have HB2 := Lib.hid hb2; clear hb2))
  go_ret
  exact ⟨rfl, HB2.out⟩
/-- A chase boxed in block g. -/
structure Tm0 (w W : World) (c : Chs) (bv wv pv ov : Value) (k0 k1 k2 : Int) : Prop where
  bel : Below w.heap.size w W
  box : Blk W w.heap.size 28 #[bv, wv, pv, .int .i64 c.over, .int .i64 c.done, .int .i64 c.need, ov]
  arr : Blk W (w.heap.size + 1) 29 #[.int .u8 k0, .int .u8 k1, .int .u8 k2]
section
variable {w W W' : World} {c : Chs} {bv wv pv ov : Value} {k0 k1 k2 : Int}
theorem Tm0.below (h : Tm0 w W c bv wv pv ov k0 k1 k2) (hb : Below W.heap.size W W') : Tm0 w W' c bv wv pv ov k0 k1 k2 := ⟨h.bel.trans (hb.mono h.bel.size), h.box.below hb h.box.lt, h.arr.below hb h.arr.lt⟩
theorem Tm0.cell7 (h : Tm0 w W c bv wv pv ov k0 k1 k2) : W.cell? ⟨w.heap.size, 0, none⟩ = some bv ∧ W.cell? ⟨w.heap.size, 1, none⟩ = some wv ∧ W.cell? ⟨w.heap.size, 2, none⟩ = some pv ∧ W.cell? ⟨w.heap.size, 3, none⟩ = some (.int .i64 c.over) ∧ W.cell? ⟨w.heap.size, 4, none⟩ = some (.int .i64 c.done) ∧ W.cell? ⟨w.heap.size, 5, none⟩ = some (.int .i64 c.need) ∧ W.cell? ⟨w.heap.size, 6, none⟩ = some ov :=
  ⟨h.box.cell 0, h.box.cell 1, h.box.cell 2, h.box.cell 3, h.box.cell 4, h.box.cell 5, h.box.cell 6⟩
theorem Tm0.cell3 (h : Tm0 w W c bv wv pv ov k0 k1 k2) : W.cell? ⟨w.heap.size + 1, 0, none⟩ = some (.int .u8 k0) ∧ W.cell? ⟨w.heap.size + 1, 1, none⟩ = some (.int .u8 k1) ∧ W.cell? ⟨w.heap.size + 1, 2, none⟩ = some (.int .u8 k2) := ⟨h.arr.cell 0, h.arr.cell 1, h.arr.cell 2⟩
theorem Tm0.new (w : World) (c : Chs) (bv wv pv ov : Value) (k0 k1 k2 : Int) : Tm0 w ((w.alloc (.cells #[bv, wv, pv, .int .i64 c.over, .int .i64 c.done, .int .i64 c.need, ov] 28)).alloc (.cells #[.int .u8 k0, .int .u8 k1, .int .u8 k2] 29)) c bv wv pv ov k0 k1 k2 := by
  have h1 := Blk.new w 28 #[bv, wv, pv, .int .i64 c.over, .int .i64 c.done, .int .i64 c.need, ov]
  have h2 := Blk.new (w.alloc (.cells #[bv, wv, pv, .int .i64 c.over, .int .i64 c.done, .int .i64 c.need, ov] 28)) 29 #[.int .u8 k0, .int .u8 k1, .int .u8 k2]
  refine ⟨(Below.alloc (Below.refl _ _) (Nat.le_refl _) _).alloc (by simp) _, h1.alloc _, ?_⟩
  simpa using h2
end
/-- The same with the state in block gs. -/
structure TmB (w W : World) (gs : Nat) (c : Chs) (bv wv pv ov : Value) (k0 k1 k2 : Int) (s : Cst) : Prop where
  base : Tm0 w W c bv wv pv ov k0 k1 k2
  st : Blk W gs 33 #[.int .i64 s.ball, .int .i64 s.need, .int .i64 s.str, .int .i64 s.par, .int .i64 s.nxt]
  gs1 : w.heap.size + 1 < gs
section
variable {w W W' : World} {gs : Nat} {c : Chs} {bv wv pv ov : Value} {k0 k1 k2 : Int} {s t : Cst}
theorem TmB.below (h : TmB w W gs c bv wv pv ov k0 k1 k2 s) (hb : Below W.heap.size W W') : TmB w W' gs c bv wv pv ov k0 k1 k2 s := ⟨h.base.below hb, h.st.below hb h.st.lt, h.gs1⟩
theorem TmB.drew (h : TmB w W gs c bv wv pv ov k0 k1 k2 s) : TmB w W.drew gs c bv wv pv ov k0 k1 k2 s := h.below (Below.drew (Below.refl _ _))
theorem TmB.cell7 (h : TmB w W gs c bv wv pv ov k0 k1 k2 s) : W.cell? ⟨w.heap.size, 0, none⟩ = some bv ∧ W.cell? ⟨w.heap.size, 1, none⟩ = some wv ∧ W.cell? ⟨w.heap.size, 2, none⟩ = some pv ∧ W.cell? ⟨w.heap.size, 3, none⟩ = some (.int .i64 c.over) ∧ W.cell? ⟨w.heap.size, 4, none⟩ = some (.int .i64 c.done) ∧ W.cell? ⟨w.heap.size, 5, none⟩ = some (.int .i64 c.need) ∧ W.cell? ⟨w.heap.size, 6, none⟩ = some ov := h.base.cell7
theorem TmB.cells (h : TmB w W gs c bv wv pv ov k0 k1 k2 s) : (W.cell? ⟨w.heap.size, 0, none⟩ = some bv ∧ W.cell? ⟨w.heap.size, 1, none⟩ = some wv ∧ W.cell? ⟨w.heap.size, 2, none⟩ = some pv ∧ W.cell? ⟨w.heap.size, 3, none⟩ = some (.int .i64 c.over) ∧ W.cell? ⟨w.heap.size, 4, none⟩ = some (.int .i64 c.done) ∧ W.cell? ⟨w.heap.size, 5, none⟩ = some (.int .i64 c.need) ∧ W.cell? ⟨w.heap.size, 6, none⟩ = some ov) ∧
    W.cell? ⟨gs, 0, none⟩ = some (.int .i64 s.ball) ∧ W.cell? ⟨gs, 1, none⟩ = some (.int .i64 s.need) ∧ W.cell? ⟨gs, 2, none⟩ = some (.int .i64 s.str) ∧ W.cell? ⟨gs, 3, none⟩ = some (.int .i64 s.par) ∧ W.cell? ⟨gs, 4, none⟩ = some (.int .i64 s.nxt) := ⟨h.base.cell7, blk_five h.st⟩
theorem TmB.stored (h : TmB w W gs c bv wv pv ov k0 k1 k2 s) (t : Cst) : TmB w (((((W.setCell ⟨gs, 0, none⟩ (.int .i64 t.ball)).setCell ⟨gs, 1, none⟩ (.int .i64 t.need)).setCell ⟨gs, 2, none⟩ (.int .i64 t.str)).setCell ⟨gs, 3, none⟩ (.int .i64 t.par)).setCell ⟨gs, 4, none⟩ (.int .i64 t.nxt)) gs c bv wv pv ov k0 k1 k2 t := by
  have h1 := h.gs1
  have n1 : w.heap.size ≠ gs := by omega
  have n2 : w.heap.size + 1 ≠ gs := by omega
  exact ⟨⟨below_set5 h.base.bel (by omega) _ _ _ _ _, ((((h.base.box.far (p := ⟨gs, 0, none⟩) n1 _).far (p := ⟨gs, 1, none⟩) n1 _).far (p := ⟨gs, 2, none⟩) n1 _).far (p := ⟨gs, 3, none⟩) n1 _).far (p := ⟨gs, 4, none⟩) n1 _, ((((h.base.arr.far (p := ⟨gs, 0, none⟩) n2 _).far (p := ⟨gs, 1, none⟩) n2 _).far (p := ⟨gs, 2, none⟩) n2 _).far (p := ⟨gs, 3, none⟩) n2 _).far (p := ⟨gs, 4, none⟩) n2 _⟩, h.st.put5 _ _ _ _ _, h1⟩
theorem Tm0.opened (h : Tm0 w W c bv wv pv ov k0 k1 k2) (s : Cst) : TmB w (W.alloc (.cells #[.int .i64 s.ball, .int .i64 s.need, .int .i64 s.str, .int .i64 s.par, .int .i64 s.nxt] 33)) W.heap.size c bv wv pv ov k0 k1 k2 s :=
  ⟨h.below (Below.alloc (Below.refl _ _) (Nat.le_refl _) _), Blk.new W _ _, h.arr.lt⟩
end
/-- An outcome boxed besides; the world since w7. -/
structure TmO (w w7 W : World) (gs g2 : Nat) (c : Chs) (bv wv pv ov : Value) (k0 k1 k2 : Int) (s : Cst) (pr : Int) (pw : Bool) (pt : Int) : Prop where
  base : TmB w W gs c bv wv pv ov k0 k1 k2 s
  ob : Blk W g2 46 #[.int .i64 pr, .bool pw, .int .i64 pt]
  seven : Below w7.heap.size w7 W
theorem TmO.below {w w7 W W' : World} {gs g2 : Nat} {c : Chs} {bv wv pv ov : Value} {k0 k1 k2 : Int} {s : Cst} {pr : Int} {pw : Bool} {pt : Int} (h : TmO w w7 W gs g2 c bv wv pv ov k0 k1 k2 s pr pw pt) (hb : Below W.heap.size W W') : TmO w w7 W' gs g2 c bv wv pv ov k0 k1 k2 s pr pw pt := ⟨h.base.below hb, h.ob.below hb h.ob.lt, h.seven.trans (hb.mono h.seven.size)⟩
theorem TmO.three {w w7 W : World} {gs g2 : Nat} {c : Chs} {bv wv pv ov : Value} {k0 k1 k2 : Int} {s : Cst} {pr : Int} {pw : Bool} {pt : Int} (h : TmO w w7 W gs g2 c bv wv pv ov k0 k1 k2 s pr pw pt) : W.cell? ⟨g2, 0, none⟩ = some (.int .i64 pr) ∧ W.cell? ⟨g2, 1, none⟩ = some (.bool pw) ∧ W.cell? ⟨g2, 2, none⟩ = some (.int .i64 pt) := ⟨h.ob.cell 0, h.ob.cell 1, h.ob.cell 2⟩
theorem chst_start {c : Chs} (h : checkC c = 0) : chstC c ⟨0, c.need, 0, 1, 2⟩ = 0 := by
  have hc := checkC_ok h
  have h1 := hc.nb; have h2 := hc.need; have h3 := hc.no
  exact chst_of h ⟨⟨Int.le_refl _, by dsimp only; omega⟩, ⟨by dsimp only; omega, Int.le_refl _⟩, ⟨Int.le_refl _, by dsimp only; omega⟩, ⟨by dsimp only; omega, by dsimp only; omega⟩, ⟨by dsimp only; omega, by dsimp only; omega⟩, by dsimp only; omega, fun e => by dsimp only at e; omega⟩
theorem moves_not {c : Chs} {s : Cst} (h0 : chstC c s = 0) (h1 : stC c s ≠ 1) : movesC c s = ([], 11) := by unfold movesC; rw [if_neg (fun k => k h0), if_pos h1]
def arr3 (k0 k1 k2 : Int) (k : Nat) : Int := if k = 0 then k0 else if k = 1 then k1 else k2
theorem arr3_at (k0 k1 k2 : Int) {k : Nat} (h : k < 3) : (#[.int .u8 k0, .int .u8 k1, .int .u8 k2] : Array Value)[k]? = some (.int .u8 (arr3 k0 k1 k2 k)) := by
  have : k = 0 ∨ k = 1 ∨ k = 2 := by omega
  rcases this with rfl | rfl | rfl <;> rfl
theorem arr3_run0 (k0 k1 k2 : Int) (w : World) : Sem.run Tryz.prog (Instr.index 29 (.agg #[.int .u8 k0, .int .u8 k1, .int .u8 k2]) (.int .i64 0)) w = .ok (.int .u8 k0) w := by kernel_rfl
theorem arr3_run1 (k0 k1 k2 : Int) (w : World) : Sem.run Tryz.prog (Instr.index 29 (.agg #[.int .u8 k0, .int .u8 k1, .int .u8 k2]) (.int .i64 1)) w = .ok (.int .u8 k1) w := by kernel_rfl
theorem arr3_run2 (k0 k1 k2 : Int) (w : World) : Sem.run Tryz.prog (Instr.index 29 (.agg #[.int .u8 k0, .int .u8 k1, .int .u8 k2]) (.int .i64 2)) w = .ok (.int .u8 k2) w := by kernel_rfl
theorem arr3_run (k0 k1 k2 : Int) {k : Nat} (h : k < 3) (w : World) : Sem.run Tryz.prog (Instr.index 29 (.agg #[.int .u8 k0, .int .u8 k1, .int .u8 k2]) (.int .i64 (k : Int))) w = .ok (.int .u8 (arr3 k0 k1 k2 k)) w := by
  match k, h with
  | 0, _ => exact arr3_run0 k0 k1 k2 w
  | 1, _ => exact arr3_run1 k0 k1 k2 w
  | 2, _ => exact arr3_run2 k0 k1 k2 w
theorem arr3_bd {k0 k1 k2 : Int} (h0 : 0 ≤ k0 ∧ k0 ≤ 255) (h1 : 0 ≤ k1 ∧ k1 ≤ 255) (h2 : 0 ≤ k2 ∧ k2 ≤ 255) (k : Nat) : 0 ≤ arr3 k0 k1 k2 k ∧ arr3 k0 k1 k2 k ≤ 255 := by
  unfold arr3; split
  · exact h0
  · split
    · exact h1
    · exact h2
set_option maxRecDepth 100000 in
set_option maxHeartbeats 4000000 in
theorem law_TopMartingale (c : Chs) (bv wv pv ov : Value) (k0 k1 k2 : Int) (w : World) (hg : GlobN w) (h : ChAt w (· < w.heap.size) bv wv pv ov c) (hk0 : 0 ≤ k0 ∧ k0 ≤ 255) (hk1 : 0 ≤ k1 ∧ k1 ≤ 255) (hk2 : 0 ≤ k2 ∧ k2 ≤ 255) :
    Calls Tryz.prog 3 #[chV c bv wv pv ov, .agg #[.int .u8 k0, .int .u8 k1, .int .u8 k2]] w fun e w' => e = .returned (.bool true) ∧ Below w.heap.size w w' := by
  unfold chV
  obtain ⟨A, ca, rfl, hc1, hc2⟩ := h.mdl.bat.shape
  obtain ⟨A1, ca1, rfl, hc3, hc4⟩ := h.mdl.bow.shape
  obtain ⟨A2, ca2, rfl, hc5, hc6⟩ := h.bow.shape
  obtain ⟨A3, ca3, rfl, hc7, hc8⟩ := h.ord.shape
  have HX0 := Lib.hid (Tm0.new w c (.slice A c.mdl.bats.length ca) (.slice A1 c.mdl.bows.length ca1) (.slice A2 c.bows.length ca2) (.slice A3 c.ord.length ca3) k0 k1 k2)
  have HM := Lib.hid h
  have harr : ∀ k, 0 ≤ arr3 k0 k1 k2 k ∧ arr3 k0 k1 k2 k ≤ 255 := arr3_bd hk0 hk1 hk2
  have k1' := fun W (hW : Below w.heap.size w W) => top_planAwake W (hg.below hW)
  have k2' := fun W (hW : Below w.heap.size w W) => law44_Small c _ _ _ _ W (HM.out.below hW)
  have k3' := fun W (hW : Below w.heap.size w W) => ch44_Start c _ _ _ _ W (HM.out.below hW)
  have k4' := fun W (hW : Below w.heap.size w W) => ch44_Check c _ _ _ _ W (HM.out.below hW)
  have k5' := fun s (hs : chstC c s = 0) W (hW : Below w.heap.size w W) => top_chaseWins c _ s rfl hs _ _ _ _ W (HM.out.below hW)
  have k6' := fun s W (hW : Below w.heap.size w W) => ch44_Value c s _ _ _ _ W (HM.out.below hW)
  have k7' := fun s W (hW : Below w.heap.size w W) => ch44_Moves c s _ _ _ _ W (HM.out.below hW)
  have k8' := fun s o W (hW : Below w.heap.size w W) => ch44_Step c s o _ _ _ _ W (HM.out.below hW)
  unfold chV stV at k3' k5' k6' k7' k8'
  unfold chV at k2' k4'
  have K1 := Lib.hid k1'
  have K4 := Lib.hid k4'
  have K5 := Lib.hid k5'
  have K6 := Lib.hid k6'
  have K7 := Lib.hid k7'
  have K8 := Lib.hid k8'
  have HARR := Lib.hid harr
  have tok0 : True := trivial
  clear k1' k4' k5' k6' k7' k8' hg h HM hk0 hk1 hk2 harr
  cases hs : smallC c
  · rw [hs] at k2'
    have K2 := Lib.hid k2'
    clear k2' k3' hs
    go_enter Tryz.func3, Tryz.ntmps3
    go_wp2_with (first
      | (clear tok0; go_at_call 11; refine (K1.out _ HX0.out.bel).mono ?_; rintro e w1 ⟨rfl, hb⟩; have HX1 := Lib.hid (HX0.out.below hb); obtain ⟨x0, x1, x2, x3, x4, x5, x6⟩ := HX1.out.cell7; clear hb; have tok1 : True := trivial)
      | (clear tok1; go_at_call 12; refine (K2.out _ HX1.out.bel).mono ?_; rintro e w2 ⟨rfl, hb⟩; have HX2 := Lib.hid (HX1.out.below hb); clear x0 x1 x2 x3 x4 x5 x6; obtain ⟨x0, x1, x2, x3, x4, x5, x6⟩ := HX2.out.cell7; clear hb; have tok2 : True := trivial))
    go_ret
    exact ⟨rfl, HX2.out.bel⟩
  rw [hs] at k2'
  have K2 := Lib.hid k2'
  clear k2' hs
  by_cases h3 : 3 < c.bows.length
  · have h3' : (3 : Int) < c.bows.length := by omega
    clear k3'
    go_enter Tryz.func3, Tryz.ntmps3
    go_wp2_with (first
      | (clear tok0; go_at_call 11; refine (K1.out _ HX0.out.bel).mono ?_; rintro e w1 ⟨rfl, hb⟩; have HX1 := Lib.hid (HX0.out.below hb); obtain ⟨x0, x1, x2, x3, x4, x5, x6⟩ := HX1.out.cell7; clear hb; have tok1 : True := trivial)
      | (clear tok1; go_at_call 12; refine (K2.out _ HX1.out.bel).mono ?_; rintro e w2 ⟨rfl, hb⟩; have HX2 := Lib.hid (HX1.out.below hb); clear x0 x1 x2 x3 x4 x5 x6; obtain ⟨x0, x1, x2, x3, x4, x5, x6⟩ := HX2.out.cell7; clear hb; have tok2 : True := trivial))
    go_ret
    exact ⟨rfl, HX2.out.bel⟩
  have h3' : ¬ (3 : Int) < c.bows.length := by omega
  clear h3
  obtain ⟨u, hu⟩ : ∃ x, x = checkC c := ⟨_, rfl⟩
  unfold startC at k3'
  by_cases h0 : checkC c ≠ 0
  · rw [if_pos h0] at k3'
    rw [← hu] at k3' h0
    have eu : (u != 0) = true := by simp [h0]
    unfold noCst at k3'
    dsimp only at k3'
    have K3 := Lib.hid k3'
    have k4'' := K4.out
    rw [← hu] at k4''
    have K4' := Lib.hid k4''
    clear k3' hu h0 k4'' K4
    go_enter Tryz.func3, Tryz.ntmps3
    go_wp2_with (first
      | (clear tok0; go_at_call 11; refine (K1.out _ HX0.out.bel).mono ?_; rintro e w1 ⟨rfl, hb⟩; have HX1 := Lib.hid (HX0.out.below hb); obtain ⟨x0, x1, x2, x3, x4, x5, x6⟩ := HX1.out.cell7; clear hb; have tok1 : True := trivial)
      | (clear tok1; go_at_call 12; refine (K2.out _ HX1.out.bel).mono ?_; rintro e w2 ⟨rfl, hb⟩; have HX2 := Lib.hid (HX1.out.below hb); clear x0 x1 x2 x3 x4 x5 x6; obtain ⟨x0, x1, x2, x3, x4, x5, x6⟩ := HX2.out.cell7; clear hb; have tok2 : True := trivial)
      | (clear tok2; go_at_call 13; refine (K3.out _ HX2.out.bel).mono ?_; rintro e w3 ⟨rfl, hb⟩; have HX3 := Lib.hid ((HX2.out.below hb).opened ⟨0, 0, 0, 0, 0⟩); have hx3 := HX2.out.below hb; clear x0 x1 x2 x3 x4 x5 x6; obtain ⟨x0, x1, x2, x3, x4, x5, x6⟩ := hx3.cell7; have hlt3 := hx3.box.lt; have hlu3 := hx3.arr.lt; clear hb hx3; have tok3 : True := trivial)
      | (clear tok3; go_at_call 14; refine (K4'.out _ HX3.out.base.bel).mono ?_; rintro e w4 ⟨rfl, hb⟩; have HX4 := Lib.hid (HX3.out.below hb); clear x0 x1 x2 x3 x4 x5 x6; obtain ⟨⟨x0, x1, x2, x3, x4, x5, x6⟩, y0, y1, y2, y3, y4⟩ := HX4.out.cells; dsimp only at y0 y1 y2 y3 y4; clear hb; have tok4 : True := trivial))
    go_ret
    exact ⟨ret_b (by simp), HX4.out.base.bel⟩
  rw [if_neg h0] at k3'
  have hc0 : checkC c = 0 := by omega
  dsimp only at k3'
  have K3 := Lib.hid k3'
  have hst0 := chst_start hc0
  have k5'' := K5.out _ hst0
  have k6'' := K6.out ⟨0, c.need, 0, 1, 2⟩
  have hv0 : valueC c ⟨0, c.need, 0, 1, 2⟩ = (valS c ⟨0, c.need, 0, 1, 2⟩, 0) := by unfold valueC; rw [if_neg (by omega)]
  rw [hv0] at k6''
  obtain ⟨v0, hv0'⟩ : ∃ x, x = valS c ⟨0, c.need, 0, 1, 2⟩ := ⟨_, rfl⟩
  rw [← hv0'] at k5'' k6''
  dsimp only at k5'' k6''
  have K5' := Lib.hid k5''
  have K6' := Lib.hid k6''
  have HST0 := Lib.hid hst0
  clear k3' hu h0 hc0 hst0 k5'' k6'' hv0 hv0' K4 K5 u
  go_enter Tryz.func3, Tryz.ntmps3
  go_wp2_with (first
    | (clear tok0; go_at_call 11; refine (K1.out _ HX0.out.bel).mono ?_; rintro e w1 ⟨rfl, hb⟩; have HX1 := Lib.hid (HX0.out.below hb); obtain ⟨x0, x1, x2, x3, x4, x5, x6⟩ := HX1.out.cell7; clear hb; have tok1 : True := trivial)
    | (clear tok1; go_at_call 12; refine (K2.out _ HX1.out.bel).mono ?_; rintro e w2 ⟨rfl, hb⟩; have HX2 := Lib.hid (HX1.out.below hb); clear x0 x1 x2 x3 x4 x5 x6; obtain ⟨x0, x1, x2, x3, x4, x5, x6⟩ := HX2.out.cell7; clear hb; have tok2 : True := trivial)
    | (clear tok2; go_at_call 13; refine (K3.out _ HX2.out.bel).mono ?_; rintro e w3 ⟨rfl, hb⟩; have HX3 := Lib.hid ((HX2.out.below hb).opened ⟨0, c.need, 0, 1, 2⟩); have hx3 := HX2.out.below hb; clear x0 x1 x2 x3 x4 x5 x6; obtain ⟨x0, x1, x2, x3, x4, x5, x6⟩ := hx3.cell7; have hlt3 := hx3.box.lt; have hlu3 := hx3.arr.lt; clear hb hx3; have tok3 : True := trivial)
    | (clear tok3; go_at_call 15; refine (K5'.out _ HX3.out.base.bel).mono ?_; rintro e w4 ⟨rfl, hb⟩; have HX4 := Lib.hid (HX3.out.below hb); clear x0 x1 x2 x3 x4 x5 x6; obtain ⟨⟨x0, x1, x2, x3, x4, x5, x6⟩, y0, y1, y2, y3, y4⟩ := HX4.out.cells; dsimp only at y0 y1 y2 y3 y4; clear hb; have tok4 : True := trivial)
    | (clear tok4; go_at_call 16; refine (K6'.out _ HX4.out.base.bel).mono ?_; rintro e w5 ⟨rfl, hb⟩; have HX5 := Lib.hid (HX4.out.below hb); clear x0 x1 x2 x3 x4 x5 x6; clear y0 y1 y2 y3 y4; obtain ⟨z0, z1, z2⟩ := HX5.out.base.cell3; obtain ⟨⟨x0, x1, x2, x3, x4, x5, x6⟩, y0, y1, y2, y3, y4⟩ := HX5.out.cells; dsimp only at y0 y1 y2 y3 y4; clear hb; have tok5 : True := trivial))
  go_loopw [68] (fun i wr => ∃ (k : Nat) (s : Cst), k ≤ 3 ∧ i = .int .i64 k ∧ Hid (TmB w wr w3.heap.size c (.slice A c.mdl.bats.length ca) (.slice A1 c.mdl.bows.length ca1) (.slice A2 c.bows.length ca2) (.slice A3 c.ord.length ca3) k0 k1 k2 s) ∧ Hid (chstC c s = 0)) (fun i _ => 3 - (intOf i).toNat)
  case atStart => exact ⟨0, ⟨0, c.need, 0, 1, 2⟩, by omega, rfl, HX5, HST0⟩
  case round =>
    clear x0 x1 x2 x3 x4 x5 x6 y0 y1 y2 y3 y4 z0 z1 z2 HX5 HX4 HX3 HX2 HX1 K1 K2 K3 K5' K6' HST0
    obtain ⟨k, s, hk, rfl, HS, HC⟩ := hrel
    obtain ⟨wo, hwo⟩ : ∃ wo : World, wo = wr := ⟨_, rfl⟩
    subst hwo
    by_cases hlt : k < 3
    · have hix := fun W => arr3_run k0 k1 k2 hlt W
      have hkb := HARR.out k
      obtain ⟨hkb0, hkb1⟩ := hkb
      have k7 := K7.out s
      have tok30 : True := trivial
      have hval : valueC c s = (valS c s, 0) := by unfold valueC; rw [if_neg (fun k => k HC.out)]
      have kV := K6.out s
      rw [hval] at kV
      have hrun := fun h1 => run44 HC.out h1
      obtain ⟨st, hst⟩ : ∃ x, x = stC c s := ⟨_, rfl⟩
      have hnot := fun h => moves_not (c := c) (s := s) HC.out h
      rw [← hst] at hrun hnot
      obtain ⟨vs, hvs⟩ : ∃ x, x = valS c s := ⟨_, rfl⟩
      rw [← hvs] at kV hrun
      by_cases h1 : st = 1
      case neg =>
        have k7' := fun W hW => (k7 W hW).mono fun e w' h => by rw [hnot h1] at h; exact otc_exC h
        obtain ⟨ball, need, str, par, nxt⟩ := s
        dsimp only at k7'
        have KM := Lib.hid k7'
        obtain ⟨⟨x0, x1, x2, x3, x4, x5, x6⟩, y0, y1, y2, y3, y4⟩ := HS.out.cells
        dsimp only at y0 y1 y2 y3 y4
        clear k7 k7' hnot hrun hst h1 kV hval hvs HC K6 K7 K8 HARR 
        go_wp2_with (clear tok30; go_at_call 17; refine (KM.out _ HS.out.base.bel).mono ?_; rintro e w7 ⟨A7, c7, rfl, hb, hs7⟩; have HB7 := Lib.hid (HS.out.below hb); clear hb hs7; have tok31 : True := trivial)
        go_ret
        exact ⟨rfl, HB7.out.base.bel⟩
      case pos =>
        obtain ⟨l, hl, hlen, hlen1, hsum, hel⟩ := hrun h1
        have k7' := fun W hW => (k7 W hW).mono fun e w' h => by rw [hl] at h; exact otc_exC h
        have k8' := fun (k : Nat) (hk : k < l.length) W hW => K8.out s l[k] W hW
        have k9' := fun t => K6.out t
        obtain ⟨j, hj⟩ : ∃ j, j = (arr3 k0 k1 k2 k).toNat % l.length := ⟨_, rfl⟩
        have hjl : j < l.length := by rw [hj]; exact Nat.mod_lt _ (by omega)
        have hkn : arr3 k0 k1 k2 k = (((arr3 k0 k1 k2 k).toNat : Nat) : Int) := by omega
        have hj1 : (arr3 k0 k1 k2 k).tmod (l.length : Int) = (j : Int) := by rw [hkn, Int.tmod_eq_emod_of_nonneg (by omega), hj]; simp
        have hj2 : arr3 k0 k1 k2 k % (l.length : Int) = (j : Int) := by rw [hkn, hj]; simp
        have hj3 : IntKind.i64.wrap ((arr3 k0 k1 k2 k).tmod (l.length : Int)) = (j : Int) := by rw [hj1]; exact IntWalk.i64_in _ (by omega)
        have hlp : (1 : Int) ≤ (l.length : Int) := by omega
        have hlz : ¬ ((l.length : Int) = 0) := by omega
        have hlq : ((j : Nat) : Int) < (l.length : Int) := by omega
        have hln : ¬ (l.length = 0) := by omega
        have hle : ¬ (l = []) := fun e => hln (by rw [e]; rfl)
        have hm0 : 0 ≤ (arr3 k0 k1 k2 k).tmod (l.length : Int) := by rw [hj1]; omega
        have hm1 : (arr3 k0 k1 k2 k).tmod (l.length : Int) < (l.length : Int) := by rw [hj1]; omega
        have hm2 : 0 ≤ arr3 k0 k1 k2 k % (l.length : Int) := by rw [hj2]; omega
        have hm3 : arr3 k0 k1 k2 k % (l.length : Int) < (l.length : Int) := by rw [hj2]; omega
        have hcv : IntKind.i64.wrap (arr3 k0 k1 k2 k) = arr3 k0 k1 k2 k := IntWalk.i64_in _ (by omega)
        have hl0 : ((l.length : Int) == 0) = false := beq_eq_false_iff_ne.2 (by omega)
        obtain ⟨ball, need, str, par, nxt⟩ := s
        dsimp only at k7' k8' kV
        have KM := Lib.hid k7'
        have K8' := Lib.hid k8'
        have K9 := Lib.hid k9'
        have KV0 := Lib.hid kV
        have HSUM := Lib.hid hsum
        have HEL := Lib.hid hel
        obtain ⟨⟨x0, x1, x2, x3, x4, x5, x6⟩, y0, y1, y2, y3, y4⟩ := HS.out.cells
        dsimp only at y0 y1 y2 y3 y4
        clear k7 k7' k8' k9' hnot hrun hst h1 kV hval hvs K6 K7 K8 HARR  hl hsum hel hj hkn
        go_wp2_with (clear tok30; go_at_call 17; refine (KM.out _ HS.out.base.bel).mono ?_; rintro e w7 ⟨A7, c7, rfl, hb, hs7⟩; have HL7 := Lib.hid hs7; have HX7 := Lib.hid (HS.out.below hb); clear x0 x1 x2 x3 x4 x5 x6 y0 y1 y2 y3 y4; obtain ⟨⟨x0, x1, x2, x3, x4, x5, x6⟩, y0, y1, y2, y3, y4⟩ := HX7.out.cells; dsimp only at y0 y1 y2 y3 y4; clear hb hs7; have tok31 : True := trivial)
        go_loopw [15, 81] (fun v i wr => ∃ (k : Nat) (sm : Int), k ≤ l.length ∧ i = .int .i64 k ∧ v = .int .i64 sm ∧ 0 ≤ sm ∧ sm ≤ 281474976710656 * k ∧ Hid (Below w7.heap.size w7 wr) ∧ Hid (sm = sumI ((l.take k).map fun o => o.wt * valS c (stepC c ⟨ball, need, str, par, nxt⟩ o)))) (fun _ i _ => l.length - (intOf i).toNat)
        case atStart => exact ⟨0, 0, Nat.zero_le _, rfl, rfl, by omega, by omega, Lib.hid (Below.refl _ _), Lib.hid rfl⟩
        case round =>
          clear x0 x1 x2 x3 x4 x5 x6 y0 y1 y2 y3 y4
          obtain ⟨q, sm, hq, rfl, rfl, hs0, hs1, HB, hss⟩ := hrel
          have HXR := Lib.hid (HX7.out.below HB.out)
          by_cases hqt : q < l.length
          · obtain ⟨b0, o, rfl, hbl, j0, j1, j2⟩ := otc_at HL7.out hqt
            have g0 := (HB.out.cell (p := ⟨b0, o + q * 3, none⟩) hbl).trans j0
            have g1 := (HB.out.cell (p := ⟨b0, o + q * 3 + 1, none⟩) hbl).trans j1
            have g2 := (HB.out.cell (p := ⟨b0, o + q * 3 + 2, none⟩) hbl).trans j2
            obtain ⟨⟨r0, r7⟩, e1, e2, e3, ⟨e4, e5⟩, e6, e7⟩ := HEL.out q hqt
            have hst : sm + l[q].wt * valS c (stepC c ⟨ball, need, str, par, nxt⟩ l[q]) = sumI ((l.take (q + 1)).map fun o => o.wt * valS c (stepC c ⟨ball, need, str, par, nxt⟩ o)) := by rw [hss.out, sum_take (fun o : Otc => o.wt * valS c (stepC c ⟨ball, need, str, par, nxt⟩ o)) hqt]
            have kS := fun W hW => K8'.out q hqt W hW
            rw [e1] at kS
            have kW := fun W hW => K9.out (stepC c ⟨ball, need, str, par, nxt⟩ l[q]) W hW
            rw [e3] at kW
            obtain ⟨⟨t0, t1, t2, t3, t4⟩, hs'⟩ : ∃ x, x = stepC c ⟨ball, need, str, par, nxt⟩ l[q] := ⟨_, rfl⟩
            rw [← hs'] at hst e4 e5 e6 e7 kS kW
            obtain ⟨vv, hvv⟩ : ∃ x, x = valS c ⟨t0, t1, t2, t3, t4⟩ := ⟨_, rfl⟩
            rw [← hvv] at hst e6 e7 kW
            obtain ⟨⟨pr, pw, pt⟩, hp'⟩ : ∃ p, p = l[q] := ⟨_, rfl⟩
            rw [← hp'] at g0 g1 g2 hst e5 e6 e7 r0 r7 kS
            dsimp only at g0 g1 g2 hst e4 e5 e6 e7 r0 r7 kS kW
            clear e4 e5
            have HST := Lib.hid hst
            have KS := Lib.hid kS
            have KW := Lib.hid kW
            clear hst kS kW hs' hvv hp' hss j0 j1 j2 e1 e2 e3 hj1 hj2 hj3 hcv hm0 hm1 hm2 hm3 hl0 hln hle hlp hlz hlq
            have HXO := Lib.hid (⟨HXR.out.below (Below.alloc (Below.refl wr.heap.size wr) (Nat.le_refl _) (.cells #[.int .i64 pr, .bool pw, .int .i64 pt] 46)), Blk.new wr 46 #[.int .i64 pr, .bool pw, .int .i64 pt], Below.alloc HB.out HB.out.size _⟩ : TmO w w7 (wr.alloc (.cells #[.int .i64 pr, .bool pw, .int .i64 pt] 46)) w3.heap.size wr.heap.size c (.slice A c.mdl.bats.length ca) (.slice A1 c.mdl.bows.length ca1) (.slice A2 c.bows.length ca2) (.slice A3 c.ord.length ca3) k0 k1 k2 ⟨ball, need, str, par, nxt⟩ pr pw pt)
            obtain ⟨⟨x0, x1, x2, x3, x4, x5, x6⟩, y0, y1, y2, y3, y4⟩ := HXR.out.cells
            dsimp only at y0 y1 y2 y3 y4
            have hl1 := HXR.out.base.box.lt
            have hl2 := HXR.out.st.lt
            have tok40 : True := trivial
            go_wp2_with (first
              | (clear tok40; go_at_call 18; refine (KS.out _ HXO.out.base.base.bel).mono ?_; rintro e w5 ⟨rfl, hb⟩; have HO5' := HXO.out.below hb; clear x0 x1 x2 x3 x4 x5 x6 y0 y1 y2 y3 y4; obtain ⟨⟨x0, x1, x2, x3, x4, x5, x6⟩, y0, y1, y2, y3, y4⟩ := HO5'.base.cells; dsimp only at y0 y1 y2 y3 y4; obtain ⟨u0, u1, u2⟩ := HO5'.three; clear hl1 hl2; have hl1 := HO5'.base.base.box.lt; have hl2 := HO5'.base.st.lt; have hl3 := HO5'.ob.lt; have HO5 := Lib.hid (HO5'.below (Below.alloc (Below.refl w5.heap.size w5) (Nat.le_refl _) (.cells #[.int .i64 t0, .int .i64 t1, .int .i64 t2, .int .i64 t3, .int .i64 t4] 33))); have HT5 := Lib.hid (Blk.new w5 33 #[.int .i64 t0, .int .i64 t1, .int .i64 t2, .int .i64 t3, .int .i64 t4]); clear HO5' hb; have tok41 : True := trivial)
              | (clear tok41; go_at_call 16; refine (KW.out _ HO5.out.base.base.bel).mono ?_; rintro e w6 ⟨rfl, hb⟩; have HO6 := Lib.hid (HO5.out.below hb); obtain ⟨z0, z1, z2, z3, z4⟩ := blk_five (HT5.out.below hb HT5.out.lt); clear x0 x1 x2 x3 x4 x5 x6 y0 y1 y2 y3 y4; clear u0 u1 u2; obtain ⟨⟨x0, x1, x2, x3, x4, x5, x6⟩, y0, y1, y2, y3, y4⟩ := HO6.out.base.cells; dsimp only at y0 y1 y2 y3 y4; obtain ⟨u0, u1, u2⟩ := HO6.out.three; clear hb hl1 hl2 hl3; have tok42 : True := trivial))
            go_roundw
            case rel => exact ⟨q + 1, sm + pt * vv, by omega, by go_num, by first | rfl | rw [IntWalk.i64_in (pt * vv) (by omega), IntWalk.i64_in (sm + pt * vv) (by omega)], by omega, by push_cast; omega, Lib.hid HO6.out.seven, HST⟩
            case measure => simp [intOf]; omega
          · obtain rfl : q = l.length := by omega
            have hs2 := hss.out
            rw [List.take_of_length_le (Nat.le_refl _), ← HSUM.out] at hs2
            subst hs2
            obtain ⟨b0, o, rfl, hbl, j0, j1, j2⟩ := otc_at HL7.out hjl
            have g0 := (HB.out.cell (p := ⟨b0, o + j * 3, none⟩) hbl).trans j0
            have g1 := (HB.out.cell (p := ⟨b0, o + j * 3 + 1, none⟩) hbl).trans j1
            have g2 := (HB.out.cell (p := ⟨b0, o + j * 3 + 2, none⟩) hbl).trans j2
            obtain ⟨_, e1, e2, _⟩ := HEL.out j hjl
            have kS := fun W hW => K8'.out j hjl W hW
            rw [e1] at kS
            obtain ⟨t, hs'⟩ : ∃ x, x = stepC c ⟨ball, need, str, par, nxt⟩ l[j] := ⟨_, rfl⟩
            rw [← hs'] at kS e2
            obtain ⟨⟨pr, pw, pt⟩, hp'⟩ : ∃ p, p = l[j] := ⟨_, rfl⟩
            rw [← hp'] at g0 g1 g2 kS
            dsimp only at g0 g1 g2 kS
            obtain ⟨t0, t1, t2, t3, t4⟩ := t
            dsimp only at kS
            have KS := Lib.hid kS
            have HE2 := Lib.hid e2
            have G0 := Lib.hid g0
            have G1 := Lib.hid g1
            have G2 := Lib.hid g2
            have hbb : b0 < wr.heap.size := Nat.lt_of_lt_of_le hbl HB.out.size
            clear kS e1 e2 hs' hp' hss j0 j1 j2 g0 g1 g2
            obtain ⟨⟨x0, x1, x2, x3, x4, x5, x6⟩, y0, y1, y2, y3, y4⟩ := HXR.out.cells
            dsimp only at y0 y1 y2 y3 y4
            have tok50 : True := trivial
            go_wp2_with (clear tok50; go_at_call 16; refine (KV0.out _ HXR.out.base.bel).mono ?_; rintro e w8 ⟨rfl, hb⟩; have HX8 := Lib.hid (HXR.out.below hb).drew; have HB8 := Lib.hid hb; clear x0 x1 x2 x3 x4 x5 x6 y0 y1 y2 y3 y4 hb; have tok51 : True := trivial)
            obtain ⟨⟨x0, x1, x2, x3, x4, x5, x6⟩, y0, y1, y2, y3, y4⟩ := HX8.out.cells
            dsimp only at y0 y1 y2 y3 y4
            have g0 := ((Below.drew HB8.out).cell (p := ⟨b0, o + j * 3, none⟩) hbb).trans G0.out
            have g1 := ((Below.drew HB8.out).cell (p := ⟨b0, o + j * 3 + 1, none⟩) hbb).trans G1.out
            have g2 := ((Below.drew HB8.out).cell (p := ⟨b0, o + j * 3 + 2, none⟩) hbb).trans G2.out
            go_region_with ((go_at_call 18; refine (KS.out _ HX8.out.base.bel).mono ?_; rintro e w9 ⟨rfl, hb⟩; have HX9 := Lib.hid (HX8.out.below hb); clear x0 x1 x2 x3 x4 x5 x6 y0 y1 y2 y3 y4 g0 g1 g2; obtain ⟨⟨x0, x1, x2, x3, x4, x5, x6⟩, y0, y1, y2, y3, y4⟩ := HX9.out.cells; dsimp only at y0 y1 y2 y3 y4; have q0 := HX9.out.st.frozen 0; have q1 := HX9.out.st.frozen 1; have q2 := HX9.out.st.frozen 2; have q3 := HX9.out.st.frozen 3; have q4 := HX9.out.st.frozen 4; clear hb))
            all_goals go_wp2
            all_goals
              go_roundw
              case rel => exact ⟨k + 1, ⟨t0, t1, t2, t3, t4⟩, by omega, by go_num, Lib.hid (HX9.out.stored ⟨t0, t1, t2, t3, t4⟩), HE2⟩
              case measure => simp [intOf]; omega
    · obtain rfl : k = 3 := by omega
      go_wp2
      go_ret
      exact ⟨rfl, HS.out.base.bel⟩

end Go.Proofs.YtfnfbojaiikigaaGreatDoor
