/- Several texts of this family in one: Y15 Y17 Y19 Y20 Y21 I26 I27S I27 FI I28R I28 I29 W15. -/
import Derived.Test.YtjchapoggmipbaaGreatDoorGQ6
import Derived.StillTailTactics
import Derived.Test.YtjchapoggmipbaaGreatDoorGQ5
import Derived.Test.YtjchapoggmipbaaGreatDoorGP1
import Derived.Test.YtjchapoggmipbaaGreatDoorGQ3
import Derived.Test.YtjchapoggmipbaaGreatDoorGP0
set_option linter.unusedSimpArgs false
set_option linter.unusedVariables false
namespace Go.Proofs.YtjchapoggmipbaaGreatDoor
open Go.RowKit

/-- Four boxes: a chase, a state, two states handed back. -/
structure Four4 (w W : World) (g ga gb : Nat) (c : Chs) (bv wv pv ov : Value) (s a : Cst) : Prop where
  base : CSB w W g c bv wv pv ov s
  fa : Blk W ga 79 #[.int .i64 a.ball, .int .i64 a.need, .int .i64 a.str, .int .i64 a.par, .int .i64 a.nxt]
  fb : Blk W gb 79 #[.int .i64 a.ball, .int .i64 a.need, .int .i64 a.str, .int .i64 a.par, .int .i64 a.nxt]
theorem Four4.below {w W W' : World} {g ga gb : Nat} {c : Chs} {bv wv pv ov : Value} {s a : Cst} (h : Four4 w W g ga gb c bv wv pv ov s a) (hb : Below W.heap.size W W') : Four4 w W' g ga gb c bv wv pv ov s a := ⟨h.base.below hb, h.fa.below hb h.fa.lt, h.fb.below hb h.fb.lt⟩
end Go.Proofs.YtjchapoggmipbaaGreatDoor

namespace Go.Proofs.YtjchapoggmipbaaGreatDoor
open Go.RowKit

structure StB (w W : World) (g : Nat) (c : Chs) (bv wv pv ov : Value) (s : Cst) (o : Otc) : Prop where
  base : CSB w W g c bv wv pv ov s
  ob : Blk W (g + 1 + 1) 82 #[.int .i64 o.runs, .bool o.wick, .int .i64 o.wt]
  rb : Blk W (g + 1 + 1 + 1) 79 #[.int .i64 0, .int .i64 0, .int .i64 0, .int .i64 0, .int .i64 0]
theorem StB.below {w W W' : World} {g : Nat} {c : Chs} {bv wv pv ov : Value} {s : Cst} {o : Otc} (h : StB w W g c bv wv pv ov s o) (hb : Below W.heap.size W W') : StB w W' g c bv wv pv ov s o := ⟨h.base.below hb, h.ob.below hb h.ob.lt, h.rb.below hb h.rb.lt⟩
theorem StB.new (w : World) (c : Chs) (bv wv pv ov : Value) (s : Cst) (o : Otc) : StB w ((((w.alloc (.cells #[bv, wv, pv, .int .i64 c.over, .int .i64 c.done, .int .i64 c.need, ov] 77)).alloc (.cells #[.int .i64 s.ball, .int .i64 s.need, .int .i64 s.str, .int .i64 s.par, .int .i64 s.nxt] 79)).alloc (.cells #[.int .i64 o.runs, .bool o.wick, .int .i64 o.wt] 82)).alloc (.cells #[.int .i64 0, .int .i64 0, .int .i64 0, .int .i64 0, .int .i64 0] 79)) w.heap.size c bv wv pv ov s o := by
  have hx := CSB.new w c bv wv pv ov s
  obtain ⟨W2, hW⟩ : ∃ W2, W2 = (w.alloc (.cells #[bv, wv, pv, .int .i64 c.over, .int .i64 c.done, .int .i64 c.need, ov] 77)).alloc (.cells #[.int .i64 s.ball, .int .i64 s.need, .int .i64 s.str, .int .i64 s.par, .int .i64 s.nxt] 79) := ⟨_, rfl⟩
  have hs : W2.heap.size = w.heap.size + 1 + 1 := by rw [hW, World.size_alloc, World.size_alloc]
  rw [← hW] at hx ⊢
  have h1 := Below.alloc (Below.refl W2.heap.size W2) (Nat.le_refl _) (.cells #[.int .i64 o.runs, .bool o.wick, .int .i64 o.wt] 82)
  have h2 := Below.alloc h1 h1.size (.cells #[.int .i64 0, .int .i64 0, .int .i64 0, .int .i64 0, .int .i64 0] 79)
  have b1 := (Blk.new W2 82 #[.int .i64 o.runs, .bool o.wick, .int .i64 o.wt]).alloc (.cells #[.int .i64 0, .int .i64 0, .int .i64 0, .int .i64 0, .int .i64 0] 79)
  have b2 := Blk.new (W2.alloc (.cells #[.int .i64 o.runs, .bool o.wick, .int .i64 o.wt] 82)) 79 #[.int .i64 0, .int .i64 0, .int .i64 0, .int .i64 0, .int .i64 0]
  rw [World.size_alloc] at b2
  rw [hs] at b1 b2
  exact ⟨hx.below h2, b1, b2⟩
theorem StB.res {w W : World} {g : Nat} {c : Chs} {bv wv pv ov : Value} {s : Cst} {o : Otc} (h : StB w W g c bv wv pv ov s o) : (W.cell? ⟨g + 1 + 1 + 1, 0, none⟩ = some (.int .i64 0) ∧ W.cell? ⟨g + 1 + 1 + 1, 1, none⟩ = some (.int .i64 0) ∧ W.cell? ⟨g + 1 + 1 + 1, 2, none⟩ = some (.int .i64 0) ∧ W.cell? ⟨g + 1 + 1 + 1, 3, none⟩ = some (.int .i64 0) ∧ W.cell? ⟨g + 1 + 1 + 1, 4, none⟩ = some (.int .i64 0)) ∧
    W.frozen? ⟨g + 1 + 1 + 1, 0, none⟩ = false ∧ W.frozen? ⟨g + 1 + 1 + 1, 1, none⟩ = false ∧ W.frozen? ⟨g + 1 + 1 + 1, 2, none⟩ = false ∧ W.frozen? ⟨g + 1 + 1 + 1, 3, none⟩ = false ∧ W.frozen? ⟨g + 1 + 1 + 1, 4, none⟩ = false :=
  ⟨⟨h.rb.cell 0, h.rb.cell 1, h.rb.cell 2, h.rb.cell 3, h.rb.cell 4⟩, h.rb.frozen 0, h.rb.frozen 1, h.rb.frozen 2, h.rb.frozen 3, h.rb.frozen 4⟩
end Go.Proofs.YtjchapoggmipbaaGreatDoor

namespace Go.Proofs.YtjchapoggmipbaaGreatDoor
open Go.RowKit

structure CsO (w w7 W : World) (g g2 : Nat) (c : Chs) (bv wv pv ov : Value) (s : Cst) (pr : Int) (pw : Bool) (pt : Int) : Prop where
  base : CSB w W g c bv wv pv ov s
  ob : Blk W g2 82 #[.int .i64 pr, .bool pw, .int .i64 pt]
  seven : Below w7.heap.size w7 W
theorem CsO.below {w w7 W W' : World} {g g2 : Nat} {c : Chs} {bv wv pv ov : Value} {s : Cst} {pr : Int} {pw : Bool} {pt : Int} (h : CsO w w7 W g g2 c bv wv pv ov s pr pw pt) (hb : Below W.heap.size W W') : CsO w w7 W' g g2 c bv wv pv ov s pr pw pt := ⟨h.base.below hb, h.ob.below hb h.ob.lt, h.seven.trans (hb.mono h.seven.size)⟩
theorem CsO.three {w w7 W : World} {g g2 : Nat} {c : Chs} {bv wv pv ov : Value} {s : Cst} {pr : Int} {pw : Bool} {pt : Int} (h : CsO w w7 W g g2 c bv wv pv ov s pr pw pt) : W.cell? ⟨g2, 0, none⟩ = some (.int .i64 pr) ∧ W.cell? ⟨g2, 1, none⟩ = some (.bool pw) ∧ W.cell? ⟨g2, 2, none⟩ = some (.int .i64 pt) := ⟨h.ob.cell 0, h.ob.cell 1, h.ob.cell 2⟩
end Go.Proofs.YtjchapoggmipbaaGreatDoor

namespace Go.Proofs.YtjchapoggmipbaaGreatDoor
open Go.RowKit

end Go.Proofs.YtjchapoggmipbaaGreatDoor

namespace Go.Proofs.YtjchapoggmipbaaGreatDoor
open Go.RowKit

def exT : List UInt8 := [48, 58, 56, 32, 52, 58, 56]
def exTd : List Otc := [⟨0, false, 8⟩, ⟨4, false, 8⟩]
theorem exT_text : textC exTd = (exT, 0) := by
  have h0 : checkD exTd = 0 := by kernel_rfl
  have e0 := otcW_dig3 0 8 false (by omega) (by omega)
  have e1 := otcW_dig3 4 8 false (by omega) (by omega)
  unfold textC
  rw [if_neg (fun k => k h0)]
  show (Lib.join [otcW ⟨((0 : Nat) : Int), false, ((8 : Nat) : Int)⟩, otcW ⟨((4 : Nat) : Int), false, ((8 : Nat) : Int)⟩] [32], (0 : Int)) = _
  rw [e0, e1]
  kernel_rfl
theorem exT_parse : parseC exT = (exTd, 0) := by
  have h1 : (pieces 32 exT).all pieceOk = true := by kernel_rfl
  have h2 : (pieces 32 exT).map pieceO = exTd := by kernel_rfl
  unfold parseC
  rw [h1, if_neg (by simp), h2, exT_text, if_neg (by simp)]
theorem exT_mean : meanS exTd = (32, 0) := by kernel_rfl
set_option maxRecDepth 100000 in
set_option maxHeartbeats 2000000 in
theorem top_planAwake (w : World) (hg : GlobN w) : Calls Tryz.prog 4 #[] w fun e w' => e = .returned (.bool true) ∧ Below w.heap.size w w' := by
  have kp1 : Calls Tryz.prog 18 #[.string ⟨#[48, 58, 56, 32, 52, 58, 56]⟩] w fun e W' => ∃ A c, e = .returned (.tuple #[.slice A 2 c, .int .i64 0]) ∧ Sl 3 elOtc W' (· < W'.heap.size) (.slice A 2 c) exTd ∧ Below w.heap.size w W' := by
    refine (ch_Parse (S exT) w hg (by decide)).mono ?_
    rintro e W' ⟨v, rfl, hs, hb⟩
    rw [S_data, exT_parse] at hs ⊢
    obtain ⟨A, c, rfl, _⟩ := hs.shape
    exact ⟨A, c, rfl, hs.keep elOtc_good (Same.refl _ _) fun _ h => h.2, hb⟩
  have km : ∀ W A c, Below w.heap.size w W → Sl 3 elOtc W (· < W.heap.size) (.slice A 2 c) exTd → Calls Tryz.prog 19 #[.slice A 2 c] W fun e W' => e = .returned (.tuple #[.int .i64 32, .int .i64 0]) ∧ Below w.heap.size w W' := fun W A c hW h => by
    refine (ch_Mean exTd _ W h).mono ?_
    rintro e W' ⟨rfl, hb⟩
    rw [exT_mean]
    exact ⟨rfl, hW.trans (hb.mono hW.size)⟩
  have KP1 := Lib.hid kp1
  have KM := Lib.hid km
  clear kp1 km hg
  go_enter Tryz.func4, Tryz.ntmps4
  go_wp2_with (first
    | (go_at_call 18; ((with_reducible refine KP1.out.mono ?_); rintro e w1 ⟨A, c, rfl, hs1, hb1⟩; have HS1 := Lib.hid hs1; have HB1 := Lib.hid hb1; clear hs1 hb1))
    | (go_at_call 19; refine (KM.out _ _ _ HB1.out HS1.out).mono ?_; rintro e w2 ⟨rfl, hb2⟩; have HB2 := Lib.hid hb2; clear hb2))
  go_ret
  exact ⟨rfl, HB2.out⟩
section
variable {w W W' : World} {c : Chs} {bv wv pv ov : Value} {k0 k1 k2 : Int}
end
section
variable {w W W' : World} {gs : Nat} {c : Chs} {bv wv pv ov : Value} {k0 k1 k2 : Int} {s t : Cst}
end
end Go.Proofs.YtjchapoggmipbaaGreatDoor

namespace Go.Proofs.YtjchapoggmipbaaGreatDoor
open Go.RowKit

/-- A state's wins. -/
def OwA (c : Chs) (n : Nat) : Prop := ∀ (s : Ost), rankO c s = n → OkOs c s → ∀ (bv wv pv ov : Value) (w : World), ChAt w (· < w.heap.size) bv wv pv ov c →
  Calls Tryz.prog 9 #[chV c bv wv pv ov, osV s] w fun e w' => e = .returned (.tuple #[.int .i64 (vO c s), .bool true]) ∧ Below w.heap.size w w'
theorem vO_none {c : Chs} {s : Ost} (ht : OkT c) (h : OkOs c s) (h1 : s.need ≠ 0) (h2 : s.ball ≠ c.bows.length) (hv : vacO s = true) (h0 : s.wait = 0) : vO c s = 0 := by
  rw [vO_vac ht h h1 h2 hv, h0]
  generalize (fun i => vO c (sendO s i)) = f
  have hb : ∀ k : Nat, bitW 0 (k : Int) = false := fun k => by
    unfold bitW
    rw [Int.zero_ediv]; decide
  generalize c.ord.length = n
  induction n with
  | zero => rfl
  | succ n ih => rw [bestF, hb n, if_neg (by decide), ih]
set_option maxRecDepth 100000 in
set_option maxHeartbeats 4000000 in
theorem ow_won (c : Chs) (ht : OkT c) (s : Ost) (hs : OkOs c s) (h0 : s.need = 0) (bv wv pv ov : Value) (w : World) (h : ChAt w (· < w.heap.size) bv wv pv ov c) :
    Calls Tryz.prog 9 #[chV c bv wv pv ov, osV s] w fun e w' => e = .returned (.tuple #[.int .i64 (vO c s), .bool true]) ∧ Below w.heap.size w w' := by
  unfold chV osV
  obtain ⟨A, ca, rfl, hc1, hc2⟩ := h.mdl.bat.shape
  obtain ⟨A1, ca1, rfl, hc3, hc4⟩ := h.mdl.bow.shape
  obtain ⟨A2, ca2, rfl, hc5, hc6⟩ := h.bow.shape
  obtain ⟨A3, ca3, rfl, hc7, hc8⟩ := h.ord.shape
  have HX := Lib.hid (OSB.new w c (.slice A c.mdl.bats.length ca) (.slice A1 c.mdl.bows.length ca1) (.slice A2 c.bows.length ca2) (.slice A3 c.ord.length ca3) s)
  have hb := hs.ball
  have nb := ht.nb
  have hu := unitS_ok (n := leftO c s) (by unfold leftO; omega)
  have hl : (leftO c s : Int) = c.bows.length - s.ball := by unfold leftO; omega
  have ku := fun W => ch_Unit (leftO c s : Int) W
  rw [hu, hl, ← pow16_unit, ← vO_won h0] at ku
  have KU := Lib.hid ku
  have f0 : IntKind.i64.wrap ((c.bows.length : Int) - s.ball) = (c.bows.length : Int) - s.ball := IntWalk.i64_in _ (by omega)
  obtain ⟨Z, hZ⟩ : ∃ z, z = vO c s := ⟨_, rfl⟩
  rw [← hZ] at KU ⊢
  clear ku hl hu hZ hs ht h
  obtain ⟨ball, need, str, par, wait⟩ := s
  dsimp only at *
  subst h0
  go_enter Tryz.func9, Tryz.ntmps9
  go_wp2_with (go_at_call 23; refine (KU.out _).mono ?_; rintro e w1 ⟨rfl, rfl⟩; have tok : True := trivial)
  go_ret2
  exact ⟨rfl, HX.out.bel⟩
set_option maxRecDepth 100000 in
set_option maxHeartbeats 4000000 in
theorem ow_lost (c : Chs) (s : Ost) (hs : OkOs c s) (h0 : s.need ≠ 0) (h2 : s.ball = c.bows.length) (bv wv pv ov : Value) (w : World) (h : ChAt w (· < w.heap.size) bv wv pv ov c) :
    Calls Tryz.prog 9 #[chV c bv wv pv ov, osV s] w fun e w' => e = .returned (.tuple #[.int .i64 (vO c s), .bool true]) ∧ Below w.heap.size w w' := by
  rw [vO_lost h0 h2]
  unfold chV osV
  obtain ⟨A, ca, rfl, hc1, hc2⟩ := h.mdl.bat.shape
  obtain ⟨A1, ca1, rfl, hc3, hc4⟩ := h.mdl.bow.shape
  obtain ⟨A2, ca2, rfl, hc5, hc6⟩ := h.bow.shape
  obtain ⟨A3, ca3, rfl, hc7, hc8⟩ := h.ord.shape
  have HX := Lib.hid (OSB.new w c (.slice A c.mdl.bats.length ca) (.slice A1 c.mdl.bows.length ca1) (.slice A2 c.bows.length ca2) (.slice A3 c.ord.length ca3) s)
  have g1 : (s.need == 0) = false := beqF h0
  have g2 : (s.ball == (c.bows.length : Int)) = true := beq_iff_eq.2 h2
  clear h hs h0 h2
  obtain ⟨ball, need, str, par, wait⟩ := s
  dsimp only at *
  go_enter Tryz.func9, Tryz.ntmps9
  go_wp2
  go_ret2
  exact ⟨rfl, HX.out.bel⟩
set_option maxRecDepth 100000 in
set_option maxHeartbeats 4000000 in
theorem ow_none (c : Chs) (ht : OkT c) (s : Ost) (hs : OkOs c s) (h0 : s.need ≠ 0) (h2 : s.ball ≠ c.bows.length) (hv : vacO s = true) (h3 : s.wait = 0) (bv wv pv ov : Value) (w : World) (h : ChAt w (· < w.heap.size) bv wv pv ov c) :
    Calls Tryz.prog 9 #[chV c bv wv pv ov, osV s] w fun e w' => e = .returned (.tuple #[.int .i64 (vO c s), .bool true]) ∧ Below w.heap.size w w' := by
  rw [vO_none ht hs h0 h2 hv h3]
  unfold chV osV
  obtain ⟨A, ca, rfl, hc1, hc2⟩ := h.mdl.bat.shape
  obtain ⟨A1, ca1, rfl, hc3, hc4⟩ := h.mdl.bow.shape
  obtain ⟨A2, ca2, rfl, hc5, hc6⟩ := h.bow.shape
  obtain ⟨A3, ca3, rfl, hc7, hc8⟩ := h.ord.shape
  have HX := Lib.hid (OSB.new w c (.slice A c.mdl.bats.length ca) (.slice A1 c.mdl.bows.length ca1) (.slice A2 c.bows.length ca2) (.slice A3 c.ord.length ca3) s)
  have g1 : (s.need == 0) = false := beqF h0
  have g2 : (s.ball == (c.bows.length : Int)) = false := beqF h2
  have hvv : s.str < 0 ∨ (¬ s.str < 0 ∧ s.par < 0) := by unfold vacO at hv; simp at hv; omega
  clear h hs h0 h2 ht hv
  obtain ⟨ball, need, str, par, wait⟩ := s
  dsimp only at *
  subst h3
  rcases hvv with g3 | ⟨g3, g4⟩
  all_goals
    go_enter Tryz.func9, Tryz.ntmps9
    go_wp2
    go_ret2
    exact ⟨rfl, HX.out.bel⟩
end Go.Proofs.YtjchapoggmipbaaGreatDoor

namespace Go.Proofs.YtjchapoggmipbaaGreatDoor
open Go.RowKit Go.Maps

set_option maxRecDepth 100000 in
set_option maxHeartbeats 4000000 in
theorem or_SendP (c : Chs) (s : Ost) (bv wv pv ov : Value) (w : World) (h : ChAt w (· < w.heap.size) bv wv pv ov c) (hw : 0 ≤ s.wait ∧ s.wait < 65536) :
    Calls Tryz.prog 24 #[chV c bv wv pv ov, osV s] w fun e w' => e = .returned (.tuple #[.int .i64 (sendSp c s).1, .int .i64 (sendSp c s).2]) ∧ Below w.heap.size w w' := by
  unfold chV osV
  obtain ⟨A, ca, rfl, hc1, hc2⟩ := h.mdl.bat.shape
  obtain ⟨A1, ca1, rfl, hc3, hc4⟩ := h.mdl.bow.shape
  obtain ⟨A2, ca2, rfl, hc5, hc6⟩ := h.bow.shape
  obtain ⟨A3, ca3, rfl, hc7, hc8⟩ := h.ord.shape
  have HX := Lib.hid (OSB.new w c (.slice A c.mdl.bats.length ca) (.slice A1 c.mdl.bows.length ca1) (.slice A2 c.bows.length ca2) (.slice A3 c.ord.length ca3) s)
  have HM := Lib.hid h
  obtain ⟨z, hz⟩ : ∃ z, z = sendSp c s := ⟨_, rfl⟩
  rw [← hz]
  unfold sendSp at hz
  have k1 := fun W (hW : Below w.heap.size w W) => or_CheckState c s _ _ _ _ W (HM.out.below hW) hw
  have hok := fun h => (chstO_ok (c := c) (s := s) hw h).2
  have kvac := fun W => or_vacant s W
  have kend := fun W (hW : Below w.heap.size w W) => or_ended c s _ _ _ _ W (HM.out.below hW)
  unfold chV osV at k1 kend
  unfold osV at kvac
  obtain ⟨u, hu⟩ : ∃ u, u = chstO c s := ⟨_, rfl⟩
  rw [← hu] at k1 hz hok
  have K1 := Lib.hid k1
  have tok0 : True := trivial
  have hmm := @run_makeMap Tryz.prog
  by_cases h0 : u = 0
  case neg =>
    rw [if_pos h0] at hz
    have HZ := Lib.hid hz
    have eu : (u != 0) = true := by simp [h0]
    obtain ⟨ball, need, str, par, wait⟩ := s
    dsimp only at K1 ⊢
    clear hz h0 hok k1 kvac kend hu h hw
    go_enter Tryz.func24, Tryz.ntmps24
    go_wp2_with (first
      | (clear tok0; go_at_call 54; refine (K1.out _ HX.out.bel).mono ?_; rintro e w2 ⟨rfl, hb2⟩; have HX2 := Lib.hid (HX.out.below hb2); obtain ⟨x0, x1, x2, x3, x4, x5, x6, y0, y1, y2, y3, y4⟩ := HX2.out.cells; dsimp only at y0 y1 y2 y3 y4; clear hb2; have tok1 : True := trivial))
    go_ret2
    exact ⟨by rw [HZ.out] <;> rfl, HX2.out.bel⟩
  rw [if_neg (by omega)] at hz
  have eu : (u != 0) = false := by simp [h0]
  obtain ⟨ht, hs⟩ := hok h0
  clear hok h0 k1 hu
  have hno : noSend c s = true → z = (0, 11) := fun k => by rw [hz, if_pos k]
  have hyes : noSend c s = false → z = ((bestI (fun i => vO c (sendO s i)) s.wait c.ord.length).1, 0) := fun k => by rw [hz, if_neg (by simp [k])]
  have hnse : noSend c s = (!(vacO s) || endO c s || (s.wait == 0)) := rfl
  rw [hnse] at hno hyes
  clear hz hnse
  cases hv : vacO s
  · rw [hv] at kvac
    have HZ := Lib.hid (hno (by rw [hv]; rfl))
    have KV := Lib.hid kvac
    have hvv : 0 ≤ s.str ∧ 0 ≤ s.par := by unfold vacO at hv; simp at hv; omega
    obtain ⟨hv1, hv2⟩ := hvv
    obtain ⟨ball, need, str, par, wait⟩ := s
    dsimp only at K1 KV hv1 hv2 ⊢
    clear hno hyes kvac kend ht hs h hw hv
    go_enter Tryz.func24, Tryz.ntmps24
    go_wp2_with (first
      | (clear tok0; go_at_call 54; refine (K1.out _ HX.out.bel).mono ?_; rintro e w2 ⟨rfl, hb2⟩; have HX2 := Lib.hid (HX.out.below hb2); obtain ⟨x0, x1, x2, x3, x4, x5, x6, y0, y1, y2, y3, y4⟩ := HX2.out.cells; dsimp only at y0 y1 y2 y3 y4; clear hb2; have tok1 : True := trivial)
      | (clear tok1; go_at_call 55; refine (KV.out _).mono ?_; rintro e w3 ⟨rfl, hb2⟩; have HX3 := Lib.hid (HX2.out.below hb2); clear x0 x1 x2 x3 x4 x5 x6 y0 y1 y2 y3 y4; obtain ⟨x0, x1, x2, x3, x4, x5, x6, y0, y1, y2, y3, y4⟩ := HX3.out.cells; dsimp only at y0 y1 y2 y3 y4; clear hb2; have tok2 : True := trivial))
    go_ret2
    exact ⟨by rw [HZ.out] <;> rfl, HX3.out.bel⟩
  rw [hv] at kvac
  have KV := Lib.hid kvac
  have hvv : s.str < 0 ∨ (¬ s.str < 0 ∧ s.par < 0) := by unfold vacO at hv; simp at hv; omega
  cases he : endO c s
  case true =>
    rw [he] at kend
    have HZ := Lib.hid (hno (by rw [hv, he]; rfl))
    have KE := Lib.hid kend
    obtain ⟨ball, need, str, par, wait⟩ := s
    dsimp only at K1 KV KE ⊢
    clear hno hyes kvac kend ht hs h hw hv hvv he
    go_enter Tryz.func24, Tryz.ntmps24
    go_wp2_with (first
      | (clear tok0; go_at_call 54; refine (K1.out _ HX.out.bel).mono ?_; rintro e w2 ⟨rfl, hb2⟩; have HX2 := Lib.hid (HX.out.below hb2); obtain ⟨x0, x1, x2, x3, x4, x5, x6, y0, y1, y2, y3, y4⟩ := HX2.out.cells; dsimp only at y0 y1 y2 y3 y4; clear hb2; have tok1 : True := trivial)
      | (clear tok1; go_at_call 55; refine (KV.out _).mono ?_; rintro e w3 ⟨rfl, hb2⟩; have HX3 := Lib.hid (HX2.out.below hb2); clear x0 x1 x2 x3 x4 x5 x6 y0 y1 y2 y3 y4; obtain ⟨x0, x1, x2, x3, x4, x5, x6, y0, y1, y2, y3, y4⟩ := HX3.out.cells; dsimp only at y0 y1 y2 y3 y4; clear hb2; have tok2 : True := trivial)
      | (clear tok2; go_at_call 56; refine (KE.out _ HX3.out.bel).mono ?_; rintro e w4 ⟨rfl, hb2⟩; have HX4 := Lib.hid (HX3.out.below hb2); clear x0 x1 x2 x3 x4 x5 x6 y0 y1 y2 y3 y4; obtain ⟨x0, x1, x2, x3, x4, x5, x6, y0, y1, y2, y3, y4⟩ := HX4.out.cells; dsimp only at y0 y1 y2 y3 y4; have hl1 := HX4.out.box.lt; have hl2 := HX4.out.st.lt; clear hb2; have tok3 : True := trivial))
    go_ret2
    exact ⟨by rw [HZ.out] <;> rfl, HX4.out.bel⟩
  rw [he] at kend
  have KE := Lib.hid kend
  by_cases hw0 : s.wait = 0
  · have HZ := Lib.hid (hno (by rw [hw0]; simp))
    have e5 : (s.wait == 0) = true := beq_iff_eq.2 hw0
    obtain ⟨ball, need, str, par, wait⟩ := s
    dsimp only at K1 KV KE e5 ⊢
    clear hno hyes kvac kend ht hs h hw hv hvv he hw0
    go_enter Tryz.func24, Tryz.ntmps24
    go_wp2_with (first
      | (clear tok0; go_at_call 54; refine (K1.out _ HX.out.bel).mono ?_; rintro e w2 ⟨rfl, hb2⟩; have HX2 := Lib.hid (HX.out.below hb2); obtain ⟨x0, x1, x2, x3, x4, x5, x6, y0, y1, y2, y3, y4⟩ := HX2.out.cells; dsimp only at y0 y1 y2 y3 y4; clear hb2; have tok1 : True := trivial)
      | (clear tok1; go_at_call 55; refine (KV.out _).mono ?_; rintro e w3 ⟨rfl, hb2⟩; have HX3 := Lib.hid (HX2.out.below hb2); clear x0 x1 x2 x3 x4 x5 x6 y0 y1 y2 y3 y4; obtain ⟨x0, x1, x2, x3, x4, x5, x6, y0, y1, y2, y3, y4⟩ := HX3.out.cells; dsimp only at y0 y1 y2 y3 y4; clear hb2; have tok2 : True := trivial)
      | (clear tok2; go_at_call 56; refine (KE.out _ HX3.out.bel).mono ?_; rintro e w4 ⟨rfl, hb2⟩; have HX4 := Lib.hid (HX3.out.below hb2); clear x0 x1 x2 x3 x4 x5 x6 y0 y1 y2 y3 y4; obtain ⟨x0, x1, x2, x3, x4, x5, x6, y0, y1, y2, y3, y4⟩ := HX4.out.cells; dsimp only at y0 y1 y2 y3 y4; have hl1 := HX4.out.box.lt; have hl2 := HX4.out.st.lt; clear hb2; have tok3 : True := trivial))
    go_ret2
    exact ⟨by rw [HZ.out] <;> rfl, HX4.out.bel⟩
  have e5 : (s.wait == 0) = false := beq_eq_false_iff_ne.2 hw0
  have hzz := hyes (by rw [hv, he, e5]; rfl)
  have h16 := hs.w16
  have hnp := ht.np
  have ksend := fun (i : Nat) (hi : i < c.ord.length) W => or_send s (i : Int) W h16 ⟨by omega, by omega⟩
  have ksol : ∀ (i : Nat) (hi : i < c.ord.length) (hb : bitW s.wait i = true) (W : World) (b N : Nat) (hW : SndO w W b N c (.slice A c.mdl.bats.length ca) (.slice A1 c.mdl.bows.length ca1) (.slice A2 c.bows.length ca2) (.slice A3 c.ord.length ca3) s) (hN : N + cntR 16 ≤ 2000000000000000000), Calls Tryz.prog 21 #[chV c (.slice A c.mdl.bats.length ca) (.slice A1 c.mdl.bows.length ca1) (.slice A2 c.bows.length ca2) (.slice A3 c.ord.length ca3), osV (sendO s i), .map (some b)] W fun e W' => e = .returned (.int .i64 (vO c (sendO s i))) ∧ SndO w W' b (N + cntR 16) c (.slice A c.mdl.bats.length ca) (.slice A1 c.mdl.bows.length ca1) (.slice A2 c.bows.length ca2) (.slice A3 c.ord.length ca3) s ∧ Only b W W' := fun i hi hb W b N hW hN => by
    obtain ⟨q1, q2, _⟩ := sendO_ok ht hs hv (i := i) ⟨by omega, by omega⟩ hb
    obtain ⟨D, d1, d2⟩ := hW.vals
    have hbb := hW.hb
    refine (solveK_of ht (or_solve c ht) (sendO s i) q1 q2 _ _ _ _ (· < w.heap.size) b N D W (HM.out.keep (Same.of_below hW.base.bel) fun _ h => h) (fun x hx => ⟨Nat.lt_of_lt_of_le hx hW.base.bel.size, by have : x < w.heap.size := hx; omega⟩) d1 d2 hN).mono ?_
    rintro e W' ⟨a1, a2, a3⟩
    exact ⟨a1, hW.into a2 a3, a2⟩
  have hvb : ∀ (i : Nat) (hi : i < c.ord.length) (hb : bitW s.wait i = true), 0 ≤ vO c (sendO s i) ∧ vO c (sendO s i) ≤ 281474976710656 := fun i hi hb => vO_48 ht (sendO_ok ht hs hv (i := i) ⟨by omega, by omega⟩ hb).1
  have hat : ∀ (k : Nat), bitW s.wait k = true → bestI (fun i => vO c (sendO s i)) s.wait (k + 1) = if (bestI (fun i => vO c (sendO s i)) s.wait k).2 < vO c (sendO s k) then ((k : Int), vO c (sendO s k)) else bestI (fun i => vO c (sendO s i)) s.wait k := fun k hb => by rw [bestI, if_pos hb]
  have hnt : ∀ (k : Nat), bitW s.wait k = false → bestI (fun i => vO c (sendO s i)) s.wait (k + 1) = bestI (fun i => vO c (sendO s i)) s.wait k := fun k hb => by rw [bestI, if_neg (by simp [hb])]
  have hK := cntR16
  obtain ⟨K, hKe⟩ : ∃ K, K = cntR 16 := ⟨_, rfl⟩
  rw [← hKe] at ksol hK
  have HAT := Lib.hid hat
  have HNT := Lib.hid hnt
  have HVB := Lib.hid hvb
  have KSEND := Lib.hid ksend
  have KSOL := Lib.hid ksol
  have HZZ := Lib.hid hzz
  obtain ⟨ball, need, str, par, wait⟩ := s
  unfold osV at KSEND
  unfold chV osV at KSOL
  dsimp only at K1 KV KE e5 KSEND KSOL HAT HNT HVB HZZ h16 hvv ⊢
  obtain ⟨h16a, h16b⟩ := h16
  clear hno hyes kvac kend ht hs h hw hv he hw0 ksend ksol hvb hat hnt hzz hKe
  go_enter Tryz.func24, Tryz.ntmps24
  go_wp2_with (first
    | (clear tok0; go_at_call 54; refine (K1.out _ HX.out.bel).mono ?_; rintro e w2 ⟨rfl, hb2⟩; have HX2 := Lib.hid (HX.out.below hb2); obtain ⟨x0, x1, x2, x3, x4, x5, x6, y0, y1, y2, y3, y4⟩ := HX2.out.cells; dsimp only at y0 y1 y2 y3 y4; clear hb2; have tok1 : True := trivial)
    | (clear tok1; go_at_call 55; refine (KV.out _).mono ?_; rintro e w3 ⟨rfl, hb2⟩; have HX3 := Lib.hid (HX2.out.below hb2); clear x0 x1 x2 x3 x4 x5 x6 y0 y1 y2 y3 y4; obtain ⟨x0, x1, x2, x3, x4, x5, x6, y0, y1, y2, y3, y4⟩ := HX3.out.cells; dsimp only at y0 y1 y2 y3 y4; clear hb2; have tok2 : True := trivial)
    | (clear tok2; go_at_call 56; refine (KE.out _ HX3.out.bel).mono ?_; rintro e w4 ⟨rfl, hb2⟩; have HX4 := Lib.hid (HX3.out.below hb2); clear x0 x1 x2 x3 x4 x5 x6 y0 y1 y2 y3 y4; obtain ⟨x0, x1, x2, x3, x4, x5, x6, y0, y1, y2, y3, y4⟩ := HX4.out.cells; dsimp only at y0 y1 y2 y3 y4; have hl1 := HX4.out.box.lt; have hl2 := HX4.out.st.lt; clear hb2; have tok3 : True := trivial))
  go_loopw [8, 9, 35] (fun bi mo i wr => ∃ (k : Nat) (q m : Int), k ≤ c.ord.length ∧ i = .int .i64 k ∧ bi = .int .i64 q ∧ mo = .int .i64 m ∧ -1 ≤ m ∧ m ≤ 281474976710656 ∧ Hid (SndO w wr w4.heap.size (k * K) c (.slice A c.mdl.bats.length ca) (.slice A1 c.mdl.bows.length ca1) (.slice A2 c.bows.length ca2) (.slice A3 c.ord.length ca3) ⟨ball, need, str, par, wait⟩) ∧ Hid ((q, m) = bestI (fun i => vO c (sendO ⟨ball, need, str, par, wait⟩ i)) wait k)) (fun _ _ i _ => c.ord.length - (intOf i).toNat)
  case atStart => exact ⟨0, 0, -1, Nat.zero_le _, rfl, rfl, rfl, by omega, by omega, Lib.hid (by rw [Nat.zero_mul]; exact SndO.new HX4.out), Lib.hid rfl⟩
  case round =>
    clear x0 x1 x2 x3 x4 x5 x6 y0 y1 y2 y3 y4
    obtain ⟨k, q, m, hk, rfl, rfl, rfl, hm0, hm1, HS, hss⟩ := hrel
    obtain ⟨x0, x1, x2, x3, x4, x5, x6, y0, y1, y2, y3, y4⟩ := HS.out.cells; dsimp only at y0 y1 y2 y3 y4; 
    by_cases hlt : k < c.ord.length
    · have hk0 : (0 : Int) ≤ (k : Int) := by omega
      have hk16 : (k : Int) < 16 := by omega
      have hkw := IntWalk.i64_in (k + 1 : Int) (by omega)
      cases hbit : bitW wait k
      · have hst := HNT.out k hbit
        rw [← hss.out] at hst
        have HST := Lib.hid hst.symm
        have f1 : (bits .and .u16 (wait / 2 ^ k) 1 == 1) = false := hbit
        clear hst hss hbit hkw
        go_wp2
        go_roundw
        case rel => exact ⟨k + 1, q, m, by omega, by go_num, rfl, rfl, hm0, hm1, Lib.hid (HS.out.le (Nat.mul_le_mul_right K (Nat.le_succ k))), HST⟩
        case measure => simp [intOf]; omega
      · have f1 : (bits .and .u16 (wait / 2 ^ k) 1 == 1) = true := hbit
        have hst := HAT.out k hbit
        rw [← hss.out] at hst
        have kS := KSEND.out k hlt
        have kR := KSOL.out k hlt hbit
        have hp := HVB.out k hlt hbit
        obtain ⟨⟨t0, t1, t2, t3, t4⟩, hs'⟩ : ∃ x, x = sendO ⟨ball, need, str, par, wait⟩ k := ⟨_, rfl⟩
        rw [← hs'] at hp hst
        simp only [← hs'] at kS kR
        obtain ⟨vv, hvv'⟩ : ∃ x, x = vO c ⟨t0, t1, t2, t3, t4⟩ := ⟨_, rfl⟩
        rw [← hvv'] at hp hst
        simp only [← hvv'] at kR
        dsimp only at hst
        obtain ⟨hp0, hp1⟩ := hp
        have hkK : k * K + K ≤ 2000000000000000000 := by have := Nat.mul_le_mul_right K (show k + 1 ≤ 6 by omega); rw [Nat.add_mul, Nat.one_mul] at this; omega
        have hkk : (k + 1) * K = k * K + K := by rw [Nat.add_mul, Nat.one_mul]
        have KS := Lib.hid kS
        have KR := Lib.hid kR
        have HKK := Lib.hid hkk
        have HHK := Lib.hid hkK
        clear kS kR hs' hvv' hss hbit hkk hkK hkw
        go_wp2
        have HSD := Lib.hid HS.out.drew
        clear x0 x1 x2 x3 x4 x5 x6 y0 y1 y2 y3 y4
        obtain ⟨x0, x1, x2, x3, x4, x5, x6, y0, y1, y2, y3, y4⟩ := HSD.out.cells; dsimp only at y0 y1 y2 y3 y4; 
        have tok9 : True := trivial
        go_region_held3 (fun w' => w'.cell? ⟨w.heap.size, 0, none⟩ = some (.slice A c.mdl.bats.length ca) ∧ w'.cell? ⟨w.heap.size, 1, none⟩ = some (.slice A1 c.mdl.bows.length ca1) ∧ w'.cell? ⟨w.heap.size, 2, none⟩ = some (.slice A2 c.bows.length ca2) ∧ w'.cell? ⟨w.heap.size, 3, none⟩ = some (.int .i64 c.over) ∧ w'.cell? ⟨w.heap.size, 4, none⟩ = some (.int .i64 c.done) ∧ w'.cell? ⟨w.heap.size, 5, none⟩ = some (.int .i64 c.need) ∧ w'.cell? ⟨w.heap.size, 6, none⟩ = some (.slice A3 c.ord.length ca3) ∧ w'.cell? ⟨w.heap.size + 1, 0, none⟩ = some (.int .i64 ball) ∧ w'.cell? ⟨w.heap.size + 1, 1, none⟩ = some (.int .i64 need) ∧ w'.cell? ⟨w.heap.size + 1, 2, none⟩ = some (.int .i64 str) ∧ w'.cell? ⟨w.heap.size + 1, 3, none⟩ = some (.int .i64 par) ∧ w'.cell? ⟨w.heap.size + 1, 4, none⟩ = some (.int .u16 wait)) (first | exact ⟨x0, x1, x2, x3, x4, x5, x6, y0, y1, y2, y3, y4⟩ | go_keep) (first
          | (clear tok9; go_at_call 57; refine (KS.out _).mono ?_; rintro e w6 ⟨rfl, hb6⟩; have HS6 := Lib.hid (HSD.out.below hb6); clear x0 x1 x2 x3 x4 x5 x6 y0 y1 y2 y3 y4; obtain ⟨x0, x1, x2, x3, x4, x5, x6, y0, y1, y2, y3, y4⟩ := HS6.out.cells; dsimp only at y0 y1 y2 y3 y4; clear hb6; have tok10 : True := trivial)
          | (clear tok10; go_at_call 21; refine (KR.out _ _ _ HS6.out HHK.out).mono ?_; rintro e w7 ⟨rfl, hs7, ho7⟩; have HS7 := Lib.hid hs7; clear x0 x1 x2 x3 x4 x5 x6 y0 y1 y2 y3 y4; obtain ⟨x0, x1, x2, x3, x4, x5, x6, y0, y1, y2, y3, y4⟩ := HS7.out.cells; dsimp only at y0 y1 y2 y3 y4; clear hs7 ho7; have tok11 : True := trivial))
        by_cases hgt : m < vv
        · rw [if_pos hgt] at hst
          have HST := Lib.hid hst.symm
          clear hst
          all_goals go_wp2
          go_roundw
          case rel => exact ⟨k + 1, k, vv, by omega, by go_num, rfl, rfl, by omega, by omega, Lib.hid (by rw [HKK.out]; exact HS7.out), HST⟩
          case measure => simp [intOf]; omega
        · rw [if_neg hgt] at hst
          have HST := Lib.hid hst.symm
          clear hst
          all_goals go_wp2
          go_roundw
          case rel => exact ⟨k + 1, q, m, by omega, by go_num, rfl, rfl, by omega, by omega, Lib.hid (by rw [HKK.out]; exact HS7.out), HST⟩
          case measure => simp [intOf]; omega
    · obtain rfl : k = c.ord.length := by omega
      have HF := Lib.hid (show z = (q, 0) by rw [HZZ.out, ← hss.out])
      clear hss
      go_wp2
      go_ret2
      exact ⟨by rw [HF.out] <;> rfl, HS.out.base.bel⟩
end Go.Proofs.YtjchapoggmipbaaGreatDoor

namespace Go.Proofs.YtjchapoggmipbaaGreatDoor
open Go.RowKit

theorem send_is {c : Chs} {s : Ost} (hk : checkO c = 0) (hs : OkOs c s) (h0 : s.need ≠ 0) (h2 : s.ball ≠ c.bows.length) (hv : vacO s = true) (h3 : s.wait ≠ 0) :
    ∃ b : Nat, b < c.ord.length ∧ sendSp c s = ((b : Int), 0) ∧ vO c s = vO c (sendO s b) ∧ bitW s.wait b = true := by
  have e : (sendSp c s).2 = 0 := by
    unfold sendSp
    have hn : noSend c s = false := by
      unfold noSend endO
      rw [hv, decide_eq_false h0, decide_eq_false h2, beq_eq_false_iff_ne.2 h3]; rfl
    rw [chstO_of hk hs, if_neg (by decide), hn, if_neg (by decide)]
  obtain ⟨_, _, _, _, b, k1, k2, k3, k4, _⟩ := sends_law hs.w16 e
  exact ⟨b, k1, by rw [← k3, ← e], k4, k2⟩
theorem rank_sendW {c : Chs} {s : Ost} (ht : OkT c) (hs : OkOs c s) (hv : vacO s = true) {b : Nat} (hb : b < c.ord.length) (hbit : bitW s.wait b = true) : rankO c (sendO s b) < rankO c s := by
  obtain ⟨k1, k2, k3, k4⟩ := sendO_ok ht hs hv (i := b) ⟨by omega, by omega⟩ hbit
  unfold rankO leftO
  rw [k2, k3, hv, if_neg (by decide), if_pos rfl]; omega
set_option maxRecDepth 100000 in
set_option maxHeartbeats 4000000 in
theorem ow_send (c : Chs) (hk : checkO c = 0) (s : Ost) (hs : OkOs c s) (h0 : s.need ≠ 0) (h2 : s.ball ≠ c.bows.length) (hv : vacO s = true) (h3 : s.wait ≠ 0) (ih : ∀ m, m < rankO c s → OwA c m) (bv wv pv ov : Value) (w : World) (h : ChAt w (· < w.heap.size) bv wv pv ov c) :
    Calls Tryz.prog 9 #[chV c bv wv pv ov, osV s] w fun e w' => e = .returned (.tuple #[.int .i64 (vO c s), .bool true]) ∧ Below w.heap.size w w' := by
  have ht := okT_of hk
  obtain ⟨b, hb, hsp, hvo, hbit⟩ := send_is hk hs h0 h2 hv h3
  have hso := (sendO_ok ht hs hv (i := b) ⟨by omega, by omega⟩ hbit).1
  have hnp := ht.np
  rw [hvo]
  have kr := fun W (hW : Below w.heap.size w W) => ih _ (rank_sendW ht hs hv hb hbit) (sendO s b) rfl hso bv wv pv ov W (h.below hW)
  have kr := fun W (hW : Below w.heap.size w W) => (kr W hW).mono (R' := fun e w' => e = .returned (.tuple #[.int .i64 (vO c (sendO s b)), .bool true]) ∧ Below w.heap.size w w') fun e w' hh => ⟨hh.1, hW.trans (hh.2.mono hW.size)⟩
  have k1 := fun W (hW : Below w.heap.size w W) => or_SendP c s _ _ _ _ W (h.below hW) hs.w16
  rw [hsp] at k1
  obtain ⟨i, hi⟩ : ∃ i : Int, i = (b : Int) := ⟨_, rfl⟩
  rw [← hi] at kr k1 hbit ⊢
  have g5 : ¬ i < 0 := by omega
  have g5b : 0 ≤ i := by omega
  have g5c : i < 16 := by omega
  have g6 : ¬ ((c.ord.length : Int) ≤ i) := by omega
  have g7 : (bits .and .u16 (s.wait / 2 ^ i.toNat) 1 == 0) = false := by
    unfold bitW at hbit
    rw [eq_of_beq hbit]; decide
  obtain ⟨Z, hZ⟩ : ∃ z, z = vO c (sendO s i) := ⟨_, rfl⟩
  rw [← hZ] at kr ⊢
  unfold sendO clrW at kr
  unfold chV osV at kr k1 ⊢
  obtain ⟨A, ca, rfl, hc1, hc2⟩ := h.mdl.bat.shape
  obtain ⟨A1, ca1, rfl, hc3, hc4⟩ := h.mdl.bow.shape
  obtain ⟨A2, ca2, rfl, hc5, hc6⟩ := h.bow.shape
  obtain ⟨A3, ca3, rfl, hc7, hc8⟩ := h.ord.shape
  have HX := Lib.hid (OSB.new w c (.slice A c.mdl.bats.length ca) (.slice A1 c.mdl.bows.length ca1) (.slice A2 c.bows.length ca2) (.slice A3 c.ord.length ca3) s)
  have g1 : (s.need == 0) = false := beqF h0
  have g2 : (s.ball == (c.bows.length : Int)) = false := beqF h2
  have g3 : (s.wait == 0) = false := beqF h3
  have hvv : s.str < 0 ∨ (¬ s.str < 0 ∧ s.par < 0) := by unfold vacO at hv; simp at hv; omega
  have hw16 := hs.w16
  obtain ⟨wa1, wa2⟩ := hw16
  have K1 := Lib.hid k1
  clear h hs h0 h2 ht hv h3 hZ hi hvo hsp hso hbit ih hb hnp k1 hk
  obtain ⟨ball, need, str, par, wait⟩ := s
  dsimp only at *
  rcases hvv with g8 | ⟨g8, g9⟩
  · rw [if_pos g8] at kr
    have KR := Lib.hid kr
    clear kr
    go_enter Tryz.func9, Tryz.ntmps9
    go_wp2_with (go_at_call 24; refine (K1.out _ HX.out.bel).mono ?_; rintro e w2 ⟨rfl, hb⟩; have HX1 := Lib.hid (HX.out.below hb); obtain ⟨x0, x1, x2, x3, x4, x5, x6, y0, y1, y2, y3, y4⟩ := HX1.out.cells; dsimp only at y0 y1 y2 y3 y4; have hl1 := HX1.out.box.lt; have hl2 := HX1.out.st.lt; have z2 := HX1.out.st.frozen 2; have z4 := HX1.out.st.frozen 4; clear hb)
    all_goals go_region
    all_goals
      go_wp2_with (go_at_call 9; refine (KR.out _ ?_).mono ?_; (have hq := HX1.out.bel; repeat (with_reducible refine Below.drewN_ ?_ _)); (first | exact Below.setCell (Below.setCell hq (by dsimp only; omega) _) (by dsimp only; omega) _ | exact Below.drew (Below.setCell (Below.setCell hq (by dsimp only; omega) _) (by dsimp only; omega) _) | exact Below.setCell (Below.drew (Below.setCell hq (by dsimp only; omega) _)) (by dsimp only; omega) _); rintro e w3 ⟨rfl, hb3⟩; have HB3 := Lib.hid hb3; clear hb3)
      go_ret2
      exact ⟨rfl, HB3.out⟩
  · rw [if_neg g8] at kr
    have KR := Lib.hid kr
    clear kr
    go_enter Tryz.func9, Tryz.ntmps9
    go_wp2_with (go_at_call 24; refine (K1.out _ HX.out.bel).mono ?_; rintro e w2 ⟨rfl, hb⟩; have HX1 := Lib.hid (HX.out.below hb); obtain ⟨x0, x1, x2, x3, x4, x5, x6, y0, y1, y2, y3, y4⟩ := HX1.out.cells; dsimp only at y0 y1 y2 y3 y4; have hl1 := HX1.out.box.lt; have hl2 := HX1.out.st.lt; have z2 := HX1.out.st.frozen 3; have z4 := HX1.out.st.frozen 4; clear hb)
    all_goals go_region
    all_goals
      go_wp2_with (go_at_call 9; refine (KR.out _ ?_).mono ?_; (have hq := HX1.out.bel; repeat (with_reducible refine Below.drewN_ ?_ _)); (first | exact Below.setCell (Below.setCell hq (by dsimp only; omega) _) (by dsimp only; omega) _ | exact Below.drew (Below.setCell (Below.setCell hq (by dsimp only; omega) _) (by dsimp only; omega) _) | exact Below.setCell (Below.drew (Below.setCell hq (by dsimp only; omega) _)) (by dsimp only; omega) _); rintro e w3 ⟨rfl, hb3⟩; have HB3 := Lib.hid hb3; clear hb3)
      go_ret2
      exact ⟨rfl, HB3.out⟩
end Go.Proofs.YtjchapoggmipbaaGreatDoor

namespace Go.Proofs.YtjchapoggmipbaaGreatDoor
open Go.RowKit

section
variable {P : Program} {ops : Array Oper} {Inv : Array Bool → Act → World → Prop} {Q : Exit → Act → World → Prop}
theorem all_listedB (hback : ∀ (i : Nat) (o : Oper), ops[i]? = some o → ∀ e ∈ o.after, Region.binds .any e = true → e.on < i) {listed : Array Bool} (hr : Region.ready .any ops listed = []) (hsz : listed.size = ops.size) : ∀ i, i < ops.size → listed.getD i false = true := by
  intro i
  induction i using Nat.strongRecOn with
  | ind i ih =>
    intro hi
    cases hl : listed.getD i false with
    | true => rfl
    | false =>
      exfalso
      have h2 : listed.getD i true = false := by
        have hlt : i < listed.size := by omega
        simp [hlt] at hl ⊢; exact hl
      have ho : ops[i]? = some ops[i] := Array.getElem?_eq_getElem hi
      have : i ∈ Region.ready .any ops listed := mem_ready.2 ⟨h2, _, ho, fun e he hb => ih e.on (hback i _ ho e he hb) (by have := hback i _ ho e he hb; omega)⟩
      rw [hr] at this
      cases this
theorem listed_full (hback : ∀ (i : Nat) (o : Oper), ops[i]? = some o → ∀ e ∈ o.after, Region.binds .any e = true → e.on < i) {listed : Array Bool} (hr : Region.ready .any ops listed = []) (hsz : listed.size = ops.size) : listed = Array.replicate ops.size true := by
  refine Array.ext_getElem? fun i => ?_
  rcases Nat.lt_or_ge i ops.size with h | h
  · have := all_listedB hback hr hsz i h
    have hlt : i < listed.size := by omega
    simp [hlt] at this
    simp [h, hlt, this]
  · rw [Array.getElem?_eq_none (by omega), Array.getElem?_eq_none (by simpa using h)]
theorem wpAny_inv (hback : ∀ (i : Nat) (o : Oper), ops[i]? = some o → ∀ e ∈ o.after, Region.binds .any e = true → e.on < i)
    (step : ∀ (listed : Array Bool) (i : Nat) (o : Oper) (a : Act) (w : World), Inv listed a w → ops[i]? = some o → listed[i]? = some false → (∀ e ∈ o.after, Region.binds .any e = true → listed.getD e.on false = true) →
      Region.wanted o (yielded ops a.tmps) = true ∧ ∀ K Q', (∀ a' w', Inv (listed.setIfInBounds i true) a' w' → K a' w') → o.wp P a w K Q')
    (fin : ∀ a w, Inv (Array.replicate ops.size true) a w → Q .normal a w) :
    ∀ (fuel : Nat) (listed : Array Bool) (a : Act) (w : World), listed.size = ops.size → listed.toList.count false ≤ fuel → Inv listed a w → wpAny P .any ops Q fuel listed a w := by
  intro fuel
  induction fuel with
  | zero =>
    intro listed a w hsz hc h
    have hr : Region.ready .any ops listed = [] := by
      cases hr : Region.ready .any ops listed with
      | nil => rfl
      | cons j t =>
        exfalso
        have hj : j ∈ Region.ready .any ops listed := by rw [hr]; simp
        obtain ⟨h1, o, ho, _⟩ := mem_ready.1 hj
        have hlt : j < listed.size := by have := (Array.getElem?_eq_some_iff.1 ho).1; omega
        have h2 : listed[j]? = some false := by
          rw [Array.getElem?_eq_getElem hlt]; simp [hlt] at h1; rw [h1]
        have : false ∈ listed.toList := Array.mem_toList_iff.2 (Array.mem_of_getElem? h2)
        have := List.count_pos_iff.2 this
        omega
    exact ⟨hr, fin a w (by rw [← listed_full hback hr hsz]; exact h)⟩
  | succ fuel ih =>
    intro listed a w hsz hc h
    refine ⟨fun hr => fin a w (by rw [← listed_full hback hr hsz]; exact h), fun i hi => ?_⟩
    obtain ⟨h1, o, ho, hall⟩ := mem_ready.1 hi
    have hlt : i < listed.size := by have := (Array.getElem?_eq_some_iff.1 ho).1; omega
    have h2 : listed[i]? = some false := by
      rw [Array.getElem?_eq_getElem hlt]; simp [hlt] at h1; rw [h1]
    have hcnt := count_set listed.toList i (by rw [Array.getElem?_toList]; exact h2)
    obtain ⟨hw, hs⟩ := step listed i o a w h ho h2 hall
    unfold wpOp
    rw [ho]
    dsimp only
    rw [hw, if_pos rfl]
    exact .inl (hs _ _ fun a' w' h' => ih _ _ _ (by simpa using hsz) (by rw [Array.toList_setIfInBounds]; omega) h')
theorem wp_region_inv {ops' : Array Oper} {id : Nat} {a0 : Act} {w0 : World} (he : ops = ops') (hm : P.follows .mixedOrders = true) (hback : ∀ (i : Nat) (o : Oper), ops'[i]? = some o → ∀ e ∈ o.after, Region.binds .any e = true → e.on < i)
    (h0 : Inv (Array.replicate ops'.size false) a0 w0.drew)
    (step : ∀ (listed : Array Bool) (i : Nat) (o : Oper) (a : Act) (w : World), Inv listed a w → ops'[i]? = some o → listed[i]? = some false → (∀ e ∈ o.after, Region.binds .any e = true → listed.getD e.on false = true) →
      Region.wanted o (yielded ops' a.tmps) = true ∧ ∀ K Q', (∀ a' w', Inv (listed.setIfInBounds i true) a' w' → K a' w') → o.wp P a w K Q')
    (fin : ∀ a w, Inv (Array.replicate ops'.size true) a w → Q .normal a w) : (Code.region id ops true).wp P Q a0 w0 := by
  subst he
  exact wp_region_any hm (wpAny_inv hback step fin _ _ _ _ (by simp) (by simp) h0)
end
def backV (ops : Array Oper) : Bool := (List.range ops.size).all fun i => match ops[i]? with
  | some o => o.after.toList.all fun e => !Region.binds .any e || decide (e.on < i)
  | none => true
theorem backV_of {ops : Array Oper} (h : backV ops = true) : ∀ (i : Nat) (o : Oper), ops[i]? = some o → ∀ e ∈ o.after, Region.binds .any e = true → e.on < i := by
  intro i o ho e he hb
  have := List.all_eq_true.1 h i (List.mem_range.2 (Array.getElem?_eq_some_iff.1 ho).1)
  rw [ho] at this
  have h2 := List.all_eq_true.1 this e (Array.mem_toList_iff.2 he)
  rw [hb] at h2
  simpa using h2
/-- An allocation as an operation. -/
theorem wp_alloc {P : Program} {o : Oper} {a : Act} {w : World} {t : TypeId} {cells : Array Value} {K : Act → World → Prop} {Q : Exit → Act → World → Prop} (ho : o.op = .alloc t)
    (hr : (Instr.alloc t true (.tuple #[])).run P w = .ok (.pointer (some ⟨w.heap.size, 0, none⟩)) (w.alloc (.cells cells t))) (h : K (a.put o.dst (.pointer (some ⟨w.heap.size, 0, none⟩))) (w.alloc (.cells cells t))) : o.wp P a w K Q := by
  unfold Oper.wp execOp
  simp only [ho, Sem.run_bind, hr, Result.andThen_ok, Sem.run_pure]
  exact h
/-- A store as an operation. -/
theorem wp_store {P : Program} {o : Oper} {a : Act} {w w' : World} {t : TypeId} {x y : Operand} {K : Act → World → Prop} {Q : Exit → Act → World → Prop} {u : Unit} (ho : o.op = .store t x y) (hd : o.dst = none)
    (hr : (Instr.storeAt t (a.eval x) (a.eval y)).run P w = .ok u w') (h : K a w') : o.wp P a w K Q := by
  unfold Oper.wp execOp
  simp only [ho, Sem.run_bind, hr, Result.andThen_ok, Sem.run_pure]
  first
    | exact h
    | (show K (a.put o.dst _) w'; rw [hd]; exact h)
    | (simp only [Oper.upon, hd]; exact h)
end Go.Proofs.YtjchapoggmipbaaGreatDoor

namespace Go.Proofs.YtjchapoggmipbaaGreatDoor
open Go.RowKit

/-- What stands in the slots while such a region runs; the slots of sp are left out. -/
structure RI (ops : Array Oper) (tab : List (Nat × Value)) (sp : List Nat) (l0 : List Value) (wr : World) (listed : Array Bool) (a : Act) (w : World) : Prop where
  size : a.tmps.size = l0.length
  dfr : a.defers = []
  bel : Below wr.heap.size wr w
  done : ∀ (i : Nat) (o : Oper) (d : Nat), ops[i]? = some o → listed.getD i false = true → o.dst = some d → sp.contains d = false → a.tmps[d]? = some ((tab.lookup d).getD undef)
  keep : ∀ k, (∀ (i : Nat) (o : Oper), ops[i]? = some o → o.dst ≠ some k) → a.tmps[k]? = l0[k]?
section
variable {ops : Array Oper} {tab : List (Nat × Value)} {sp : List Nat} {l0 : List Value} {wr : World} {listed : Array Bool} {a : Act} {w w' : World}
theorem getD_same {i j : Nat} (h : i ≠ j) : (listed.setIfInBounds i true).getD j false = listed.getD j false := getD_set_ne false h
theorem getD_set_at {i : Nat} (h : i < listed.size) : (listed.setIfInBounds i true).getD i false = true := by simp [h]
theorem RI.start (l0 : List Value) (wr : World) : RI ops tab sp l0 wr (Array.replicate ops.size false) ⟨l0.toArray, []⟩ wr.drew :=
  ⟨by simp, rfl, Below.drew (Below.refl _ _), fun i o d ho hl => by
    have hlt := (Array.getElem?_eq_some_iff.1 ho).1
    simp [hlt] at hl, fun k _ => by simp⟩
theorem RI.put {i : Nat} {o : Oper} {d : Nat} {v : Value} (h : RI ops tab sp l0 wr listed a w) (ho : ops[i]? = some o) (hd : o.dst = some d) (hN : d < l0.length) (hb : Below wr.heap.size wr w') (hv : sp.contains d = false → v = (tab.lookup d).getD undef) :
    RI ops tab sp l0 wr (listed.setIfInBounds i true) (a.put o.dst v) w' := by
  rw [hd]
  refine ⟨by unfold Act.put; simpa using h.size, h.dfr, hb, fun j p x hj hl hx hs => ?_, fun k hk => ?_⟩
  · rw [put_get]
    by_cases hdx : d = x
    · subst hdx
      rw [if_pos ⟨rfl, by rw [h.size]; exact hN⟩, hv hs]
    · rw [if_neg (fun e => hdx e.1)]
      by_cases hji : j = i
      · subst hji
        rw [ho] at hj; obtain rfl := Option.some.inj hj
        exact absurd (Option.some.inj (hd.symm.trans hx)) hdx
      · exact h.done j p x hj (by rw [getD_same (Ne.symm hji)] at hl; exact hl) hx hs
  · rw [put_get, if_neg (fun e => hk i o ho (by rw [hd, e.1]))]
    exact h.keep k hk
theorem RI.store {i : Nat} {o : Oper} (h : RI ops tab sp l0 wr listed a w) (ho : ops[i]? = some o) (hd : o.dst = none) (hb : Below wr.heap.size wr w') : RI ops tab sp l0 wr (listed.setIfInBounds i true) a w' := by
  refine ⟨h.size, h.dfr, hb, fun j p x hj hl hx hs => ?_, h.keep⟩
  by_cases hji : j = i
  · subst hji
    rw [ho] at hj; obtain rfl := Option.some.inj hj
    rw [hd] at hx; cases hx
  · exact h.done j p x hj (by rw [getD_same (Ne.symm hji)] at hl; exact hl) hx hs
/-- What an operation needs lies in its slots. -/
theorem RI.needs {needs : List (List Nat)} {init : List Nat} {i : Nat} {o : Oper} (h : RI ops tab sp l0 wr listed a w) (hn : needG ops needs init = true) (ho : ops[i]? = some o) (hall : ∀ e ∈ o.after, Region.binds .any e = true → listed.getD e.on false = true)
    (hi : ∀ d ∈ init, l0[d]? = some ((tab.lookup d).getD undef) ∧ ∀ (i : Nat) (o : Oper), ops[i]? = some o → o.dst ≠ some d) : ∀ x ∈ needs.getD i [], sp.contains x = false → Holds (tabV tab) a w x := by
  intro x hx hs
  rcases needG_of hn i o ho x hx with hx | ⟨e, he, hbi, p, hp, hpd⟩
  · exact ⟨_, by rw [h.keep x (hi x hx).2]; exact (hi x hx).1, rfl⟩
  · exact ⟨_, h.done e.on p x hp (hall e he hbi) hpd hs, rfl⟩
end
def notDst (ops : Array Oper) (k : Nat) : Bool := ops.toList.all fun o => !(o.dst == some k)
theorem notDst_of {ops : Array Oper} {k : Nat} (h : notDst ops k = true) : ∀ (i : Nat) (o : Oper), ops[i]? = some o → o.dst ≠ some k := by
  intro i o ho e
  have := List.all_eq_true.1 h o (Array.mem_toList_iff.2 (Array.mem_of_getElem? ho))
  rw [e] at this
  simp at this
/-- What an operation waits for. -/
def waitsB (ops : Array Oper) (i j : Nat) : Bool := match ops[i]? with
  | some o => o.after.toList.any fun e => Region.binds .any e && decide (e.on = j)
  | none => true
theorem waitsB_of {ops : Array Oper} {i j : Nat} {o : Oper} {listed : Array Bool} (h : waitsB ops i j = true) (ho : ops[i]? = some o) (hall : ∀ e ∈ o.after, Region.binds .any e = true → listed.getD e.on false = true) : listed.getD j false = true := by
  unfold waitsB at h
  rw [ho] at h
  obtain ⟨e, he, h2⟩ := List.any_eq_true.1 h
  rw [Bool.and_eq_true, decide_eq_true_eq] at h2
  rw [← h2.2]
  exact hall e (Array.mem_toList_iff.1 he) h2.1
theorem fg_valX {tab : List (Nat × Value)} {a : Act} {w : World} (d : Nat) (v : Value) (h : Holds (tabV tab) a w d) (hv : (tab.lookup d).getD undef = v) : a.eval (.tmp d) = v := by
  obtain ⟨u, h1, h2⟩ := h
  have h2 : u = _ := h2
  rw [eval_tmp h1, h2, hv]
/-- The frame behind a region, slot by slot. -/
theorem frame_of {ops : Array Oper} {tab : List (Nat × Value)} {dl : List Nat} {mask : List (Option Value)} {N : Nat} {l : List Value} {a : Act} (hsz : a.tmps.size = l.length) (hN : l.length = N) (hdl : dstIn ops dl = true) (hmk : mask = maskOf tab dl 0 N)
    (hdone : ∀ (i : Nat) (o : Oper) (d : Nat), ops[i]? = some o → o.dst = some d → a.tmps[d]? = some ((tab.lookup d).getD undef)) (hkeep : ∀ k, (∀ (i : Nat) (o : Oper), ops[i]? = some o → o.dst ≠ some k) → a.tmps[k]? = l[k]?) : a.tmps = (updM mask l).toArray := by
  refine Array.ext_getElem? fun k => ?_
  have hml : mask.length = l.length := by rw [hmk, maskOf_len, hN]
  have eT : (updM mask l).toArray[k]? = (updM mask l)[k]? := by simp
  rw [eT, updM_get _ _ _ hml]
  unfold dstIn at hdl
  rw [Bool.and_eq_true] at hdl
  rcases Nat.lt_or_ge k l.length with hlt | hge
  · have hmg : mask[k]? = some (bif dl.contains k then some ((tab.lookup k).getD undef) else none) := by rw [hmk, maskOf_get _ _ _ _ _ (by omega), Nat.zero_add]
    rw [hmg, List.getElem?_eq_getElem hlt]
    cases hc : dl.contains k
    · have hk := hkeep k fun i o ho e => by
        have h1 := List.all_eq_true.1 hdl.1 o (Array.mem_toList_iff.2 (Array.mem_of_getElem? ho))
        rw [e] at h1
        dsimp only at h1
        rw [hc] at h1; cases h1
      rw [hk, List.getElem?_eq_getElem hlt]
      rfl
    · have h1 := List.all_eq_true.1 hdl.2 k (by simpa using hc)
      obtain ⟨o, ho, h2⟩ := List.any_eq_true.1 h1
      have h2 : o.dst = some k := by simpa using h2
      obtain ⟨i, hi⟩ := List.mem_iff_getElem?.1 ho
      rw [Array.getElem?_toList] at hi
      rw [hdone i o k hi h2]
      rfl
  · rw [Array.getElem?_eq_none (by omega), (List.getElem?_eq_none hge : l[k]? = none)]
    rfl
noncomputable def r17Ops : Array Oper := ((Tryz.f9.body).bind (findR6 17)).getD #[]
def r17Needs : List (List Nat) := [[2], [98], [2], [100], [2], [102], [2], [104], [2], [106], [2], [108], [3], [110], [109, 111], [112], [2], [114], [3], [116], [115, 117], [118], [113, 119], [99, 101, 103, 105, 107, 120], [], [10, 121]]
theorem r17_size : r17Ops.size = 26 := by kernel_rfl
def r17Tab (B b3 o3 n k3 : Nat) (A0 A1 A2 : Option Addr) (n0 k0 n1 k1 n2 k2 : Nat) (ow dn nd : Int) (ks kp : Nat) (x y : Int) : List (Nat × Value) := [(2, .pointer (some ⟨B, 0, none⟩)), (3, .pointer (some ⟨B + 1, 0, none⟩)), (98, .pointer (some ⟨B, 0, none⟩)), (99, .agg #[.slice A0 n0 k0, .slice A1 n1 k1]), (100, .pointer (some ⟨B, 2, none⟩)), (101, .slice A2 n2 k2), (102, .pointer (some ⟨B, 3, none⟩)), (103, .int .i64 ow), (104, .pointer (some ⟨B, 4, none⟩)), (105, .int .i64 dn), (106, .pointer (some ⟨B, 5, none⟩)), (107, .int .i64 nd), (108, .pointer (some ⟨B, 6, none⟩)), (109, .slice (some ⟨b3, o3, none⟩) n k3), (110, .pointer (some ⟨B + 1, 2, none⟩)), (111, .int .i64 (ks : Int)), (112, .pointer (some ⟨b3, o3 + ks, none⟩)), (113, .int .i64 x), (114, .pointer (some ⟨B, 6, none⟩)), (115, .slice (some ⟨b3, o3, none⟩) n k3), (116, .pointer (some ⟨B + 1, 3, none⟩)), (117, .int .i64 (kp : Int)), (118, .pointer (some ⟨b3, o3 + kp, none⟩)), (119, .int .i64 y), (120, undef), (121, undef), (10, undef)]
def r17TabE (B b3 o3 n k3 : Nat) (A0 A1 A2 : Option Addr) (n0 k0 n1 k1 n2 k2 : Nat) (ow dn nd : Int) (ks kp : Nat) (x y : Int) (v120 v121 v10 : Value) : List (Nat × Value) := [(2, .pointer (some ⟨B, 0, none⟩)), (3, .pointer (some ⟨B + 1, 0, none⟩)), (98, .pointer (some ⟨B, 0, none⟩)), (99, .agg #[.slice A0 n0 k0, .slice A1 n1 k1]), (100, .pointer (some ⟨B, 2, none⟩)), (101, .slice A2 n2 k2), (102, .pointer (some ⟨B, 3, none⟩)), (103, .int .i64 ow), (104, .pointer (some ⟨B, 4, none⟩)), (105, .int .i64 dn), (106, .pointer (some ⟨B, 5, none⟩)), (107, .int .i64 nd), (108, .pointer (some ⟨B, 6, none⟩)), (109, .slice (some ⟨b3, o3, none⟩) n k3), (110, .pointer (some ⟨B + 1, 2, none⟩)), (111, .int .i64 (ks : Int)), (112, .pointer (some ⟨b3, o3 + ks, none⟩)), (113, .int .i64 x), (114, .pointer (some ⟨B, 6, none⟩)), (115, .slice (some ⟨b3, o3, none⟩) n k3), (116, .pointer (some ⟨B + 1, 3, none⟩)), (117, .int .i64 (kp : Int)), (118, .pointer (some ⟨b3, o3 + kp, none⟩)), (119, .int .i64 y), (120, v120), (121, v121), (10, v10)]
def r17Mask (B b3 o3 n k3 : Nat) (A0 A1 A2 : Option Addr) (n0 k0 n1 k1 n2 k2 : Nat) (ow dn nd : Int) (ks kp : Nat) (x y : Int) (v120 v121 v10 : Value) : List (Option Value) := none :: none :: none :: none :: none :: none :: none :: none :: none :: none :: some (v10) :: none :: none :: none :: none :: none :: none :: none :: none :: none :: none :: none :: none :: none :: none :: none :: none :: none :: none :: none :: none :: none :: none :: none :: none :: none :: none :: none :: none :: none :: none :: none :: none :: none :: none :: none :: none :: none :: none :: none :: none :: none :: none :: none :: none :: none :: none :: none :: none :: none :: none :: none :: none :: none :: none :: none :: none :: none :: none :: none :: none :: none :: none :: none :: none :: none :: none :: none :: none :: none :: none :: none :: none :: none :: none :: none :: none :: none :: none :: none :: none :: none :: none :: none :: none :: none :: none :: none :: some (.pointer (some ⟨B, 0, none⟩)) :: some (.agg #[.slice A0 n0 k0, .slice A1 n1 k1]) :: some (.pointer (some ⟨B, 2, none⟩)) :: some (.slice A2 n2 k2) :: some (.pointer (some ⟨B, 3, none⟩)) :: some (.int .i64 ow) :: some (.pointer (some ⟨B, 4, none⟩)) :: some (.int .i64 dn) :: some (.pointer (some ⟨B, 5, none⟩)) :: some (.int .i64 nd) :: some (.pointer (some ⟨B, 6, none⟩)) :: some (.slice (some ⟨b3, o3, none⟩) n k3) :: some (.pointer (some ⟨B + 1, 2, none⟩)) :: some (.int .i64 (ks : Int)) :: some (.pointer (some ⟨b3, o3 + ks, none⟩)) :: some (.int .i64 x) :: some (.pointer (some ⟨B, 6, none⟩)) :: some (.slice (some ⟨b3, o3, none⟩) n k3) :: some (.pointer (some ⟨B + 1, 3, none⟩)) :: some (.int .i64 (kp : Int)) :: some (.pointer (some ⟨b3, o3 + kp, none⟩)) :: some (.int .i64 y) :: some (v120) :: some (v121) :: none :: none :: none :: none :: none :: none :: none :: none :: none :: none :: none :: none :: none :: none :: none :: none :: none :: none :: none :: none :: none :: none :: none :: none :: none :: none :: none :: none :: none :: none :: none :: none :: none :: none :: none :: none :: none :: none :: none :: none :: none :: none :: none :: none :: none :: none :: none :: none :: none :: none :: none :: none :: none :: none :: none :: none :: none :: none :: none :: none :: none :: none :: none :: none :: none :: none :: none :: none :: none :: none :: none :: none :: none :: none :: none :: []
theorem bi_2 (w : World) (x y : Int) : (Instr.buildSlice 26 2 #[(0, .int .i64 x), (1, .int .i64 y)]).run Tryz.prog w = .ok (.slice (some ⟨w.heap.size, 0, none⟩) 2 2) (w.alloc (.cells #[.int .i64 x, .int .i64 y] 3)) := by kernel_rfl
theorem alloc_cha (w : World) : (Instr.alloc 77 true (.tuple #[])).run Tryz.prog w = .ok (.pointer (some ⟨w.heap.size, 0, none⟩)) (w.alloc (.cells #[.slice none 0 0, .slice none 0 0, .slice none 0 0, .int .i64 0, .int .i64 0, .int .i64 0, .slice none 0 0] 77)) := by
  simp [go_sem]
theorem load_mdl2 {w : World} {b o : Nat} {x y : Value} (h0 : w.cell? ⟨b, o, none⟩ = some x) (h1 : w.cell? ⟨b, o + 1, none⟩ = some y) : (Instr.loadAt 25 (.pointer (some ⟨b, o, none⟩))).run Tryz.prog w = .ok (.agg #[x, y]) w := by
  simp [go_sem, h0, h1]
theorem bu_cha (w : World) (A0 A1 A2 : Option Addr) (n0 k0 n1 k1 n2 k2 : Nat) (ow dn nd : Int) (g : Nat) : (Instr.build 77 #[(0, .agg #[.slice A0 n0 k0, .slice A1 n1 k1]), (1, .slice A2 n2 k2), (2, .int .i64 ow), (3, .int .i64 dn), (4, .int .i64 nd), (5, .slice (some ⟨g, 0, none⟩) 2 2)]).run Tryz.prog w = .ok (.agg #[.slice A0 n0 k0, .slice A1 n1 k1, .slice A2 n2 k2, .int .i64 ow, .int .i64 dn, .int .i64 nd, .slice (some ⟨g, 0, none⟩) 2 2]) w := run_build w 77 _ _ (by kernel_rfl)
theorem wp_buildV {P : Program} {o : Oper} {a : Act} {w : World} {t : TypeId} {v : Value} {parts : Array (Nat × Operand)} {K : Act → World → Prop} {Q : Exit → Act → World → Prop} (ho : o.op = .build t parts)
    (hr : (Instr.build t (parts.map fun (i, x) => (i, a.eval x))).run P w = .ok v w)
    (h : K (a.put o.dst v) w) : o.wp P a w K Q := by
  unfold Oper.wp execOp
  simp only [ho, Sem.run_bind, hr, Result.andThen_ok, Sem.run_pure]
  exact h
theorem wp_build2 {P : Program} {o : Oper} {a : Act} {w : World} {t e : TypeId} {len : Nat} {parts : Array (Nat × Operand)} {K : Act → World → Prop} {Q : Exit → Act → World → Prop} (ho : o.op = .buildSlice t len parts) (cells : Array Value)
    (hr : (Instr.buildSlice t len (parts.map fun (i, x) => (i, a.eval x))).run P w = .ok (.slice (some ⟨w.heap.size, 0, none⟩) len len) (w.alloc (.cells cells e)))
    (h : K (a.put o.dst (.slice (some ⟨w.heap.size, 0, none⟩) len len)) (w.alloc (.cells cells e))) : o.wp P a w K Q := by
  unfold Oper.wp execOp
  simp only [ho, Sem.run_bind, hr, Result.andThen_ok, Sem.run_pure]
  exact h
set_option maxHeartbeats 2000000 in
theorem store_cha {w : World} {g : Nat} {y0 y1 y2 y3 y4 y5 y6 : Value} {A0 A1 A2 A6 : Option Addr} {n0 k0 n1 k1 n2 k2 n6 k6 : Nat} {x3 x4 x5 : Int} (h : Blk w g 77 #[y0, y1, y2, y3, y4, y5, y6]) : ∃ w', (Instr.storeAt 77 (.pointer (some ⟨g, 0, none⟩)) (.agg #[.slice A0 n0 k0, .slice A1 n1 k1, .slice A2 n2 k2, .int .i64 x3, .int .i64 x4, .int .i64 x5, .slice A6 n6 k6])).run Tryz.prog w = .ok () w' ∧ Blk w' g 77 #[.slice A0 n0 k0, .slice A1 n1 k1, .slice A2 n2 k2, .int .i64 x3, .int .i64 x4, .int .i64 x5, .slice A6 n6 k6] ∧ Only g w w' := by
  have c0 := h.cell 0
  have c1 := h.cell 1
  have c2 := h.cell 2
  have c3 := h.cell 3
  have c4 := h.cell 4
  have c5 := h.cell 5
  have c6 := h.cell 6
  have f0 := h.frozen 0
  have f1 := h.frozen 1
  have f2 := h.frozen 2
  have f3 := h.frozen 3
  have f4 := h.frozen 4
  have f5 := h.frozen 5
  have f6 := h.frozen 6
  simp only [List.getElem?_toArray, List.getElem?_cons_zero, List.getElem?_cons_succ] at c0 c1 c2 c3 c4 c5 c6
  have hb := (((((((h.set_ 0 (.slice A0 n0 k0)).set_ 1 (.slice A1 n1 k1)).set_ 2 (.slice A2 n2 k2)).set_ 3 (.int .i64 x3)).set_ 4 (.int .i64 x4)).set_ 5 (.int .i64 x5)).set_ 6 (.slice A6 n6 k6))
  refine ⟨(((((((w.setCell ⟨g, 0, none⟩ (.slice A0 n0 k0)).setCell ⟨g, 1, none⟩ (.slice A1 n1 k1)).setCell ⟨g, 2, none⟩ (.slice A2 n2 k2)).setCell ⟨g, 3, none⟩ (.int .i64 x3)).setCell ⟨g, 4, none⟩ (.int .i64 x4)).setCell ⟨g, 5, none⟩ (.int .i64 x5)).setCell ⟨g, 6, none⟩ (.slice A6 n6 k6)), ?_, hb, ((((((((Only.refl g w).setCell (p := ⟨g, 0, none⟩) (.inl rfl) _).setCell (p := ⟨g, 1, none⟩) (.inl rfl) _).setCell (p := ⟨g, 2, none⟩) (.inl rfl) _).setCell (p := ⟨g, 3, none⟩) (.inl rfl) _).setCell (p := ⟨g, 4, none⟩) (.inl rfl) _).setCell (p := ⟨g, 5, none⟩) (.inl rfl) _).setCell (p := ⟨g, 6, none⟩) (.inl rfl) _)⟩
  clear hb
  simp [go_sem, c0, c1, c2, c3, c4, c5, c6, f0, f1, f2, f3, f4, f5, f6]
theorem blk_apartT {w : World} {g g' : Nat} {t t' : TypeId} {cs cs' : Array Value} (h : Blk w g t cs) (h' : Blk w g' t' cs') (hne : t ≠ t') : g ≠ g' := by
  rintro rfl
  unfold Blk at h h'
  rw [h] at h'
  injection h' with h'
  injection h' with _ h'
  exact hne h'
/-- The region's state: the slots; the row of two; the chase; its box. -/
structure I17 (B b3 o3 n k3 : Nat) (A0 A1 A2 : Option Addr) (n0 k0 n1 k1 n2 k2 : Nat) (ow dn nd : Int) (ks kp : Nat) (x y : Int) (l : List Value) (wr : World) (listed : Array Bool) (a : Act) (w : World) : Prop where
  ri : RI r17Ops (r17Tab B b3 o3 n k3 A0 A1 A2 n0 k0 n1 k1 n2 k2 ow dn nd ks kp x y) [120, 121, 10] l wr listed a w
  m25 : listed.getD 25 false = true → listed.getD 24 false = true
  x120 : listed.getD 22 false = true → ∃ g, a.tmps[120]? = some (.slice (some ⟨g, 0, none⟩) 2 2) ∧ wr.heap.size ≤ g ∧ Blk w g 3 #[.int .i64 x, .int .i64 y]
  x121 : listed.getD 23 false = true → ∃ g, a.tmps[121]? = some (.agg #[.slice A0 n0 k0, .slice A1 n1 k1, .slice A2 n2 k2, .int .i64 ow, .int .i64 dn, .int .i64 nd, .slice (some ⟨g, 0, none⟩) 2 2]) ∧ wr.heap.size ≤ g ∧ Blk w g 3 #[.int .i64 x, .int .i64 y]
  x10 : listed.getD 24 false = true → ∃ g, a.tmps[10]? = some (.pointer (some ⟨g, 0, none⟩)) ∧ wr.heap.size ≤ g ∧ (listed.getD 25 false = true → ∃ g2, Blk w g 77 #[.slice A0 n0 k0, .slice A1 n1 k1, .slice A2 n2 k2, .int .i64 ow, .int .i64 dn, .int .i64 nd, .slice (some ⟨g2, 0, none⟩) 2 2] ∧ wr.heap.size ≤ g2 ∧ Blk w g2 3 #[.int .i64 x, .int .i64 y]) ∧ (listed.getD 25 false = false → Blk w g 77 #[.slice none 0 0, .slice none 0 0, .slice none 0 0, .int .i64 0, .int .i64 0, .int .i64 0, .slice none 0 0])
section
variable {B b3 o3 n k3 : Nat} {A0 A1 A2 : Option Addr} {n0 k0 n1 k1 n2 k2 : Nat} {ow dn nd : Int} {ks kp : Nat} {x y : Int} {l : List Value} {wr : World} {listed : Array Bool} {a : Act} {w : World}
/-- Behind an operation that writes to no box: the world grows. -/
theorem I17.grow {i : Nat} {o' : Oper} {d : Nat} {v : Value} {w' : World} (h : I17 B b3 o3 n k3 A0 A1 A2 n0 k0 n1 k1 n2 k2 ow dn nd ks kp x y l wr listed a w) (ho : r17Ops[i]? = some o') (hd : o'.dst = some d) (hdN : d < l.length)
    (hb : Below w.heap.size w w') (hv : ([120, 121, 10] : List Nat).contains d = false → v = ((r17Tab B b3 o3 n k3 A0 A1 A2 n0 k0 n1 k1 n2 k2 ow dn nd ks kp x y).lookup d).getD undef) (hi25 : i ≠ 25)
    (h120 : i = 22 → ∃ g, v = .slice (some ⟨g, 0, none⟩) 2 2 ∧ wr.heap.size ≤ g ∧ Blk w' g 3 #[.int .i64 x, .int .i64 y]) (e22 : d = 120 → i = 22) (f22 : i = 22 → d = 120)
    (h121 : i = 23 → ∃ g, v = .agg #[.slice A0 n0 k0, .slice A1 n1 k1, .slice A2 n2 k2, .int .i64 ow, .int .i64 dn, .int .i64 nd, .slice (some ⟨g, 0, none⟩) 2 2] ∧ wr.heap.size ≤ g ∧ Blk w' g 3 #[.int .i64 x, .int .i64 y]) (e23 : d = 121 → i = 23) (f23 : i = 23 → d = 121)
    (h10 : i = 24 → ∃ g, v = .pointer (some ⟨g, 0, none⟩) ∧ wr.heap.size ≤ g ∧ Blk w' g 77 #[.slice none 0 0, .slice none 0 0, .slice none 0 0, .int .i64 0, .int .i64 0, .int .i64 0, .slice none 0 0]) (e24 : d = 10 → i = 24) (f24 : i = 24 → d = 10) (hf : listed[i]? = some false) :
    I17 B b3 o3 n k3 A0 A1 A2 n0 k0 n1 k1 n2 k2 ow dn nd ks kp x y l wr (listed.setIfInBounds i true) (a.put o'.dst v) w' := by
  have hz := h.ri.bel.size
  have hsz := h.ri.size
  have hlt := (Array.getElem?_eq_some_iff.1 hf).1
  have hif : listed.getD i false = false := by rw [Array.getD_eq_getD_getElem?, hf]; rfl
  refine ⟨h.ri.put ho hd hdN (h.ri.bel.trans (hb.mono hz)) hv, ?_, ?_, ?_, ?_⟩
  · rw [getD_same hi25]
    intro e
    by_cases hi : i = 24
    · subst hi; exact getD_set_at hlt
    · rw [getD_same hi]; exact h.m25 e
  · by_cases hi : i = 22
    · intro _
      obtain ⟨g, rfl, e2, e3⟩ := h120 hi
      exact ⟨g, by rw [hd, put_get, if_pos ⟨f22 hi, by rw [hsz]; have := f22 hi; omega⟩], e2, e3⟩
    · rw [getD_same hi]
      intro e
      obtain ⟨g, e1, e2, e3⟩ := h.x120 e
      exact ⟨g, by rw [hd, put_get, if_neg (fun e => hi (e22 e.1))]; exact e1, e2, e3.below hb e3.lt⟩
  · by_cases hi : i = 23
    · intro _
      obtain ⟨g, rfl, e2, e3⟩ := h121 hi
      exact ⟨g, by rw [hd, put_get, if_pos ⟨f23 hi, by rw [hsz]; have := f23 hi; omega⟩], e2, e3⟩
    · rw [getD_same hi]
      intro e
      obtain ⟨g, e1, e2, e3⟩ := h.x121 e
      exact ⟨g, by rw [hd, put_get, if_neg (fun e => hi (e23 e.1))]; exact e1, e2, e3.below hb e3.lt⟩
  · rw [getD_same hi25]
    by_cases hi : i = 24
    · subst hi
      intro _
      obtain ⟨g, rfl, e2, e3⟩ := h10 rfl
      refine ⟨g, by rw [hd, put_get, if_pos ⟨f24 rfl, by rw [hsz]; have := f24 rfl; omega⟩], e2, fun e => ?_, fun _ => e3⟩
      rw [h.m25 e] at hif; cases hif
    · rw [getD_same hi]
      intro e
      obtain ⟨g, e1, e2, e3, e4⟩ := h.x10 e
      refine ⟨g, by rw [hd, put_get, if_neg (fun e => hi (e24 e.1))]; exact e1, e2, fun e => ?_, fun e => (e4 e).below hb (e4 e).lt⟩
      obtain ⟨g2, u1, u2, u3⟩ := e3 e
      exact ⟨g2, u1.below hb u1.lt, u2, u3.below hb u3.lt⟩
theorem I17.next {i : Nat} {o' : Oper} {d : Nat} {v : Value} {w' : World} (h : I17 B b3 o3 n k3 A0 A1 A2 n0 k0 n1 k1 n2 k2 ow dn nd ks kp x y l wr listed a w) (ho : r17Ops[i]? = some o') (hd : o'.dst = some d) (hdN : d < l.length) (hf : listed[i]? = some false)
    (hi : i ≠ 22 ∧ i ≠ 23 ∧ i ≠ 24 ∧ i ≠ 25) (hdd : d ≠ 120 ∧ d ≠ 121 ∧ d ≠ 10) (hb : Below w.heap.size w w') (hv : v = ((r17Tab B b3 o3 n k3 A0 A1 A2 n0 k0 n1 k1 n2 k2 ow dn nd ks kp x y).lookup d).getD undef) : I17 B b3 o3 n k3 A0 A1 A2 n0 k0 n1 k1 n2 k2 ow dn nd ks kp x y l wr (listed.setIfInBounds i true) (a.put o'.dst v) w' :=
  h.grow ho hd hdN hb (fun _ => hv) hi.2.2.2 (fun e => absurd e hi.1) (fun e => absurd e hdd.1) (fun e => absurd e hi.1) (fun e => absurd e hi.2.1) (fun e => absurd e hdd.2.1) (fun e => absurd e hi.2.1) (fun e => absurd e hi.2.2.1) (fun e => absurd e hdd.2.2) (fun e => absurd e hi.2.2.1) hf
theorem I17.st {o' : Oper} {g g2 : Nat} {w' : World} (h : I17 B b3 o3 n k3 A0 A1 A2 n0 k0 n1 k1 n2 k2 ow dn nd ks kp x y l wr listed a w) (ho : r17Ops[25]? = some o') (hd : o'.dst = none) (hf : listed[25]? = some false) (h24 : listed.getD 24 false = true)
    (hg : a.tmps[10]? = some (.pointer (some ⟨g, 0, none⟩))) (hgz : wr.heap.size ≤ g) (hol : Blk w g 77 #[.slice none 0 0, .slice none 0 0, .slice none 0 0, .int .i64 0, .int .i64 0, .int .i64 0, .slice none 0 0]) (hg2 : wr.heap.size ≤ g2) (hr2 : Blk w g2 3 #[.int .i64 x, .int .i64 y]) (hbl : Blk w' g 77 #[.slice A0 n0 k0, .slice A1 n1 k1, .slice A2 n2 k2, .int .i64 ow, .int .i64 dn, .int .i64 nd, .slice (some ⟨g2, 0, none⟩) 2 2]) (hon : Only g w w') : I17 B b3 o3 n k3 A0 A1 A2 n0 k0 n1 k1 n2 k2 ow dn nd ks kp x y l wr (listed.setIfInBounds 25 true) a w' := by
  have hlt := (Array.getElem?_eq_some_iff.1 hf).1
  have far : ∀ {q : Nat}, Blk w q 3 #[.int .i64 x, .int .i64 y] → Blk w' q 3 #[.int .i64 x, .int .i64 y] := fun hq => hq.grown hon (fun e' => blk_apartT hol hq (by decide) (Option.some.inj e'))
  refine ⟨h.ri.store ho hd (h.ri.bel.trans (hon.below hgz h.ri.bel.size)), ?_, ?_, ?_, ?_⟩
  · intro _; rw [getD_same (by decide)]; exact h24
  · rw [getD_same (by decide)]
    intro e
    obtain ⟨g', e1, e2, e3⟩ := h.x120 e
    exact ⟨g', e1, e2, far e3⟩
  · rw [getD_same (by decide)]
    intro e
    obtain ⟨g', e1, e2, e3⟩ := h.x121 e
    exact ⟨g', e1, e2, far e3⟩
  · rw [getD_same (i := 25) (j := 24) (by decide)]
    intro _
    refine ⟨g, hg, hgz, fun _ => ⟨g2, hbl, hg2, far hr2⟩, fun e => (by rw [getD_set_at hlt] at e; cases e)⟩
end
set_option maxRecDepth 100000 in
set_option maxHeartbeats 4000000 in
theorem r17_step (B b3 o3 n k3 : Nat) (A0 A1 A2 : Option Addr) (n0 k0 n1 k1 n2 k2 : Nat) (ow dn nd : Int) (ks kp : Nat) (x y : Int) (sb sn sw : Int) (l : List Value) (wr : World) (hl : l.length = 197) (h2 : l[2]? = some (.pointer (some ⟨B, 0, none⟩))) (h3 : l[3]? = some (.pointer (some ⟨B + 1, 0, none⟩)))
    (hTK : Blk wr B 28 #[.slice A0 n0 k0, .slice A1 n1 k1, .slice A2 n2 k2, .int .i64 ow, .int .i64 dn, .int .i64 nd, .slice (some ⟨b3, o3, none⟩) n k3]) (hST : Blk wr (B + 1) 47 #[.int .i64 sb, .int .i64 sn, .int .i64 (ks : Int), .int .i64 (kp : Int), .int .u16 sw]) (hb3 : b3 < wr.heap.size) (hx : wr.cell? ⟨b3, o3 + ks, none⟩ = some (.int .i64 x)) (hy : wr.cell? ⟨b3, o3 + kp, none⟩ = some (.int .i64 y))
    (hkn1 : ks < n) (hkn2 : kp < n) (hkz1 : (ks : Int) < (n : Int)) (hkz2 : (kp : Int) < (n : Int)) :
    ∀ (listed : Array Bool) (i : Nat) (o' : Oper) (a : Act) (W : World), I17 B b3 o3 n k3 A0 A1 A2 n0 k0 n1 k1 n2 k2 ow dn nd ks kp x y l wr listed a W → r17Ops[i]? = some o' → listed[i]? = some false → (∀ e ∈ o'.after, Region.binds .any e = true → listed.getD e.on false = true) →
      Region.wanted o' (yielded r17Ops a.tmps) = true ∧ ∀ K Q', (∀ a' w', I17 B b3 o3 n k3 A0 A1 A2 n0 k0 n1 k1 n2 k2 ow dn nd ks kp x y l wr (listed.setIfInBounds i true) a' w' → K a' w') → o'.wp Tryz.prog a W K Q' := by
  intro listed i o' a W hI ho hf hall
  have hT := hTK.below hI.ri.bel hTK.lt
  have hS := hST.below hI.ri.bel hST.lt
  have hini : ∀ d ∈ ([2, 3] : List Nat), l[d]? = some (((r17Tab B b3 o3 n k3 A0 A1 A2 n0 k0 n1 k1 n2 k2 ow dn nd ks kp x y).lookup d).getD undef) ∧ ∀ (i : Nat) (o : Oper), r17Ops[i]? = some o → o.dst ≠ some d := by
    intro d hd
    simp only [List.mem_cons, List.not_mem_nil, or_false] at hd
    rcases hd with rfl | rfl
    · exact ⟨h2, notDst_of (by kernel_rfl)⟩
    · exact ⟨h3, notDst_of (by kernel_rfl)⟩
  have hn : ∀ x', (r17Needs.getD i []).contains x' = true → ([120, 121, 10] : List Nat).contains x' = false → Holds (tabV (r17Tab B b3 o3 n k3 A0 A1 A2 n0 k0 n1 k1 n2 k2 ow dn nd ks kp x y)) a W x' := fun x' hx' hs => hI.ri.needs (needs := r17Needs) (init := [2, 3]) (by kernel_rfl) ho hall hini x' (by simpa using hx') hs
  clear hini h2 h3 hTK hST
  have hlt : i < 26 := by rw [← r17_size]; exact (Array.getElem?_eq_some_iff.1 ho).1
  have hcase : i = 0 ∨ i = 1 ∨ i = 2 ∨ i = 3 ∨ i = 4 ∨ i = 5 ∨ i = 6 ∨ i = 7 ∨ i = 8 ∨ i = 9 ∨ i = 10 ∨ i = 11 ∨ i = 12 ∨ i = 13 ∨ i = 14 ∨ i = 15 ∨ i = 16 ∨ i = 17 ∨ i = 18 ∨ i = 19 ∨ i = 20 ∨ i = 21 ∨ i = 22 ∨ i = 23 ∨ i = 24 ∨ i = 25 := by omega
  rcases hcase with rfl | rfl | rfl | rfl | rfl | rfl | rfl | rfl | rfl | rfl | rfl | rfl | rfl | rfl | rfl | rfl | rfl | rfl | rfl | rfl | rfl | rfl | rfl | rfl | rfl | rfl
  · have hop := opG_of (x := .fieldAddr 28 (.tmp 2) 0) (d := some 98) (by kernel_rfl) ho
    obtain ⟨h1, h2⟩ := hop
    refine ⟨free_not (guardG_of (by kernel_rfl) ho), fun K Q' hK => ?_⟩
    have hm : Meets Tryz.prog (tabV (r17Tab B b3 o3 n k3 A0 A1 A2 n0 k0 n1 k1 n2 k2 ow dn nd ks kp x y)) o' a W := meets_field h1 (fg_valX 2 (.pointer (some ⟨B, 0, none⟩)) (hn 2 (by kernel_rfl) rfl) rfl) (by kernel_rfl : (Instr.fieldAt 28 (.pointer (some ⟨B, 0, none⟩)) 0).run Tryz.prog W = .ok (.pointer (some ⟨B, 0, none⟩)) W) (fg_put h2 rfl)
    exact hm 98 h2 K Q' fun v w' hb hv => hK _ _ (hI.next ho h2 (by omega) hf (by decide) (by decide) hb hv)
  · have hop := opG_of (x := .load 25 (.tmp 98)) (d := some 99) (by kernel_rfl) ho
    obtain ⟨h1, h2⟩ := hop
    refine ⟨free_not (guardG_of (by kernel_rfl) ho), fun K Q' hK => ?_⟩
    have hm : Meets Tryz.prog (tabV (r17Tab B b3 o3 n k3 A0 A1 A2 n0 k0 n1 k1 n2 k2 ow dn nd ks kp x y)) o' a W := meets_load (v := .agg #[.slice A0 n0 k0, .slice A1 n1 k1]) h1 (fg_valX 98 (.pointer (some ⟨B, 0, none⟩)) (hn 98 (by kernel_rfl) rfl) rfl) (load_mdl2 (b := B) (o := 0) (hT.cell 0) (hT.cell 1)) (fg_put h2 rfl)
    exact hm 99 h2 K Q' fun v w' hb hv => hK _ _ (hI.next ho h2 (by omega) hf (by decide) (by decide) hb hv)
  · have hop := opG_of (x := .fieldAddr 28 (.tmp 2) 1) (d := some 100) (by kernel_rfl) ho
    obtain ⟨h1, h2⟩ := hop
    refine ⟨free_not (guardG_of (by kernel_rfl) ho), fun K Q' hK => ?_⟩
    have hm : Meets Tryz.prog (tabV (r17Tab B b3 o3 n k3 A0 A1 A2 n0 k0 n1 k1 n2 k2 ow dn nd ks kp x y)) o' a W := meets_field h1 (fg_valX 2 (.pointer (some ⟨B, 0, none⟩)) (hn 2 (by kernel_rfl) rfl) rfl) (by kernel_rfl : (Instr.fieldAt 28 (.pointer (some ⟨B, 0, none⟩)) 1).run Tryz.prog W = .ok (.pointer (some ⟨B, 2, none⟩)) W) (fg_put h2 rfl)
    exact hm 100 h2 K Q' fun v w' hb hv => hK _ _ (hI.next ho h2 (by omega) hf (by decide) (by decide) hb hv)
  · have hop := opG_of (x := .load 26 (.tmp 100)) (d := some 101) (by kernel_rfl) ho
    obtain ⟨h1, h2⟩ := hop
    refine ⟨free_not (guardG_of (by kernel_rfl) ho), fun K Q' hK => ?_⟩
    have hm : Meets Tryz.prog (tabV (r17Tab B b3 o3 n k3 A0 A1 A2 n0 k0 n1 k1 n2 k2 ow dn nd ks kp x y)) o' a W := meets_load (v := .slice A2 n2 k2) h1 (fg_valX 100 (.pointer (some ⟨B, 2, none⟩)) (hn 100 (by kernel_rfl) rfl) rfl) (by have c9 := hT.cell 2; simp only [List.getElem?_toArray, List.getElem?_cons_zero, List.getElem?_cons_succ] at c9; simp [go_sem, c9]) (fg_put h2 rfl)
    exact hm 101 h2 K Q' fun v w' hb hv => hK _ _ (hI.next ho h2 (by omega) hf (by decide) (by decide) hb hv)
  · have hop := opG_of (x := .fieldAddr 28 (.tmp 2) 2) (d := some 102) (by kernel_rfl) ho
    obtain ⟨h1, h2⟩ := hop
    refine ⟨free_not (guardG_of (by kernel_rfl) ho), fun K Q' hK => ?_⟩
    have hm : Meets Tryz.prog (tabV (r17Tab B b3 o3 n k3 A0 A1 A2 n0 k0 n1 k1 n2 k2 ow dn nd ks kp x y)) o' a W := meets_field h1 (fg_valX 2 (.pointer (some ⟨B, 0, none⟩)) (hn 2 (by kernel_rfl) rfl) rfl) (by kernel_rfl : (Instr.fieldAt 28 (.pointer (some ⟨B, 0, none⟩)) 2).run Tryz.prog W = .ok (.pointer (some ⟨B, 3, none⟩)) W) (fg_put h2 rfl)
    exact hm 102 h2 K Q' fun v w' hb hv => hK _ _ (hI.next ho h2 (by omega) hf (by decide) (by decide) hb hv)
  · have hop := opG_of (x := .load 3 (.tmp 102)) (d := some 103) (by kernel_rfl) ho
    obtain ⟨h1, h2⟩ := hop
    refine ⟨free_not (guardG_of (by kernel_rfl) ho), fun K Q' hK => ?_⟩
    have hm : Meets Tryz.prog (tabV (r17Tab B b3 o3 n k3 A0 A1 A2 n0 k0 n1 k1 n2 k2 ow dn nd ks kp x y)) o' a W := meets_load (v := .int .i64 ow) h1 (fg_valX 102 (.pointer (some ⟨B, 3, none⟩)) (hn 102 (by kernel_rfl) rfl) rfl) (by have c9 := hT.cell 3; simp only [List.getElem?_toArray, List.getElem?_cons_zero, List.getElem?_cons_succ] at c9; simp [go_sem, c9]) (fg_put h2 rfl)
    exact hm 103 h2 K Q' fun v w' hb hv => hK _ _ (hI.next ho h2 (by omega) hf (by decide) (by decide) hb hv)
  · have hop := opG_of (x := .fieldAddr 28 (.tmp 2) 3) (d := some 104) (by kernel_rfl) ho
    obtain ⟨h1, h2⟩ := hop
    refine ⟨free_not (guardG_of (by kernel_rfl) ho), fun K Q' hK => ?_⟩
    have hm : Meets Tryz.prog (tabV (r17Tab B b3 o3 n k3 A0 A1 A2 n0 k0 n1 k1 n2 k2 ow dn nd ks kp x y)) o' a W := meets_field h1 (fg_valX 2 (.pointer (some ⟨B, 0, none⟩)) (hn 2 (by kernel_rfl) rfl) rfl) (by kernel_rfl : (Instr.fieldAt 28 (.pointer (some ⟨B, 0, none⟩)) 3).run Tryz.prog W = .ok (.pointer (some ⟨B, 4, none⟩)) W) (fg_put h2 rfl)
    exact hm 104 h2 K Q' fun v w' hb hv => hK _ _ (hI.next ho h2 (by omega) hf (by decide) (by decide) hb hv)
  · have hop := opG_of (x := .load 3 (.tmp 104)) (d := some 105) (by kernel_rfl) ho
    obtain ⟨h1, h2⟩ := hop
    refine ⟨free_not (guardG_of (by kernel_rfl) ho), fun K Q' hK => ?_⟩
    have hm : Meets Tryz.prog (tabV (r17Tab B b3 o3 n k3 A0 A1 A2 n0 k0 n1 k1 n2 k2 ow dn nd ks kp x y)) o' a W := meets_load (v := .int .i64 dn) h1 (fg_valX 104 (.pointer (some ⟨B, 4, none⟩)) (hn 104 (by kernel_rfl) rfl) rfl) (by have c9 := hT.cell 4; simp only [List.getElem?_toArray, List.getElem?_cons_zero, List.getElem?_cons_succ] at c9; simp [go_sem, c9]) (fg_put h2 rfl)
    exact hm 105 h2 K Q' fun v w' hb hv => hK _ _ (hI.next ho h2 (by omega) hf (by decide) (by decide) hb hv)
  · have hop := opG_of (x := .fieldAddr 28 (.tmp 2) 4) (d := some 106) (by kernel_rfl) ho
    obtain ⟨h1, h2⟩ := hop
    refine ⟨free_not (guardG_of (by kernel_rfl) ho), fun K Q' hK => ?_⟩
    have hm : Meets Tryz.prog (tabV (r17Tab B b3 o3 n k3 A0 A1 A2 n0 k0 n1 k1 n2 k2 ow dn nd ks kp x y)) o' a W := meets_field h1 (fg_valX 2 (.pointer (some ⟨B, 0, none⟩)) (hn 2 (by kernel_rfl) rfl) rfl) (by kernel_rfl : (Instr.fieldAt 28 (.pointer (some ⟨B, 0, none⟩)) 4).run Tryz.prog W = .ok (.pointer (some ⟨B, 5, none⟩)) W) (fg_put h2 rfl)
    exact hm 106 h2 K Q' fun v w' hb hv => hK _ _ (hI.next ho h2 (by omega) hf (by decide) (by decide) hb hv)
  · have hop := opG_of (x := .load 3 (.tmp 106)) (d := some 107) (by kernel_rfl) ho
    obtain ⟨h1, h2⟩ := hop
    refine ⟨free_not (guardG_of (by kernel_rfl) ho), fun K Q' hK => ?_⟩
    have hm : Meets Tryz.prog (tabV (r17Tab B b3 o3 n k3 A0 A1 A2 n0 k0 n1 k1 n2 k2 ow dn nd ks kp x y)) o' a W := meets_load (v := .int .i64 nd) h1 (fg_valX 106 (.pointer (some ⟨B, 5, none⟩)) (hn 106 (by kernel_rfl) rfl) rfl) (by have c9 := hT.cell 5; simp only [List.getElem?_toArray, List.getElem?_cons_zero, List.getElem?_cons_succ] at c9; simp [go_sem, c9]) (fg_put h2 rfl)
    exact hm 107 h2 K Q' fun v w' hb hv => hK _ _ (hI.next ho h2 (by omega) hf (by decide) (by decide) hb hv)
  · have hop := opG_of (x := .fieldAddr 28 (.tmp 2) 5) (d := some 108) (by kernel_rfl) ho
    obtain ⟨h1, h2⟩ := hop
    refine ⟨free_not (guardG_of (by kernel_rfl) ho), fun K Q' hK => ?_⟩
    have hm : Meets Tryz.prog (tabV (r17Tab B b3 o3 n k3 A0 A1 A2 n0 k0 n1 k1 n2 k2 ow dn nd ks kp x y)) o' a W := meets_field h1 (fg_valX 2 (.pointer (some ⟨B, 0, none⟩)) (hn 2 (by kernel_rfl) rfl) rfl) (by kernel_rfl : (Instr.fieldAt 28 (.pointer (some ⟨B, 0, none⟩)) 5).run Tryz.prog W = .ok (.pointer (some ⟨B, 6, none⟩)) W) (fg_put h2 rfl)
    exact hm 108 h2 K Q' fun v w' hb hv => hK _ _ (hI.next ho h2 (by omega) hf (by decide) (by decide) hb hv)
  · have hop := opG_of (x := .load 26 (.tmp 108)) (d := some 109) (by kernel_rfl) ho
    obtain ⟨h1, h2⟩ := hop
    refine ⟨free_not (guardG_of (by kernel_rfl) ho), fun K Q' hK => ?_⟩
    have hm : Meets Tryz.prog (tabV (r17Tab B b3 o3 n k3 A0 A1 A2 n0 k0 n1 k1 n2 k2 ow dn nd ks kp x y)) o' a W := meets_load (v := .slice (some ⟨b3, o3, none⟩) n k3) h1 (fg_valX 108 (.pointer (some ⟨B, 6, none⟩)) (hn 108 (by kernel_rfl) rfl) rfl) (by have c9 := hT.cell 6; simp only [List.getElem?_toArray, List.getElem?_cons_zero, List.getElem?_cons_succ] at c9; simp [go_sem, c9]) (fg_put h2 rfl)
    exact hm 109 h2 K Q' fun v w' hb hv => hK _ _ (hI.next ho h2 (by omega) hf (by decide) (by decide) hb hv)
  · have hop := opG_of (x := .fieldAddr 47 (.tmp 3) 2) (d := some 110) (by kernel_rfl) ho
    obtain ⟨h1, h2⟩ := hop
    refine ⟨free_not (guardG_of (by kernel_rfl) ho), fun K Q' hK => ?_⟩
    have hm : Meets Tryz.prog (tabV (r17Tab B b3 o3 n k3 A0 A1 A2 n0 k0 n1 k1 n2 k2 ow dn nd ks kp x y)) o' a W := meets_field h1 (fg_valX 3 (.pointer (some ⟨B + 1, 0, none⟩)) (hn 3 (by kernel_rfl) rfl) rfl) (by kernel_rfl : (Instr.fieldAt 47 (.pointer (some ⟨B + 1, 0, none⟩)) 2).run Tryz.prog W = .ok (.pointer (some ⟨B + 1, 2, none⟩)) W) (fg_put h2 rfl)
    exact hm 110 h2 K Q' fun v w' hb hv => hK _ _ (hI.next ho h2 (by omega) hf (by decide) (by decide) hb hv)
  · have hop := opG_of (x := .load 3 (.tmp 110)) (d := some 111) (by kernel_rfl) ho
    obtain ⟨h1, h2⟩ := hop
    refine ⟨free_not (guardG_of (by kernel_rfl) ho), fun K Q' hK => ?_⟩
    have hm : Meets Tryz.prog (tabV (r17Tab B b3 o3 n k3 A0 A1 A2 n0 k0 n1 k1 n2 k2 ow dn nd ks kp x y)) o' a W := meets_load (v := .int .i64 (ks : Int)) h1 (fg_valX 110 (.pointer (some ⟨B + 1, 2, none⟩)) (hn 110 (by kernel_rfl) rfl) rfl) (by have c9 := hS.cell 2; simp only [List.getElem?_toArray, List.getElem?_cons_zero, List.getElem?_cons_succ] at c9; simp [go_sem, c9]) (fg_put h2 rfl)
    exact hm 111 h2 K Q' fun v w' hb hv => hK _ _ (hI.next ho h2 (by omega) hf (by decide) (by decide) hb hv)
  · have hop := opG_of (x := .indexAddr 26 (.tmp 109) (.tmp 111)) (d := some 112) (by kernel_rfl) ho
    obtain ⟨h1, h2⟩ := hop
    refine ⟨free_not (guardG_of (by kernel_rfl) ho), fun K Q' hK => ?_⟩
    have hm : Meets Tryz.prog (tabV (r17Tab B b3 o3 n k3 A0 A1 A2 n0 k0 n1 k1 n2 k2 ow dn nd ks kp x y)) o' a W := meets_value (v := .pointer (some ⟨b3, o3 + ks, none⟩)) (by have e109 := (fg_valX 109 (.slice (some ⟨b3, o3, none⟩) n k3) (hn 109 (by kernel_rfl) rfl) rfl); have e111 := (fg_valX 111 (.int .i64 (ks : Int)) (hn 111 (by kernel_rfl) rfl) rfl); unfold execOp; simp only [h1, e109, e111]; simp [go_sem, BigFrame.eval_const, hkn1, hkn2, hkz1, hkz2]) (fg_put h2 rfl)
    exact hm 112 h2 K Q' fun v w' hb hv => hK _ _ (hI.next ho h2 (by omega) hf (by decide) (by decide) hb hv)
  · have hop := opG_of (x := .load 3 (.tmp 112)) (d := some 113) (by kernel_rfl) ho
    obtain ⟨h1, h2⟩ := hop
    refine ⟨free_not (guardG_of (by kernel_rfl) ho), fun K Q' hK => ?_⟩
    have hm : Meets Tryz.prog (tabV (r17Tab B b3 o3 n k3 A0 A1 A2 n0 k0 n1 k1 n2 k2 ow dn nd ks kp x y)) o' a W := meets_load (v := .int .i64 x) h1 (fg_valX 112 (.pointer (some ⟨b3, o3 + ks, none⟩)) (hn 112 (by kernel_rfl) rfl) rfl) (by have c9 := (hI.ri.bel.cell (p := ⟨b3, o3 + ks, none⟩) hb3).trans hx; simp [go_sem, c9]) (fg_put h2 rfl)
    exact hm 113 h2 K Q' fun v w' hb hv => hK _ _ (hI.next ho h2 (by omega) hf (by decide) (by decide) hb hv)
  · have hop := opG_of (x := .fieldAddr 28 (.tmp 2) 5) (d := some 114) (by kernel_rfl) ho
    obtain ⟨h1, h2⟩ := hop
    refine ⟨free_not (guardG_of (by kernel_rfl) ho), fun K Q' hK => ?_⟩
    have hm : Meets Tryz.prog (tabV (r17Tab B b3 o3 n k3 A0 A1 A2 n0 k0 n1 k1 n2 k2 ow dn nd ks kp x y)) o' a W := meets_field h1 (fg_valX 2 (.pointer (some ⟨B, 0, none⟩)) (hn 2 (by kernel_rfl) rfl) rfl) (by kernel_rfl : (Instr.fieldAt 28 (.pointer (some ⟨B, 0, none⟩)) 5).run Tryz.prog W = .ok (.pointer (some ⟨B, 6, none⟩)) W) (fg_put h2 rfl)
    exact hm 114 h2 K Q' fun v w' hb hv => hK _ _ (hI.next ho h2 (by omega) hf (by decide) (by decide) hb hv)
  · have hop := opG_of (x := .load 26 (.tmp 114)) (d := some 115) (by kernel_rfl) ho
    obtain ⟨h1, h2⟩ := hop
    refine ⟨free_not (guardG_of (by kernel_rfl) ho), fun K Q' hK => ?_⟩
    have hm : Meets Tryz.prog (tabV (r17Tab B b3 o3 n k3 A0 A1 A2 n0 k0 n1 k1 n2 k2 ow dn nd ks kp x y)) o' a W := meets_load (v := .slice (some ⟨b3, o3, none⟩) n k3) h1 (fg_valX 114 (.pointer (some ⟨B, 6, none⟩)) (hn 114 (by kernel_rfl) rfl) rfl) (by have c9 := hT.cell 6; simp only [List.getElem?_toArray, List.getElem?_cons_zero, List.getElem?_cons_succ] at c9; simp [go_sem, c9]) (fg_put h2 rfl)
    exact hm 115 h2 K Q' fun v w' hb hv => hK _ _ (hI.next ho h2 (by omega) hf (by decide) (by decide) hb hv)
  · have hop := opG_of (x := .fieldAddr 47 (.tmp 3) 3) (d := some 116) (by kernel_rfl) ho
    obtain ⟨h1, h2⟩ := hop
    refine ⟨free_not (guardG_of (by kernel_rfl) ho), fun K Q' hK => ?_⟩
    have hm : Meets Tryz.prog (tabV (r17Tab B b3 o3 n k3 A0 A1 A2 n0 k0 n1 k1 n2 k2 ow dn nd ks kp x y)) o' a W := meets_field h1 (fg_valX 3 (.pointer (some ⟨B + 1, 0, none⟩)) (hn 3 (by kernel_rfl) rfl) rfl) (by kernel_rfl : (Instr.fieldAt 47 (.pointer (some ⟨B + 1, 0, none⟩)) 3).run Tryz.prog W = .ok (.pointer (some ⟨B + 1, 3, none⟩)) W) (fg_put h2 rfl)
    exact hm 116 h2 K Q' fun v w' hb hv => hK _ _ (hI.next ho h2 (by omega) hf (by decide) (by decide) hb hv)
  · have hop := opG_of (x := .load 3 (.tmp 116)) (d := some 117) (by kernel_rfl) ho
    obtain ⟨h1, h2⟩ := hop
    refine ⟨free_not (guardG_of (by kernel_rfl) ho), fun K Q' hK => ?_⟩
    have hm : Meets Tryz.prog (tabV (r17Tab B b3 o3 n k3 A0 A1 A2 n0 k0 n1 k1 n2 k2 ow dn nd ks kp x y)) o' a W := meets_load (v := .int .i64 (kp : Int)) h1 (fg_valX 116 (.pointer (some ⟨B + 1, 3, none⟩)) (hn 116 (by kernel_rfl) rfl) rfl) (by have c9 := hS.cell 3; simp only [List.getElem?_toArray, List.getElem?_cons_zero, List.getElem?_cons_succ] at c9; simp [go_sem, c9]) (fg_put h2 rfl)
    exact hm 117 h2 K Q' fun v w' hb hv => hK _ _ (hI.next ho h2 (by omega) hf (by decide) (by decide) hb hv)
  · have hop := opG_of (x := .indexAddr 26 (.tmp 115) (.tmp 117)) (d := some 118) (by kernel_rfl) ho
    obtain ⟨h1, h2⟩ := hop
    refine ⟨free_not (guardG_of (by kernel_rfl) ho), fun K Q' hK => ?_⟩
    have hm : Meets Tryz.prog (tabV (r17Tab B b3 o3 n k3 A0 A1 A2 n0 k0 n1 k1 n2 k2 ow dn nd ks kp x y)) o' a W := meets_value (v := .pointer (some ⟨b3, o3 + kp, none⟩)) (by have e115 := (fg_valX 115 (.slice (some ⟨b3, o3, none⟩) n k3) (hn 115 (by kernel_rfl) rfl) rfl); have e117 := (fg_valX 117 (.int .i64 (kp : Int)) (hn 117 (by kernel_rfl) rfl) rfl); unfold execOp; simp only [h1, e115, e117]; simp [go_sem, BigFrame.eval_const, hkn1, hkn2, hkz1, hkz2]) (fg_put h2 rfl)
    exact hm 118 h2 K Q' fun v w' hb hv => hK _ _ (hI.next ho h2 (by omega) hf (by decide) (by decide) hb hv)
  · have hop := opG_of (x := .load 3 (.tmp 118)) (d := some 119) (by kernel_rfl) ho
    obtain ⟨h1, h2⟩ := hop
    refine ⟨free_not (guardG_of (by kernel_rfl) ho), fun K Q' hK => ?_⟩
    have hm : Meets Tryz.prog (tabV (r17Tab B b3 o3 n k3 A0 A1 A2 n0 k0 n1 k1 n2 k2 ow dn nd ks kp x y)) o' a W := meets_load (v := .int .i64 y) h1 (fg_valX 118 (.pointer (some ⟨b3, o3 + kp, none⟩)) (hn 118 (by kernel_rfl) rfl) rfl) (by have c9 := (hI.ri.bel.cell (p := ⟨b3, o3 + kp, none⟩) hb3).trans hy; simp [go_sem, c9]) (fg_put h2 rfl)
    exact hm 119 h2 K Q' fun v w' hb hv => hK _ _ (hI.next ho h2 (by omega) hf (by decide) (by decide) hb hv)
  · have hop := opG_of (x := .buildSlice 26 2 #[(0, .tmp 113), (1, .tmp 119)]) (d := some 120) (by kernel_rfl) ho
    obtain ⟨h1, h2⟩ := hop
    refine ⟨free_not (guardG_of (by kernel_rfl) ho), fun K Q' hK => ?_⟩
    have e113 := (fg_valX 113 (.int .i64 x) (hn 113 (by kernel_rfl) rfl) rfl); have e119 := (fg_valX 119 (.int .i64 y) (hn 119 (by kernel_rfl) rfl) rfl)
    have hb := Below.alloc (Below.refl W.heap.size W) (Nat.le_refl _) (.cells #[.int .i64 x, .int .i64 y] 3)
    have hbi := bi_2 W x y
    exact wp_build2 (e := 3) h1 #[.int .i64 x, .int .i64 y] (by simp only [List.map_toArray, List.map_cons, List.map_nil, e113, e119]; exact hbi) (hK _ _ (hI.grow ho h2 (by omega) hb (fun e => by simp at e) (by decide) (fun _ => ⟨_, rfl, hI.ri.bel.size, Blk.new _ _ _⟩) (fun _ => rfl) (fun _ => rfl) (fun e => by cases e) (fun e => by cases e) (fun e => by cases e) (fun e => by cases e) (fun e => by cases e) (fun e => by cases e) hf))
  · have hop := opG_of (x := .build 77 #[(0, .tmp 99), (1, .tmp 101), (2, .tmp 103), (3, .tmp 105), (4, .tmp 107), (5, .tmp 120)]) (d := some 121) (by kernel_rfl) ho
    obtain ⟨h1, h2⟩ := hop
    refine ⟨free_not (guardG_of (by kernel_rfl) ho), fun K Q' hK => ?_⟩
    have w1 := waitsB_of (j := 22) (by kernel_rfl) ho hall
    obtain ⟨g, u1, u2, u3⟩ := hI.x120 w1
    have e120 : a.eval (.tmp 120) = .slice (some ⟨g, 0, none⟩) 2 2 := eval_tmp u1
    have e99 := (fg_valX 99 (.agg #[.slice A0 n0 k0, .slice A1 n1 k1]) (hn 99 (by kernel_rfl) rfl) rfl); have e101 := (fg_valX 101 (.slice A2 n2 k2) (hn 101 (by kernel_rfl) rfl) rfl); have e103 := (fg_valX 103 (.int .i64 ow) (hn 103 (by kernel_rfl) rfl) rfl); have e105 := (fg_valX 105 (.int .i64 dn) (hn 105 (by kernel_rfl) rfl) rfl); have e107 := (fg_valX 107 (.int .i64 nd) (hn 107 (by kernel_rfl) rfl) rfl)
    exact wp_buildV h1 (by simp only [List.map_toArray, List.map_cons, List.map_nil, e99, e101, e103, e105, e107, e120]; exact bu_cha W _ _ _ _ _ _ _ _ _ _ _ _ _) (hK _ _ (hI.grow ho h2 (by omega) (Below.refl _ _) (fun e => by simp at e) (by decide) (fun e => by cases e) (fun e => by cases e) (fun e => by cases e) (fun _ => ⟨g, rfl, u2, u3⟩) (fun _ => rfl) (fun _ => rfl) (fun e => by cases e) (fun e => by cases e) (fun e => by cases e) hf))
  · have hop := opG_of (x := .alloc 77) (d := some 10) (by kernel_rfl) ho
    obtain ⟨h1, h2⟩ := hop
    refine ⟨free_not (guardG_of (by kernel_rfl) ho), fun K Q' hK => ?_⟩
    have hb := Below.alloc (Below.refl W.heap.size W) (Nat.le_refl _) (.cells #[.slice none 0 0, .slice none 0 0, .slice none 0 0, .int .i64 0, .int .i64 0, .int .i64 0, .slice none 0 0] 77)
    exact wp_alloc h1 (alloc_cha W) (hK _ _ (hI.grow ho h2 (by omega) hb (fun e => by simp at e) (by decide) (fun e => by cases e) (fun e => by cases e) (fun e => by cases e) (fun e => by cases e) (fun e => by cases e) (fun e => by cases e) (fun _ => ⟨_, rfl, hI.ri.bel.size, Blk.new _ _ _⟩) (fun _ => rfl) (fun _ => rfl) hf))
  · have hop := opG_of (x := .store 77 (.tmp 10) (.tmp 121)) (d := none) (by kernel_rfl) ho
    obtain ⟨h1, h2⟩ := hop
    refine ⟨free_not (guardG_of (by kernel_rfl) ho), fun K Q' hK => ?_⟩
    have w1 := waitsB_of (j := 24) (by kernel_rfl) ho hall
    have w2 := waitsB_of (j := 23) (by kernel_rfl) ho hall
    have h25 : listed.getD 25 false = false := by rw [Array.getD_eq_getD_getElem?, hf]; rfl
    obtain ⟨g, u1, u2, _, u4⟩ := hI.x10 w1
    obtain ⟨g2, t1, t2, t3⟩ := hI.x121 w2
    obtain ⟨w', hr, hbl, hon⟩ := store_cha (A0 := A0) (n0 := n0) (k0 := k0) (A1 := A1) (n1 := n1) (k1 := k1) (A2 := A2) (n2 := n2) (k2 := k2) (x3 := ow) (x4 := dn) (x5 := nd) (A6 := some ⟨g2, 0, none⟩) (n6 := 2) (k6 := 2) (u4 h25)
    have ex : a.eval (.tmp 121) = _ := eval_tmp t1
    have eg : a.eval (.tmp 10) = .pointer (some ⟨g, 0, none⟩) := eval_tmp u1
    exact wp_store h1 h2 (by rw [eg, ex]; exact hr) (hK _ _ (hI.st ho h2 hf w1 u1 u2 (u4 h25) t2 t3 hbl hon))
set_option maxRecDepth 100000 in
set_option maxHeartbeats 2000000 in
theorem r17_region {ops : Array Oper} {id : Nat} {Q : Exit → Act → World → Prop} (B b3 o3 n k3 : Nat) (A0 A1 A2 : Option Addr) (n0 k0 n1 k1 n2 k2 : Nat) (ow dn nd : Int) (ks kp : Nat) (x y : Int) (sb sn sw : Int) (l : List Value) (wr : World) (he : ops = r17Ops) (hl : l.length = 197) (h2 : l[2]? = some (.pointer (some ⟨B, 0, none⟩))) (h3 : l[3]? = some (.pointer (some ⟨B + 1, 0, none⟩)))
    (hTK : Blk wr B 28 #[.slice A0 n0 k0, .slice A1 n1 k1, .slice A2 n2 k2, .int .i64 ow, .int .i64 dn, .int .i64 nd, .slice (some ⟨b3, o3, none⟩) n k3]) (hST : Blk wr (B + 1) 47 #[.int .i64 sb, .int .i64 sn, .int .i64 (ks : Int), .int .i64 (kp : Int), .int .u16 sw]) (hb3 : b3 < wr.heap.size) (hx : wr.cell? ⟨b3, o3 + ks, none⟩ = some (.int .i64 x)) (hy : wr.cell? ⟨b3, o3 + kp, none⟩ = some (.int .i64 y))
    (hkn1 : ks < n) (hkn2 : kp < n) (hkz1 : (ks : Int) < (n : Int)) (hkz2 : (kp : Int) < (n : Int))
    (fin : ∀ v120 v121 g g2 w, Below wr.heap.size wr w → wr.heap.size ≤ g → wr.heap.size ≤ g2 → Blk w g 77 #[.slice A0 n0 k0, .slice A1 n1 k1, .slice A2 n2 k2, .int .i64 ow, .int .i64 dn, .int .i64 nd, .slice (some ⟨g2, 0, none⟩) 2 2] → Blk w g2 3 #[.int .i64 x, .int .i64 y] → Q .normal ⟨(updM (r17Mask B b3 o3 n k3 A0 A1 A2 n0 k0 n1 k1 n2 k2 ow dn nd ks kp x y v120 v121 (.pointer (some ⟨g, 0, none⟩))) l).toArray, []⟩ w) :
    (Code.region id ops true).wp Tryz.prog Q ⟨l.toArray, []⟩ wr := by
  have hz : r17Ops.size = 26 := r17_size
  refine wp_region_inv (Inv := I17 B b3 o3 n k3 A0 A1 A2 n0 k0 n1 k1 n2 k2 ow dn nd ks kp x y l wr) he (by kernel_rfl) (backV_of (by kernel_rfl)) ⟨RI.start l wr, ?_, ?_, ?_, ?_⟩ (r17_step B b3 o3 n k3 A0 A1 A2 n0 k0 n1 k1 n2 k2 ow dn nd ks kp x y sb sn sw l wr hl h2 h3 hTK hST hb3 hx hy hkn1 hkn2 hkz1 hkz2) ?_
  · intro e; rw [hz] at e; cases e
  · intro e; rw [hz] at e; cases e
  · intro e; rw [hz] at e; cases e
  · intro e; rw [hz] at e; cases e
  · intro a w hI
    have hall : ∀ i, i < r17Ops.size → (Array.replicate r17Ops.size true).getD i false = true := fun i hi => by simp [hi]
    obtain ⟨g0, e1, _, _⟩ := hI.x120 (hall 22 (by rw [hz]; decide))
    obtain ⟨g1, u1, _, _⟩ := hI.x121 (hall 23 (by rw [hz]; decide))
    obtain ⟨g, t1, t2, t3, _⟩ := hI.x10 (hall 24 (by rw [hz]; decide))
    obtain ⟨g2, t4, t5, t6⟩ := t3 (hall 25 (by rw [hz]; decide))
    have hfr : a.tmps = (updM (r17Mask B b3 o3 n k3 A0 A1 A2 n0 k0 n1 k1 n2 k2 ow dn nd ks kp x y (.slice (some ⟨g0, 0, none⟩) 2 2) (.agg #[.slice A0 n0 k0, .slice A1 n1 k1, .slice A2 n2 k2, .int .i64 ow, .int .i64 dn, .int .i64 nd, .slice (some ⟨g1, 0, none⟩) 2 2]) (.pointer (some ⟨g, 0, none⟩))) l).toArray := by
      refine frame_of (ops := r17Ops) (tab := r17TabE B b3 o3 n k3 A0 A1 A2 n0 k0 n1 k1 n2 k2 ow dn nd ks kp x y (.slice (some ⟨g0, 0, none⟩) 2 2) (.agg #[.slice A0 n0 k0, .slice A1 n1 k1, .slice A2 n2 k2, .int .i64 ow, .int .i64 dn, .int .i64 nd, .slice (some ⟨g1, 0, none⟩) 2 2]) (.pointer (some ⟨g, 0, none⟩))) (dl := [98, 99, 100, 101, 102, 103, 104, 105, 106, 107, 108, 109, 110, 111, 112, 113, 114, 115, 116, 117, 118, 119, 120, 121, 10]) (N := 197) hI.ri.size hl (by kernel_rfl) rfl (fun i o' d ho hd => ?_) hI.ri.keep
      by_cases h120 : d = 120
      · subst h120; exact e1
      by_cases h121 : d = 121
      · subst h121; exact u1
      by_cases h10 : d = 10
      · subst h10; exact t1
      have hdn := hI.ri.done i o' d ho (hall i (Array.getElem?_eq_some_iff.1 ho).1) hd (by simp [h120, h121, h10])
      rw [hdn]
      have hmem : d ∈ ([98, 99, 100, 101, 102, 103, 104, 105, 106, 107, 108, 109, 110, 111, 112, 113, 114, 115, 116, 117, 118, 119, 120, 121, 10] : List Nat) := by
        have hdl : dstIn r17Ops [98, 99, 100, 101, 102, 103, 104, 105, 106, 107, 108, 109, 110, 111, 112, 113, 114, 115, 116, 117, 118, 119, 120, 121, 10] = true := by kernel_rfl
        unfold dstIn at hdl
        rw [Bool.and_eq_true] at hdl
        have h1 := List.all_eq_true.1 hdl.1 o' (Array.mem_toList_iff.2 (Array.mem_of_getElem? ho))
        rw [hd] at h1
        simpa using h1
      simp only [List.mem_cons, List.not_mem_nil, or_false] at hmem
      clear hdn
      rcases hmem with rfl | rfl | rfl | rfl | rfl | rfl | rfl | rfl | rfl | rfl | rfl | rfl | rfl | rfl | rfl | rfl | rfl | rfl | rfl | rfl | rfl | rfl | rfl | rfl | rfl
      all_goals first | rfl | exact absurd rfl h120 | exact absurd rfl h121 | exact absurd rfl h10
    obtain ⟨tm, df⟩ := a
    have hdf : df = [] := hI.ri.dfr
    dsimp only at hfr
    subst hfr hdf
    exact fin _ _ g g2 w hI.ri.bel t2 t5 t4 t6
end Go.Proofs.YtjchapoggmipbaaGreatDoor

namespace Go.Proofs.YtjchapoggmipbaaGreatDoor
open Go.RowKit

theorem otc_exP {W w' : World} {l : List Otc} {u : Int} {e : Ending} (h : OtcPost W (l, u) e w') : ∃ A c, e = .returned (.tuple #[.slice A l.length c, .int .i64 u]) ∧ Below W.heap.size W w' ∧ Sl 3 elOtc w' (· < w'.heap.size) (.slice A l.length c) l := by
  obtain ⟨v, rfl, hs, hb⟩ := h
  obtain ⟨A, c, rfl, _⟩ := hs.shape
  exact ⟨A, c, rfl, hb, hs.keep elOtc_good (Same.refl _ _) fun b h => h.2⟩
/-- A task's box, an outcome's and a state's, since the moves were made. -/
structure RWX (w w7 W : World) (g q : Nat) (c : Chs) (bv wv pv ov : Value) (s : Ost) (pr : Int) (pw : Bool) (pt : Int) (x0 x1 x2 x3 : Int) : Prop where
  os : OSB w W w.heap.size c bv wv pv ov s
  ob : Blk W g 82 #[.int .i64 pr, .bool pw, .int .i64 pt]
  sb : Blk W q 47 #[.int .i64 x0, .int .i64 x1, .int .i64 x2, .int .i64 x3, .int .u16 s.wait]
  seven : Below w7.heap.size w7 W
  q7 : w7.heap.size ≤ q
  q0 : w.heap.size + 1 < q
section
variable {w w7 W W' : World} {g q : Nat} {c : Chs} {bv wv pv ov : Value} {s : Ost} {pr : Int} {pw : Bool} {pt : Int} {x0 x1 x2 x3 : Int}
theorem RWX.below (h : RWX w w7 W g q c bv wv pv ov s pr pw pt x0 x1 x2 x3) (hb : Below W.heap.size W W') : RWX w w7 W' g q c bv wv pv ov s pr pw pt x0 x1 x2 x3 :=
  ⟨h.os.below hb, h.ob.below hb h.ob.lt, h.sb.below hb h.sb.lt, h.seven.trans (hb.mono h.seven.size), h.q7, h.q0⟩
theorem RWX.drew (h : RWX w w7 W g q c bv wv pv ov s pr pw pt x0 x1 x2 x3) : RWX w w7 W.drew g q c bv wv pv ov s pr pw pt x0 x1 x2 x3 := h.below (Below.drew (Below.refl _ _))
theorem RWX.drewN (h : RWX w w7 W g q c bv wv pv ov s pr pw pt x0 x1 x2 x3) (n : Nat) : RWX w w7 (W.drewN n) g q c bv wv pv ov s pr pw pt x0 x1 x2 x3 := h.below (Below.drewN_ (Below.refl _ _) _)
theorem RWX.start (h : OSB w W w.heap.size c bv wv pv ov s) (h7 : Below w7.heap.size w7 W) : RWX w w7 ((W.alloc (.cells #[.int .i64 pr, .bool pw, .int .i64 pt] 82)).alloc (.cells #[.int .i64 x0, .int .i64 x1, .int .i64 x2, .int .i64 x3, .int .u16 s.wait] 47)) W.heap.size (W.heap.size + 1) c bv wv pv ov s pr pw pt x0 x1 x2 x3 := by
  have h2 := Blk.new (W.alloc (.cells #[.int .i64 pr, .bool pw, .int .i64 pt] 82)) 47 #[.int .i64 x0, .int .i64 x1, .int .i64 x2, .int .i64 x3, .int .u16 s.wait]
  rw [World.size_alloc] at h2
  have hb : Below W.heap.size W ((W.alloc (.cells #[.int .i64 pr, .bool pw, .int .i64 pt] 82)).alloc (.cells #[.int .i64 x0, .int .i64 x1, .int .i64 x2, .int .i64 x3, .int .u16 s.wait] 47)) := (Below.alloc (Below.refl _ _) (Nat.le_refl _) _).alloc (by simp) _
  have hs := h7.size
  have hl := h.st.lt
  exact ⟨h.below hb, (Blk.new W _ _).alloc _, h2, h7.trans (hb.mono hs), by omega, by omega⟩
theorem RWX.swap (h : RWX w w7 W g q c bv wv pv ov s pr pw pt x0 x1 x2 x3) (y2 y3 : Int) : RWX w w7 ((W.setCell ⟨q, 2, none⟩ (.int .i64 y2)).setCell ⟨q, 3, none⟩ (.int .i64 y3)) g q c bv wv pv ov s pr pw pt x0 x1 y2 y3 := by
  have h0 := h.q0
  have h7 := h.q7
  have hb : Below w.heap.size w ((W.setCell ⟨q, 2, none⟩ (.int .i64 y2)).setCell ⟨q, 3, none⟩ (.int .i64 y3)) := Below.setCell (Below.setCell h.os.bel (by show w.heap.size ≤ q; omega) _) (by show w.heap.size ≤ q; omega) _
  have n1 : w.heap.size ≠ q := by omega
  have n2 : w.heap.size + 1 ≠ q := by omega
  have n3 : g ≠ q := blk_apartT h.ob h.sb (by decide)
  exact ⟨⟨hb, (h.os.box.far n1 _).far n1 _, (h.os.st.far n2 _).far n2 _⟩, (h.ob.far n3 _).far n3 _, (h.sb.set_ 2 _).set_ 3 _, Below.setCell (Below.setCell h.seven (by show w7.heap.size ≤ q; omega) _) (by show w7.heap.size ≤ q; omega) _, h7, h0⟩
end
set_option maxRecDepth 100000 in
set_option maxHeartbeats 4000000 in
theorem ow_run (c : Chs) (hk : checkO c = 0) (s : Ost) (hs : OkOs c s) (h0 : s.need ≠ 0) (h2 : s.ball ≠ c.bows.length) (hv : vacO s = false) (ih : ∀ m, m < rankO c s → OwA c m) (bv wv pv ov : Value) (w : World) (h : ChAt w (· < w.heap.size) bv wv pv ov c) :
    Calls Tryz.prog 9 #[chV c bv wv pv ov, osV s] w fun e w' => e = .returned (.tuple #[.int .i64 (vO c s), .bool true]) ∧ Below w.heap.size w w' := by
  have ht := okT_of hk
  have hvv : ¬ s.str < 0 ∧ ¬ s.par < 0 := by unfold vacO at hv; simp at hv; omega
  have hs3 := hs.str
  have hs4 := hs.par
  obtain ⟨A, ca, rfl, hc1, hc2⟩ := h.mdl.bat.shape
  obtain ⟨A1, ca1, rfl, hc3, hc4⟩ := h.mdl.bow.shape
  obtain ⟨A2, ca2, rfl, hc5, hc6⟩ := h.bow.shape
  obtain ⟨A3, ca3, rfl, hc7, hc8⟩ := h.ord.shape
  have HX := Lib.hid (OSB.new w c (.slice A c.mdl.bats.length ca) (.slice A1 c.mdl.bows.length ca1) (.slice A2 c.bows.length ca2) (.slice A3 c.ord.length ca3) s)
  have g1 : (s.need == 0) = false := beqF h0
  have g2 : (s.ball == (c.bows.length : Int)) = false := beqF h2
  obtain ⟨ks, hks⟩ : ∃ k : Nat, s.str = (k : Int) := ⟨s.str.toNat, by omega⟩
  obtain ⟨kp, hkp⟩ : ∃ k : Nat, s.par = (k : Int) := ⟨s.par.toNat, by omega⟩
  obtain ⟨b3, o3, rfl, hf3, t3⟩ := num_at h.ord (k := ks) (by omega)
  obtain ⟨b4, o4, he4, hf4, t4⟩ := num_at h.ord (k := kp) (by omega)
  simp only [Option.some.injEq, Addr.mk.injEq, and_true] at he4
  obtain ⟨rfl, rfl⟩ := he4
  obtain ⟨x, hx⟩ : ∃ x, x = c.ord.getD ks 0 := ⟨_, rfl⟩
  obtain ⟨y, hy⟩ : ∃ x, x = c.ord.getD kp 0 := ⟨_, rfl⟩
  have hgx : c.ord[ks]? = some x := by rw [hx, List.getElem?_eq_getElem (by omega)]; simp [List.getD_eq_getElem?_getD, List.getElem?_eq_getElem (show ks < c.ord.length by omega)]
  have hgy : c.ord[kp]? = some y := by rw [hy, List.getElem?_eq_getElem (by omega)]; simp [List.getD_eq_getElem?_getD, List.getElem?_eq_getElem (show kp < c.ord.length by omega)]
  rw [← hx] at t3
  rw [← hy] at t4
  obtain ⟨hmv, hl16⟩ := moves_pair ht hs h0 h2 hv (x := x) (y := y) (by rw [hks, Int.toNat_natCast]; exact hgx) (by rw [hkp, Int.toNat_natCast]; exact hgy)
  have hrun := vO_run ht.ok hs h0 h2 hv
  obtain ⟨_, _, _, _, _, _, _, _, _, _, _, _, _, _, _, hd⟩ := mvO_at ht.ok hs h2 hv
  have hok := checkD_ok hd
  have hel : ∀ k (hk : k < (mvO c s).length), (0 ≤ (mvO c s)[k].runs ∧ (mvO c s)[k].runs ≤ 7) ∧ (0 ≤ vO c (stepO c s (mvO c s)[k]) ∧ vO c (stepO c s (mvO c s)[k]) ≤ 281474976710656) ∧ (0 ≤ (mvO c s)[k].wt * vO c (stepO c s (mvO c s)[k]) ∧ (mvO c s)[k].wt * vO c (stepO c s (mvO c s)[k]) ≤ 281474976710656) := fun k hk => by
    have ho := hok.each _ (List.getElem_mem hk)
    obtain ⟨k1, k2⟩ := rank_step hs h2 hv ho.r0
    obtain ⟨_, k4, _⟩ := stepO_ok hs h2 hv ho.r0
    have h8 := ht.nb
    have h9 := hs.ball
    exact ⟨⟨ho.r0, ho.r7⟩, vO_48 ht k1, prod_bd (n := leftO c (stepO c s (mvO c s)[k])) (by unfold leftO; rw [k4]; omega) ⟨ho.w1, ho.w16⟩ (vO_bd ht _ _ k1 rfl)⟩
  have kr := fun k (hk : k < (mvO c s).length) W (hW : Below w.heap.size w W) => ih _ (by have := (rank_step hs h2 hv (hok.each _ (List.getElem_mem hk)).r0).2; omega) (stepO c s (mvO c s)[k]) rfl (rank_step hs h2 hv (hok.each _ (List.getElem_mem hk)).r0).1 _ _ _ _ W (h.below hW)
  have km := fun W (hW : Below w.heap.size w W) q2 (hq : Blk W q2 3 #[.int .i64 x, .int .i64 y]) => (ch44_Moves (setC c [x, y]) ⟨s.ball, s.need, 0, 1, 2⟩ _ _ _ (.slice (some ⟨q2, 0, none⟩) 2 2) W ⟨(h.below hW).mdl, (h.below hW).bow, (ints_sl (l := [x, y]) hq rfl (by simp)).keep elInt_good (Same.refl _ _) fun b hb => by rw [hb]; exact hq.lt⟩).mono fun e w' hh => by rw [hmv] at hh; exact otc_exP hh
  have b1 := hs.ball
  have b2 := hs.need
  have b6 := ht.ok.nb
  have b7 := ht.ok.need
  have b9 := ht.ok.over
  have b10 := ht.ok.done
  have b11 := hs.w16
  have b12 := ht.np
  unfold chV at kr km
  obtain ⟨l, hl⟩ : ∃ l, l = mvO c s := ⟨_, rfl⟩
  rw [← hl] at hl16 hrun hel kr km
  obtain ⟨Z, hZ⟩ : ∃ z, z = vO c s := ⟨_, rfl⟩
  rw [← hZ] at hrun ⊢
  have KM := Lib.hid km
  have KR := Lib.hid kr
  have HEL := Lib.hid hel
  have HRUN := Lib.hid hrun
  have x8 := (HX.out.bel.cell (p := ⟨b3, o3 + ks, none⟩) hf3).trans t3
  have x9 := (HX.out.bel.cell (p := ⟨b3, o3 + kp, none⟩) hf4).trans t4
  have g3 : ¬ s.str < 0 := hvv.1
  have g4 : ¬ s.par < 0 := hvv.2
  have g5 : (ks : Int) < (c.ord.length : Int) := by omega
  have g6 : (kp : Int) < (c.ord.length : Int) := by omega
  have g7 : (ks : Nat) < c.ord.length := by omega
  have g8 : (kp : Nat) < c.ord.length := by omega
  have g9 : ¬ (16 < (l.length : Int)) := by omega
  unfold chV osV
  rw [hks] at g3
  rw [hkp] at g4
  obtain ⟨c1, c2⟩ := b1
  obtain ⟨c3, c4⟩ := b2
  obtain ⟨c11, c12⟩ := b6
  obtain ⟨c13, c14⟩ := b7
  obtain ⟨c15, c16⟩ := b12
  obtain ⟨c17, c18⟩ := b9
  obtain ⟨c19, c20⟩ := b10
  obtain ⟨c25, c26⟩ := b11
  have HL16 := Lib.hid hl16
  clear h hs h0 h2 ht hv ih hk t3 t4 hs3 hs4 hvv hx hy hgx hgy hmv hl16 hrun hd hok hel kr km hl hZ
  obtain ⟨ball, need, str, par, wait⟩ := s
  dsimp only at *
  subst hks hkp
  go_enter Tryz.func9, Tryz.ntmps9
  go_wp2
  revert HX x8 x9
  generalize World.alloc _ _ = W0
  intro HX x8 x9
  have hl3 : b3 < W0.heap.size := Nat.lt_of_lt_of_le hf3 HX.out.bel.size
  refine r17_region w.heap.size b3 o3 c.ord.length ca3 A A1 A2 c.mdl.bats.length ca c.mdl.bows.length ca1 c.bows.length ca2 c.over c.done c.need ks kp x y ball need wait _ W0 (by kernel_rfl) rfl rfl rfl HX.out.box HX.out.st hl3 x8 x9 g7 g8 g5 g6 ?_
  intro v120 v121 g q2 wx hbx hg hq2 hkc hkr
  simp only [r17Mask, updM]
  have HOX := Lib.hid (HX.out.below hbx)
  have HAL := Lib.hid (HOX.out.below (Below.alloc (Below.refl wx.heap.size wx) (Nat.le_refl _) (.cells #[.int .i64 ball, .int .i64 need, .int .i64 0, .int .i64 1, .int .i64 2] 79)))
  have HRW := Lib.hid (hkr.alloc (.cells #[.int .i64 ball, .int .i64 need, .int .i64 0, .int .i64 1, .int .i64 2] 79))
  have hlg := hkc.lt
  have k0 := hkc.cell 0; have k1 := hkc.cell 1; have k2 := hkc.cell 2; have k3 := hkc.cell 3; have k4 := hkc.cell 4; have k5 := hkc.cell 5; have k6 := hkc.cell 6
  simp only [List.getElem?_toArray, List.getElem?_cons_zero, List.getElem?_cons_succ] at k0 k1 k2 k3 k4 k5 k6
  obtain ⟨x0, x1, x2, x3, x4, x5, x6, y0, y1, y2, y3, y4⟩ := HOX.out.cells
  dsimp only at y0 y1 y2 y3 y4
  have hl1 := HOX.out.box.lt
  have hl2 := HOX.out.st.lt
  clear hbx hkc hkr hg hq2 x8 x9 hf3 hf4 hl3 HX
  go_wp2_with (go_at_call 25; refine (KM.out _ HAL.out.bel q2 HRW.out).mono ?_; rintro e w7 ⟨A7, c7, rfl, hb, hs7⟩; have HX7 := Lib.hid (HAL.out.below hb); have HL7 := Lib.hid hs7; clear hb hs7)
  clear x0 x1 x2 x3 x4 x5 x6 y0 y1 y2 y3 y4 k0 k1 k2 k3 k4 k5 k6 hl1 hl2 hlg HAL HRW HOX KM
  go_loopw [14, 142] (fun v i wr => ∃ (k : Nat) (sm : Int), k ≤ l.length ∧ i = .int .i64 k ∧ v = .int .i64 sm ∧ 0 ≤ sm ∧ sm ≤ 281474976710656 * k ∧ Hid (Below w7.heap.size w7 wr) ∧ Hid (sm = sumI ((l.take k).map fun o => o.wt * vO c (stepO c ⟨ball, need, (ks : Int), (kp : Int), wait⟩ o)))) (fun _ i _ => l.length - (intOf i).toNat)
  case atStart => exact ⟨0, 0, Nat.zero_le _, rfl, rfl, by omega, by omega, Lib.hid (Below.refl _ _), Lib.hid rfl⟩
  case round =>
    obtain ⟨k, sm, hk, rfl, rfl, hs0, hs1, HB, hss⟩ := hrel
    have HXR := Lib.hid (HX7.out.below HB.out)
    have hl16 := HL16.out
    by_cases hlt : k < l.length
    · obtain ⟨b0, o, rfl, hbl, j0, j1, j2⟩ := otc_at HL7.out hlt
      have g0 := (HB.out.cell (p := ⟨b0, o + k * 3, none⟩) hbl).trans j0
      have g10 := (HB.out.cell (p := ⟨b0, o + k * 3 + 1, none⟩) hbl).trans j1
      have g11 := (HB.out.cell (p := ⟨b0, o + k * 3 + 2, none⟩) hbl).trans j2
      obtain ⟨⟨r0, r7⟩, ⟨e4, e5⟩, e6, e7⟩ := HEL.out k hlt
      have hst : sm + l[k].wt * vO c (stepO c ⟨ball, need, (ks : Int), (kp : Int), wait⟩ l[k]) = sumI ((l.take (k + 1)).map fun o => o.wt * vO c (stepO c ⟨ball, need, (ks : Int), (kp : Int), wait⟩ o)) := by rw [hss.out, sum_take (fun o : Otc => o.wt * vO c (stepO c ⟨ball, need, (ks : Int), (kp : Int), wait⟩ o)) hlt]
      have kV := fun W hW => KR.out k hlt W hW
      obtain ⟨⟨pr, pw, pt⟩, hp'⟩ : ∃ p, p = l[k] := ⟨_, rfl⟩
      rw [← hp'] at g0 g10 g11 hst e4 e5 e6 e7 r0 r7 kV
      dsimp only at g0 g10 g11 hst e6 e7 r0 r7
      obtain ⟨m, hm⟩ : ∃ m, max (need - pr) 0 = m := ⟨_, rfl⟩
      have hm2 : max 0 (need - pr) = m := by rw [← hm]; omega
      have hm3 : 0 ≤ m := by omega
      have hm4 : m ≤ 84 := by omega
      obtain ⟨x1, hx1⟩ : ∃ x, x = decide (pr % 2 = 1) := ⟨_, rfl⟩
      obtain ⟨x2, hx2⟩ : ∃ x, x = decide ((c.done + (ball + 1)) % c.over = 0) := ⟨_, rfl⟩
      have q1 : (pr % 2 == 1) = x1 := by rw [hx1]; by_cases h : pr % 2 = 1 <;> simp [h]
      have q3 : ((c.done + (ball + 1)) % c.over == 0) = x2 := by rw [hx2]; by_cases h : (c.done + (ball + 1)) % c.over = 0 <;> simp [h]
      obtain ⟨sw, hsw⟩ : ∃ x, x = swapC c (ball + 1) ⟨pr, pw, pt⟩ := ⟨_, rfl⟩
      have q4 : (!(x1 == x2)) = sw := by rw [hsw, hx1, hx2]; rfl
      have hso : stepO c ⟨ball, need, (ks : Int), (kp : Int), wait⟩ ⟨pr, pw, pt⟩ = if sw = true then ⟨ball + 1, m, (kp : Int), if pw = true then -1 else (ks : Int), wait⟩ else ⟨ball + 1, m, if pw = true then -1 else (ks : Int), (kp : Int), wait⟩ := by
        rw [hsw, ← hm]; rfl
      obtain ⟨V, hV⟩ : ∃ v, v = vO c (stepO c ⟨ball, need, (ks : Int), (kp : Int), wait⟩ ⟨pr, pw, pt⟩) := ⟨_, rfl⟩
      rw [← hV] at hst e4 e5 e6 e7 kV
      rw [hso] at kV
      have HST := Lib.hid hst
      clear hst hV hso hsw hx1 hx2 hp' hss j0 j1 j2 hbl
      have hk1 : sm ≤ 281474976710656 * 16 := by omega
      have f0 : IntKind.i64.wrap (pt * V) = pt * V := IntWalk.i64_in _ (by omega)
      have f1 : IntKind.i64.wrap (sm + pt * V) = sm + pt * V := IntWalk.i64_in _ (by omega)
      cases pw <;> cases sw
      all_goals
        simp only [Bool.false_eq_true, if_true, if_false] at kV
        unfold osV at kV
        dsimp only at kV
        have KV := Lib.hid kV
        clear kV
        obtain ⟨x0, x3, x4, x5, x6, x7, x8, y0, y1, y2, y3, y4⟩ := HXR.out.cells
        dsimp only at y0 y1 y2 y3 y4
        have hl1 := HXR.out.box.lt
        have hl2 := HXR.out.st.lt
        go_wp2
      · have HR := Lib.hid (RWX.start (x0 := ball + 1) (x1 := m) (x2 := (ks : Int)) (x3 := (kp : Int)) (pr := pr) (pw := false) (pt := pt) HXR.out HB.out)
        dsimp only at HR
        revert HR
        generalize (World.alloc wr _).alloc _ = W1
        generalize wr.heap.size = gg at *
        intro HR
        clear x0 x3 x4 x5 x6 x7 x8 y0 y1 y2 y3 y4 hl1 hl2 g0 g10 g11
        obtain ⟨x0, x3, x4, x5, x6, x7, x8, y0, y1, y2, y3, y4⟩ := HR.out.os.cells
        dsimp only at y0 y1 y2 y3 y4
        have hl1 := HR.out.os.box.lt
        have z0 := HR.out.sb.cell 0; have z1 := HR.out.sb.cell 1; have z2 := HR.out.sb.cell 2; have z3 := HR.out.sb.cell 3; have z4 := HR.out.sb.cell 4
        have v0 := HR.out.ob.cell 0; have v1 := HR.out.ob.cell 1; have v2 := HR.out.ob.cell 2
        simp only [List.getElem?_toArray, List.getElem?_cons_zero, List.getElem?_cons_succ] at z0 z1 z2 z3 z4 v0 v1 v2
        have z5 := HR.out.sb.frozen 2
        have z6 := HR.out.sb.frozen 3
        have hl2 := HR.out.sb.lt
        have hl3 := HR.out.ob.lt
        have n1 := HR.out.q0
        go_quiet (fail)
        go_wp2_with (go_at_call 9; refine (KV.out _ (HR.out.drewN _).os.bel).mono ?_; rintro e w3 ⟨rfl, hb3⟩; have HR3 := Lib.hid ((HR.out.drewN _).below hb3); clear x0 x3 x4 x5 x6 x7 x8 y0 y1 y2 y3 y4 z0 z1 z2 z3 z4 z5 z6 v0 v1 v2 hl1 hl2 hl3 n1 hb3; have v2 := HR3.out.ob.cell 2; simp only [List.getElem?_toArray, List.getElem?_cons_zero, List.getElem?_cons_succ] at v2)
        go_roundw
        case rel => exact ⟨k + 1, sm + pt * V, by omega, by go_num, rfl, by omega, by push_cast; omega, Lib.hid HR3.out.seven, HST⟩
        case measure => simp [intOf]; omega
      · have HR := Lib.hid (RWX.start (x0 := ball + 1) (x1 := m) (x2 := (ks : Int)) (x3 := (kp : Int)) (pr := pr) (pw := false) (pt := pt) HXR.out HB.out)
        dsimp only at HR
        revert HR
        generalize (World.alloc wr _).alloc _ = W1
        generalize wr.heap.size = gg at *
        intro HR
        clear x0 x3 x4 x5 x6 x7 x8 y0 y1 y2 y3 y4 hl1 hl2 g0 g10 g11
        obtain ⟨x0, x3, x4, x5, x6, x7, x8, y0, y1, y2, y3, y4⟩ := HR.out.os.cells
        dsimp only at y0 y1 y2 y3 y4
        have hl1 := HR.out.os.box.lt
        have z0 := HR.out.sb.cell 0; have z1 := HR.out.sb.cell 1; have z2 := HR.out.sb.cell 2; have z3 := HR.out.sb.cell 3; have z4 := HR.out.sb.cell 4
        have v0 := HR.out.ob.cell 0; have v1 := HR.out.ob.cell 1; have v2 := HR.out.ob.cell 2
        simp only [List.getElem?_toArray, List.getElem?_cons_zero, List.getElem?_cons_succ] at z0 z1 z2 z3 z4 v0 v1 v2
        have z5 := HR.out.sb.frozen 2
        have z6 := HR.out.sb.frozen 3
        have hl2 := HR.out.sb.lt
        have hl3 := HR.out.ob.lt
        have n1 := HR.out.q0
        go_quiet (fail)
        go_wp2_with (go_at_call 9; refine (KV.out _ ((HR.out.drewN _).swap _ _).os.bel).mono ?_; rintro e w3 ⟨rfl, hb3⟩; have HR3 := Lib.hid (((HR.out.drewN _).swap _ _).below hb3); clear x0 x3 x4 x5 x6 x7 x8 y0 y1 y2 y3 y4 z0 z1 z2 z3 z4 z5 z6 v0 v1 v2 hl1 hl2 hl3 n1 hb3; have v2 := HR3.out.ob.cell 2; simp only [List.getElem?_toArray, List.getElem?_cons_zero, List.getElem?_cons_succ] at v2)
        go_roundw
        case rel => exact ⟨k + 1, sm + pt * V, by omega, by go_num, rfl, by omega, by push_cast; omega, Lib.hid HR3.out.seven, HST⟩
        case measure => simp [intOf]; omega
      · have HR := Lib.hid (RWX.start (x0 := ball + 1) (x1 := m) (x2 := -1) (x3 := (kp : Int)) (pr := pr) (pw := true) (pt := pt) HXR.out HB.out)
        dsimp only at HR
        revert HR
        generalize (World.alloc wr _).alloc _ = W1
        generalize wr.heap.size = gg at *
        intro HR
        clear x0 x3 x4 x5 x6 x7 x8 y0 y1 y2 y3 y4 hl1 hl2 g0 g10 g11
        obtain ⟨x0, x3, x4, x5, x6, x7, x8, y0, y1, y2, y3, y4⟩ := HR.out.os.cells
        dsimp only at y0 y1 y2 y3 y4
        have hl1 := HR.out.os.box.lt
        have z0 := HR.out.sb.cell 0; have z1 := HR.out.sb.cell 1; have z2 := HR.out.sb.cell 2; have z3 := HR.out.sb.cell 3; have z4 := HR.out.sb.cell 4
        have v0 := HR.out.ob.cell 0; have v1 := HR.out.ob.cell 1; have v2 := HR.out.ob.cell 2
        simp only [List.getElem?_toArray, List.getElem?_cons_zero, List.getElem?_cons_succ] at z0 z1 z2 z3 z4 v0 v1 v2
        have z5 := HR.out.sb.frozen 2
        have z6 := HR.out.sb.frozen 3
        have hl2 := HR.out.sb.lt
        have hl3 := HR.out.ob.lt
        have n1 := HR.out.q0
        go_quiet (fail)
        go_wp2_with (go_at_call 9; refine (KV.out _ (HR.out.drewN _).os.bel).mono ?_; rintro e w3 ⟨rfl, hb3⟩; have HR3 := Lib.hid ((HR.out.drewN _).below hb3); clear x0 x3 x4 x5 x6 x7 x8 y0 y1 y2 y3 y4 z0 z1 z2 z3 z4 z5 z6 v0 v1 v2 hl1 hl2 hl3 n1 hb3; have v2 := HR3.out.ob.cell 2; simp only [List.getElem?_toArray, List.getElem?_cons_zero, List.getElem?_cons_succ] at v2)
        go_roundw
        case rel => exact ⟨k + 1, sm + pt * V, by omega, by go_num, rfl, by omega, by push_cast; omega, Lib.hid HR3.out.seven, HST⟩
        case measure => simp [intOf]; omega
      · have HR := Lib.hid (RWX.start (x0 := ball + 1) (x1 := m) (x2 := -1) (x3 := (kp : Int)) (pr := pr) (pw := true) (pt := pt) HXR.out HB.out)
        dsimp only at HR
        revert HR
        generalize (World.alloc wr _).alloc _ = W1
        generalize wr.heap.size = gg at *
        intro HR
        clear x0 x3 x4 x5 x6 x7 x8 y0 y1 y2 y3 y4 hl1 hl2 g0 g10 g11
        obtain ⟨x0, x3, x4, x5, x6, x7, x8, y0, y1, y2, y3, y4⟩ := HR.out.os.cells
        dsimp only at y0 y1 y2 y3 y4
        have hl1 := HR.out.os.box.lt
        have z0 := HR.out.sb.cell 0; have z1 := HR.out.sb.cell 1; have z2 := HR.out.sb.cell 2; have z3 := HR.out.sb.cell 3; have z4 := HR.out.sb.cell 4
        have v0 := HR.out.ob.cell 0; have v1 := HR.out.ob.cell 1; have v2 := HR.out.ob.cell 2
        simp only [List.getElem?_toArray, List.getElem?_cons_zero, List.getElem?_cons_succ] at z0 z1 z2 z3 z4 v0 v1 v2
        have z5 := HR.out.sb.frozen 2
        have z6 := HR.out.sb.frozen 3
        have hl2 := HR.out.sb.lt
        have hl3 := HR.out.ob.lt
        have n1 := HR.out.q0
        go_quiet (fail)
        go_wp2_with (go_at_call 9; refine (KV.out _ ((HR.out.drewN _).swap _ _).os.bel).mono ?_; rintro e w3 ⟨rfl, hb3⟩; have HR3 := Lib.hid (((HR.out.drewN _).swap _ _).below hb3); clear x0 x3 x4 x5 x6 x7 x8 y0 y1 y2 y3 y4 z0 z1 z2 z3 z4 z5 z6 v0 v1 v2 hl1 hl2 hl3 n1 hb3; have v2 := HR3.out.ob.cell 2; simp only [List.getElem?_toArray, List.getElem?_cons_zero, List.getElem?_cons_succ] at v2)
        go_roundw
        case rel => exact ⟨k + 1, sm + pt * V, by omega, by go_num, rfl, by omega, by push_cast; omega, Lib.hid HR3.out.seven, HST⟩
        case measure => simp [intOf]; omega
    · obtain rfl : k = l.length := by omega
      have hs2 := hss.out
      rw [List.take_of_length_le (Nat.le_refl _), ← HRUN.out] at hs2
      subst hs2
      clear hss
      go_wp2
      go_ret2
      exact ⟨rfl, HXR.out.bel⟩
end Go.Proofs.YtjchapoggmipbaaGreatDoor

namespace Go.Proofs.YtjchapoggmipbaaGreatDoor
open Go.RowKit

theorem top_orderWins (c : Chs) (hk : checkO c = 0) (n : Nat) : OwA c n := by
  induction n using Nat.strongRecOn with
  | ind n ih =>
    intro s hn hs bv wv pv ov w h
    have ht := okT_of hk
    by_cases h0 : s.need = 0
    · exact ow_won c ht s hs h0 bv wv pv ov w h
    by_cases h2 : s.ball = c.bows.length
    · exact ow_lost c s hs h0 h2 bv wv pv ov w h
    cases hv : vacO s with
    | true =>
      by_cases h3 : s.wait = 0
      · exact ow_none c ht s hs h0 h2 hv h3 bv wv pv ov w h
      · exact ow_send c hk s hs h0 h2 hv h3 (fun m hm => ih m (by omega)) bv wv pv ov w h
    | false => exact ow_run c hk s hs h0 h2 hv (fun m hm => ih m (by omega)) bv wv pv ov w h
end Go.Proofs.YtjchapoggmipbaaGreatDoor

namespace Go.Proofs.YtjchapoggmipbaaGreatDoor
open Go.ChangeShapes Go.WideShapes Go.ChangeAt Go.RowKit
theorem cellsAtk : Tryz.prog.cellsOf 31 = 3 := by kernel_rfl
theorem cellsDec : Tryz.prog.cellsOf 34 = 5 := by kernel_rfl
theorem cellsPln : Tryz.prog.cellsOf 36 = 15 := by kernel_rfl
theorem cellsI64s : Tryz.prog.cellsOf 52 = 1 := by kernel_rfl
theorem cellsRws : Tryz.prog.cellsOf 29 = 1 := by kernel_rfl
theorem cellsOts : Tryz.prog.cellsOf 32 = 1 := by kernel_rfl
section
variable {H : Type} {enc : TypeId × Value → H} {W : World}
theorem i64_one15 {F : Nat → Prop} {fuel : Nat} {held : Bool} {cs : List Value} {x : DataW H × List MemPlace} (h : DataW.trod enc Tryz.prog W 0 (fun _ => true) held fuel 2 cs = some x) :
    ∃ f : Int, elInt W F cs f := by
  obtain ⟨a, e, _, _⟩ := DataW.trod_int Tryz.underlying2 h
  exact ⟨a, e⟩
theorem row_one15 {fuel : Nat} {held : Bool} {cs : List Value} {x : DataW H × List MemPlace} (h : DataW.trod enc Tryz.prog W 0 (fun _ => true) held fuel 52 cs = some x) :
    ∃ f : List Int, elRw W (· < W.heap.size) cs f := by
  obtain ⟨v, l, e1, hs⟩ := sl_raw (size := 1) (el := elInt) Tryz.underlying52 cellsI6' (by decide) (fun h => i64_one15 h) h
  exact ⟨l, v, e1, hs⟩
set_option maxRecDepth 100000 in
theorem task_raw {fuel : Nat} {held : Bool} {cs : List Value} {x : DataW H × List MemPlace} (h : DataW.trod enc Tryz.prog W 0 (fun _ => true) held fuel 28 cs = some x) :
    ∃ (c : Chs) (bv wv pv ov : Value), cs = [bv, wv, pv, .int .i64 c.over, .int .i64 c.done, .int .i64 c.need, ov] ∧ ChAt W (· < W.heap.size) bv wv pv ov c := by
  obtain ⟨ys, n, _, rfl, hc, hl, hf⟩ := DataW.trod_struct Tryz.underlying28 h
  rw [cellsTsk] at hc
  match cs, hc with
  | [c0, c1, c2, c3, c4, c5, c6], _ =>
    match ys, hl with
    | [z0, z1, z2, z3, z4, z5], _ =>
      have k0 := hf 0 _ rfl
      have k1 := hf 1 _ rfl
      have k2 := hf 2 _ rfl
      have k3 := hf 3 _ rfl
      have k4 := hf 4 _ rfl
      have k5 := hf 5 _ rfl
      obtain ⟨m, bv, wv, e0, hm⟩ := mdl_raw k0
      obtain ⟨pv, lp, e1, hp⟩ := sl_raw (size := 1) (el := elInt) Tryz.underlying26 cellsI' (by decide) (fun h => int_one8 h) k1
      obtain ⟨a2, e2, _, _⟩ := DataW.trod_int Tryz.underlying3 k2
      obtain ⟨a3, e3, _, _⟩ := DataW.trod_int Tryz.underlying3 k3
      obtain ⟨a4, e4, _, _⟩ := DataW.trod_int Tryz.underlying3 k4
      obtain ⟨ov, lo, e5, ho⟩ := sl_raw (size := 1) (el := elInt) Tryz.underlying26 cellsI' (by decide) (fun h => int_one8 h) k5
      have g0 : c0 = bv ∧ c1 = wv := by simpa [Value.cells, cellsMdl, cellsI', cellsIs] using e0
      have g2 : c2 = pv := by simpa [Value.cells, cellsMdl, cellsI', cellsIs] using e1
      have g3 : c3 = .int .i64 a2 := by simpa [Value.cells, cellsMdl, cellsI', cellsIs] using e2
      have g4 : c4 = .int .i64 a3 := by simpa [Value.cells, cellsMdl, cellsI', cellsIs] using e3
      have g5 : c5 = .int .i64 a4 := by simpa [Value.cells, cellsMdl, cellsI', cellsIs] using e4
      have g6 : c6 = ov := by simpa [Value.cells, cellsMdl, cellsI', cellsIs] using e5
      obtain ⟨g0, g1⟩ := g0
      subst g0 g1 g2 g3 g4 g5 g6
      exact ⟨⟨m, lp, a2, a3, a4, lo⟩, _, _, _, _, rfl, ⟨hm, hp, ho⟩⟩
set_option maxRecDepth 100000 in
theorem atk_raw {fuel : Nat} {held : Bool} {cs : List Value} {x : DataW H × List MemPlace} (h : DataW.trod enc Tryz.prog W 0 (fun _ => true) held fuel 31 cs = some x) :
    ∃ (t : Att) (cv : Value), cs = [cv, .int .i64 t.quota, .int .i64 t.last] ∧ Sl 1 elRw W (· < W.heap.size) cv t.costs := by
  obtain ⟨ys, n, _, rfl, hc, hl, hf⟩ := DataW.trod_struct Tryz.underlying31 h
  rw [cellsAtk] at hc
  match cs, hc with
  | [c0, c1, c2], _ =>
    match ys, hl with
    | [z0, z1, z2], _ =>
      obtain ⟨cv, lc, e0, h0⟩ := sl_raw (size := 1) (el := elRw) Tryz.underlying29 cellsI64s (by decide) (fun h => row_one15 h) (hf 0 _ rfl)
      obtain ⟨a1, e1, _, _⟩ := DataW.trod_int Tryz.underlying3 (hf 1 _ rfl)
      obtain ⟨a2, e2, _, _⟩ := DataW.trod_int Tryz.underlying3 (hf 2 _ rfl)
      have g0 : c0 = cv := by simpa [Value.cells, cellsRws, cellsI'] using e0
      have g1 : c1 = .int .i64 a1 := by simpa [Value.cells, cellsRws, cellsI'] using e1
      have g2 : c2 = .int .i64 a2 := by simpa [Value.cells, cellsRws, cellsI'] using e2
      subst g0 g1 g2
      exact ⟨⟨lc, a1, a2⟩, _, rfl, h0⟩
set_option maxRecDepth 100000 in
theorem dec_raw {fuel : Nat} {held : Bool} {cs : List Value} {x : DataW H × List MemPlace} (h : DataW.trod enc Tryz.prog W 0 (fun _ => true) held fuel 34 cs = some x) :
    ∃ (d : Dct) (ev fv : Value), cs = [.int .i64 d.ovs, .int .i64 d.lead, .int .i64 d.step, ev, fv] ∧ DtAt W (· < W.heap.size) ev fv d := by
  obtain ⟨ys, n, _, rfl, hc, hl, hf⟩ := DataW.trod_struct Tryz.underlying34 h
  rw [cellsDec] at hc
  match cs, hc with
  | [c0, c1, c2, c3, c4], _ =>
    match ys, hl with
    | [z0, z1, z2, z3, z4], _ =>
      obtain ⟨a0, e0, _, _⟩ := DataW.trod_int Tryz.underlying3 (hf 0 _ rfl)
      obtain ⟨a1, e1, _, _⟩ := DataW.trod_int Tryz.underlying3 (hf 1 _ rfl)
      obtain ⟨a2, e2, _, _⟩ := DataW.trod_int Tryz.underlying3 (hf 2 _ rfl)
      obtain ⟨ev, lo, e3, h3⟩ := sl_raw (size := 3) (el := elOtc) Tryz.underlying32 cellsOtc (by decide) (fun h => otc_one h) (hf 3 _ rfl)
      obtain ⟨fv, lw, e4, h4⟩ := sl_raw (size := 1) (el := elRw) Tryz.underlying29 cellsI64s (by decide) (fun h => row_one15 h) (hf 4 _ rfl)
      have g0 : c0 = .int .i64 a0 := by simpa [Value.cells, cellsRws, cellsOts, cellsI'] using e0
      have g1 : c1 = .int .i64 a1 := by simpa [Value.cells, cellsRws, cellsOts, cellsI'] using e1
      have g2 : c2 = .int .i64 a2 := by simpa [Value.cells, cellsRws, cellsOts, cellsI'] using e2
      have g3 : c3 = ev := by simpa [Value.cells, cellsRws, cellsOts, cellsI'] using e3
      have g4 : c4 = fv := by simpa [Value.cells, cellsRws, cellsOts, cellsI'] using e4
      subst g0 g1 g2 g3 g4
      exact ⟨⟨a0, a1, a2, lo, lw⟩, _, _, rfl, ⟨h3, h4⟩⟩
set_option maxRecDepth 100000 in
/-- Plans that came in. -/
theorem open_plans {r : Reach} {b0 : Nat} {v : Value} {d : DataW H} {p : List MemPlace} (hv : Value.okWide Tryz.prog W r b0 36 v) (h : DataW.Trod enc Tryz.prog W 0 (fun _ => true) true 36 v d p) :
    ∃ (c : Chs) (t : Att) (e : Dct) (bv wv pv ov cv ev fv : Value), v = .agg #[bv, wv, pv, .int .i64 c.over, .int .i64 c.done, .int .i64 c.need, ov, cv, .int .i64 t.quota, .int .i64 t.last, .int .i64 e.ovs, .int .i64 e.lead, .int .i64 e.step, ev, fv] ∧
      ChAt W (· < W.heap.size) bv wv pv ov c ∧ Sl 1 elRw W (· < W.heap.size) cv t.costs ∧ DtAt W (· < W.heap.size) ev fv e := by
  obtain ⟨cs, rfl, hsz⟩ := okWide_struct Tryz.underlying36 hv
  obtain ⟨fuel, hf⟩ := h
  obtain ⟨l⟩ := cs
  match l, hsz.trans cellsPln with
  | [c0, c1, c2, c3, c4, c5, c6, c7, c8, c9, c10, c11, c12, c13, c14], _ =>
    obtain ⟨ys, n, _, _, _, hl, hf⟩ := DataW.trod_struct Tryz.underlying36 hf
    match ys, hl with
    | [z0, z1, z2], _ =>
      obtain ⟨c, bv, wv, pv, ov, e0, h0⟩ := task_raw (hf 0 _ rfl)
      obtain ⟨t, cv, e1, h1⟩ := atk_raw (hf 1 _ rfl)
      obtain ⟨e, ev, fv, e2, h2⟩ := dec_raw (hf 2 _ rfl)
      have g0 : c0 = bv ∧ c1 = wv ∧ c2 = pv ∧ c3 = .int .i64 c.over ∧ c4 = .int .i64 c.done ∧ c5 = .int .i64 c.need ∧ c6 = ov := by simpa [Value.cells, cellsTsk, cellsAtk, cellsDec] using e0
      have g1 : c7 = cv ∧ c8 = .int .i64 t.quota ∧ c9 = .int .i64 t.last := by simpa [Value.cells, cellsTsk, cellsAtk, cellsDec] using e1
      have g2 : c10 = .int .i64 e.ovs ∧ c11 = .int .i64 e.lead ∧ c12 = .int .i64 e.step ∧ c13 = ev ∧ c14 = fv := by simpa [Value.cells, cellsTsk, cellsAtk, cellsDec] using e2
      obtain ⟨a0, a1, a2, a3, a4, a5, a6⟩ := g0
      obtain ⟨a7, a8, a9⟩ := g1
      obtain ⟨a10, a11, a12, a13, a14⟩ := g2
      subst a0 a1 a2 a3 a4 a5 a6 a7 a8 a9 a10 a11 a12 a13 a14
      exact ⟨c, t, e, _, _, _, _, _, _, _, rfl, h0, h1, h2⟩
end
end Go.Proofs.YtjchapoggmipbaaGreatDoor
