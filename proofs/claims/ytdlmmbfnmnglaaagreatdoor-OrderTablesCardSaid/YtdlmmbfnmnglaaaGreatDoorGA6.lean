/- Several texts of this family in one: V30 V29 FA V6 V9 V31 V11 V32 Y8. -/
import Derived.Test.YtdlmmbfnmnglaaaGreatDoorGA5
import Derived.Test.YtdlmmbfnmnglaaaGreatDoorGA0
import Derived.Laws.EntriesVeiled
import Derived.Maps.RangeWalk
import Derived.Test.YtdlmmbfnmnglaaaGreatDoorGA4
set_option linter.unusedSimpArgs false
set_option linter.unusedVariables false
namespace Go.Proofs.YtdlmmbfnmnglaaaGreatDoor
open Go.RowKit Go.Maps

set_option maxRecDepth 100000 in
set_option maxHeartbeats 8000000 in
theorem r45_sumL (c : Chs) (ht : OkT c) (s : Ost) (hs : OkOs c s) (bv wv pv ov : Value) (b N : Nat) (D : DataW Unit) (w : World) (h : ChAt w (· < w.heap.size) bv wv pv ov c) (hown : ValsO w b N D) (lk : Ost → Int × Bool) (hml : MapL D lk) :
    Calls Tryz.prog 48 #[chV c bv wv pv ov, osV s, .map (some b)] w fun e w' => e = .returned (.tuple #[.int .i64 (valL c lk s).1, .bool (valL c lk s).2]) ∧ Below w.heap.size w w' := by
  unfold chV osV
  have hnp := ht.np
  have hnb := ht.ok.nb
  have hsb := hs.ball
  obtain ⟨A, ca, rfl, hc1, hc2⟩ := h.mdl.bat.shape
  obtain ⟨A1, ca1, rfl, hc3, hc4⟩ := h.mdl.bow.shape
  obtain ⟨A2, ca2, rfl, hc5, hc6⟩ := h.bow.shape
  obtain ⟨A3, ca3, rfl, hc7, hc8⟩ := h.ord.shape
  have HX0 := Lib.hid (OSB.new w c (.slice A c.mdl.bats.length ca) (.slice A1 c.mdl.bows.length ca1) (.slice A2 c.bows.length ca2) (.slice A3 c.ord.length ca3) s)
  have HM := Lib.hid h
  obtain ⟨⟨z1, z2⟩, hz⟩ : ∃ z, z = valL c lk s := ⟨_, rfl⟩
  rw [← hz]
  have tok0 : True := trivial
  by_cases h0 : s.need = 0
  · have kun := fun W => ref_Unit ((c.bows.length : Int) - s.ball) W
    have hle := leftO_le ht hs
    have hlc : (c.bows.length : Int) - s.ball = (leftO c s : Int) := by unfold leftO; omega
    have hzv : z1 = vO c s ∧ z2 = true := by unfold valL at hz; rw [if_pos h0] at hz; injection hz with h8 h9; exact ⟨h8, h9⟩
    have hun : unitS ((c.bows.length : Int) - s.ball) = (z1, 0) := by rw [hlc, unitS_ok hle, hzv.1, vO_won h0, pow16_unit]
    have HZ2 := Lib.hid hzv.2
    rw [hun] at kun
    have KU := Lib.hid kun
    have e0 : (s.need == 0) = true := beq_iff_eq.2 h0
    obtain ⟨ball, need, str, par, wait⟩ := s
    dsimp only at e0 KU hsb ⊢
    obtain ⟨hsb1, hsb2⟩ := hsb
    obtain ⟨hnb1, hnb2⟩ := hnb
    clear hz hzv h0 hs ht h kun hle hlc hun hown hml
    go_enter Tryz.func48, Tryz.ntmps48
    go_wp2_with (clear tok0; go_at_call 93; refine (KU.out _).mono ?_; rintro e w2 ⟨rfl, hb⟩; have HX2 := Lib.hid HX0.out; subst hb; have tok1 : True := trivial)
    go_ret2
    exact ⟨by rw [HZ2.out] <;> rfl, HX2.out.bel⟩
  have e0 : (s.need == 0) = false := beq_eq_false_iff_ne.2 h0
  obtain ⟨hl12, hl16, hlaw, hfin⟩ := nexts_law ht hs
  have hf := accL_val (lk := lk) ht hs h0
  have kn := fun W (hW : Below w.heap.size w W) => r45_nexts c ht s hs _ _ _ _ W (HM.out.below hW)
  have hitem : ∀ (k : Nat) (h1 : k < (nextsO c s).1.length) (h2 : k < (nextsO c s).2.length), Maps.has D (keyOs (nextsO c s).1[k]) = (lk (nextsO c s).1[k]).2 ∧ ((lk (nextsO c s).1[k]).2 = true → D.atKey (keyOs (nextsO c s).1[k]) (.lit (.int .i64 0)) = .lit (.int .i64 (lk (nextsO c s).1[k]).1)) ∧ keyOf Tryz.prog 45 (osV (nextsO c s).1[k]) = some (keyOs (nextsO c s).1[k]) := fun k h1 h2 =>
    have k1 := (hlaw k h1 h2).ok.smol ht
    ⟨hml.has _ k1, hml.val _ k1, okey_of k1⟩
  rw [← hz] at hf
  clear hlaw hfin hml
  revert hl12 hl16 hf kn hitem
  generalize nextsO c s = r
  obtain ⟨l, ws⟩ := r
  intro hl12 hl16 hf kn hitem
  dsimp only at hitem hf hl12 hl16
  have hatk := fun (k : Nat) (h1 : k < l.length) (h2 : k < ws.length) v => accL_at (lk := lk) h1 h2 v
  have KN := Lib.hid kn
  have HIT := Lib.hid hitem
  have HF := Lib.hid (show (z1, z2) = accL lk (l.drop 0) (ws.drop 0) 0 by rw [← hf]; rfl)
  have HAT := Lib.hid hatk
  have HOW := Lib.hid hown
  have hblt := hown.lt
  obtain ⟨ball, need, str, par, wait⟩ := s
  unfold chV osV at KN
  dsimp only at e0 KN ⊢
  clear hz h0 hs ht h kn hf hatk hown hitem hsb
  go_enter Tryz.func48, Tryz.ntmps48
  go_wp2_with (clear tok0; go_at_call 79; refine (KN.out _ HX0.out.bel).mono ?_; rintro e w4 ⟨A4, n4, k4, A5, n5, k5, rfl, hb3, hs3, hs4⟩; obtain ⟨Az, kz, hze, hz1, hz2⟩ := hs3.shape; have hn4 : n4 = l.length := (by injection hze); subst hn4; obtain ⟨Ay, ky, hye, hy1, hy2⟩ := hs4.shape; have hn5 : n5 = ws.length := (by injection hye); subst hn5; have HX4 := Lib.hid (HX0.out.below hb3); have HL4 := Lib.hid (hs3.keep (G := fun x => x < w4.heap.size) elOst_good (Same.refl _ _) fun x hx => hx.2); have HL5 := Lib.hid (hs4.keep (G := fun x => x < w4.heap.size) elInt_good (Same.refl _ _) fun x hx => hx.2); have tok1 : True := trivial; clear hb3 hs3 hs4 hze hz1 hz2 hye hy1 hy2)
  go_loopw [12, 39] (fun v i wr => ∃ (k : Nat) (sm : Int), k ≤ l.length ∧ i = .int .i64 k ∧ v = .int .i64 sm ∧ Hid (Below w4.heap.size w4 wr) ∧ Hid ((z1, z2) = accL lk (l.drop k) (ws.drop k) sm)) (fun _ i _ => l.length - (intOf i).toNat)
  case atStart => exact ⟨0, 0, Nat.zero_le _, rfl, rfl, Lib.hid (Below.refl _ _), HF⟩
  case round =>
    obtain ⟨k, sm, hk, rfl, rfl, HB, hzz⟩ := hrel
    have HXR := Lib.hid (HX4.out.below HB.out)
    by_cases hlt : k < l.length
    · have hlt2 : k < ws.length := by omega
      obtain ⟨b0, o, rfl, hbl, j0, j1, j2, j3, j4⟩ := ost_at HL4.out hlt
      obtain ⟨b1, o1, rfl, hbl1, i0⟩ := int_at HL5.out hlt2
      have g0 := (HB.out.cell (p := ⟨b0, o + k * 5, none⟩) hbl).trans j0
      have g1 := (HB.out.cell (p := ⟨b0, o + k * 5 + 1, none⟩) hbl).trans j1
      have g2 := (HB.out.cell (p := ⟨b0, o + k * 5 + 2, none⟩) hbl).trans j2
      have g3 := (HB.out.cell (p := ⟨b0, o + k * 5 + 3, none⟩) hbl).trans j3
      have g4 := (HB.out.cell (p := ⟨b0, o + k * 5 + 4, none⟩) hbl).trans j4
      have g5 := (HB.out.cell (p := ⟨b1, o1 + k, none⟩) hbl1).trans i0
      obtain ⟨q2, q3, q4⟩ := HIT.out k hlt hlt2
      have hz2 := hzz.out
      rw [HAT.out k hlt hlt2] at hz2
      obtain ⟨⟨vv, ok⟩, hvv⟩ : ∃ x, x = lk l[k] := ⟨_, rfl⟩
      rw [← hvv] at hz2 q2 q3
      obtain ⟨⟨t0, t1, t2, t3, t4⟩, hx⟩ : ∃ x, x = l[k] := ⟨_, rfl⟩
      rw [← hx] at g0 g1 g2 g3 g4 q2 q3 q4
      obtain ⟨y, hy⟩ : ∃ x, x = ws[k] := ⟨_, rfl⟩
      rw [← hy] at g5 hz2
      unfold osV at q4
      dsimp only at g0 g1 g2 g3 g4 q4 q3 hz2
      have HKEY := Lib.hid q4
      have HV := Lib.hid (ovals_below (ovals_below (ovals_below HOW.out (HX4.out.bel)) HB.out) (Below.alloc (Below.refl wr.heap.size wr) (Nat.le_refl _) (.cells #[.int .i64 t0, .int .i64 t1, .int .i64 t2, .int .i64 t3, .int .u16 t4] 45)))
      have hb1 : b1 < wr.heap.size := Nat.lt_of_lt_of_le hbl1 HB.out.size
      cases ok
      · rw [if_neg (by decide)] at hz2
        have HZZ := Lib.hid hz2
        have HQ2 := Lib.hid q2
        have hhas := fun (W : World) => q2
        clear q3 q4 hz2 hzz hvv hx hy j0 j1 j2 j3 j4 i0 hhas
        go_wp2_with (at_lookup; refine wpList_lookup_own_ok_int _ rfl _ _ 81 rfl 45 2 .i64 law45 Tryz.underlying81 Tryz.underlying2 (zero_i64 _) b N D rfl HV.out _ _ rfl HKEY.out ?_; intro cc hat hwc; clear hat hwc)
        go_ret2
        exact ⟨by have h9 := HZZ.out; injection h9 with h7 h8; rw [h7, h8] <;> rfl, (HX4.out.below (HB.out.trans ((Below.alloc (Below.refl wr.heap.size wr) (Nat.le_refl _) _).mono HB.out.size))).bel⟩
      · rw [if_pos rfl] at hz2
        have HVAL := Lib.hid (q3 rfl)
        by_cases hy0 : y = 0
        · rw [if_pos hy0] at hz2
          have HZZ := Lib.hid hz2
          have e5 : (y == 0) = true := beq_iff_eq.2 hy0
          clear q3 q4 hz2 hzz hvv hx hy j0 j1 j2 j3 j4 i0 hy0
          go_wp2_with (at_lookup; refine wpList_lookup_own_ok_int _ rfl _ _ 81 rfl 45 2 .i64 law45 Tryz.underlying81 Tryz.underlying2 (zero_i64 _) b N D rfl HV.out _ _ rfl HKEY.out ?_; intro cc hat hwc; have hc : cc = vv := (by have := hat.symm.trans HVAL.out; injection this with this; injection this); subst hc; clear hat hwc)
          go_roundw
          case rel => exact ⟨k + 1, max sm cc, by omega, by go_num, by first | rfl | rw [Int.max_comm], Lib.hid (HB.out.trans ((Below.alloc (Below.refl wr.heap.size wr) (Nat.le_refl _) _).mono HB.out.size)), HZZ⟩
          case measure => simp [intOf]; omega
        · rw [if_neg hy0] at hz2
          have HZZ := Lib.hid hz2
          have e5 : (y == 0) = false := beq_eq_false_iff_ne.2 hy0
          clear q3 q4 hz2 hzz hvv hx hy j0 j1 j2 j3 j4 i0 hy0
          go_wp2_with (at_lookup; refine wpList_lookup_own_ok_int _ rfl _ _ 81 rfl 45 2 .i64 law45 Tryz.underlying81 Tryz.underlying2 (zero_i64 _) b N D rfl HV.out _ _ rfl HKEY.out ?_; intro cc hat hwc; have hc : cc = vv := (by have := hat.symm.trans HVAL.out; injection this with this; injection this); subst hc; clear hat hwc)
          go_roundw
          case rel => exact ⟨k + 1, _, by omega, by go_num, rfl, Lib.hid (HB.out.trans ((Below.alloc (Below.refl wr.heap.size wr) (Nat.le_refl _) _).mono HB.out.size)), HZZ⟩
          case measure => simp [intOf]; omega
    · obtain rfl : k = l.length := by omega
      have hz2 := hzz.out
      rw [List.drop_of_length_le (Nat.le_refl _), List.drop_of_length_le (by omega)] at hz2
      have hz3 : (z1, z2) = (sm, true) := hz2
      have HZZ := Lib.hid hz3
      clear hz3
      clear hzz hz2
      go_wp2
      go_ret2
      exact ⟨by have h9 := HZZ.out; injection h9 with h7 h8; rw [h7, h8] <;> rfl, HXR.out.bel⟩
/-- A task boxed in the reference's Accept. -/
structure AcR (w W : World) (c : Chs) (bv wv pv ov v : Value) : Prop where
  bel : Below w.heap.size w W
  box : Blk W w.heap.size 42 #[bv, wv, pv, .int .i64 c.over, .int .i64 c.done, .int .i64 c.need, ov]
/-- Besides: a map. -/
structure AcM (w W : World) (b N : Nat) (D : DataW Unit) (c : Chs) (bv wv pv ov v : Value) : Prop where
  r : AcR w W c bv wv pv ov v
  hb : w.heap.size < b
  vals : ValsO W b N D
section
variable {w W W' : World} {b N N' : Nat} {D D' : DataW Unit} {c : Chs} {bv wv pv ov v : Value}
theorem AcR.below (h : AcR w W c bv wv pv ov v) (hb : Below W.heap.size W W') : AcR w W' c bv wv pv ov v := ⟨h.bel.trans (hb.mono h.bel.size), h.box.below hb h.box.lt⟩
theorem AcR.alloc (h : AcR w W c bv wv pv ov v) (o : Obj) : AcR w (W.alloc o) c bv wv pv ov v := h.below (Below.alloc (Below.refl _ _) (Nat.le_refl _) o)
theorem AcR.cells (h : AcR w W c bv wv pv ov v) : W.cell? ⟨w.heap.size, 0, none⟩ = some bv ∧ W.cell? ⟨w.heap.size, 1, none⟩ = some wv ∧ W.cell? ⟨w.heap.size, 2, none⟩ = some pv ∧ W.cell? ⟨w.heap.size, 3, none⟩ = some (.int .i64 c.over) ∧ W.cell? ⟨w.heap.size, 4, none⟩ = some (.int .i64 c.done) ∧ W.cell? ⟨w.heap.size, 5, none⟩ = some (.int .i64 c.need) ∧ W.cell? ⟨w.heap.size, 6, none⟩ = some ov :=
  ⟨h.box.cell 0, h.box.cell 1, h.box.cell 2, h.box.cell 3, h.box.cell 4, h.box.cell 5, h.box.cell 6⟩
theorem AcR.new (w : World) (c : Chs) (bv wv pv ov v : Value) : AcR w (w.alloc (.cells #[bv, wv, pv, .int .i64 c.over, .int .i64 c.done, .int .i64 c.need, ov] 42)) c bv wv pv ov v :=
  ⟨Below.alloc (Below.refl _ _) (Nat.le_refl _) _, Blk.new w 42 #[bv, wv, pv, .int .i64 c.over, .int .i64 c.done, .int .i64 c.need, ov]⟩
theorem AcM.below (h : AcM w W b N D c bv wv pv ov v) (hb : Below W.heap.size W W') : AcM w W' b N D c bv wv pv ov v := ⟨h.r.below hb, h.hb, ovals_below h.vals hb⟩
theorem AcM.alloc (h : AcM w W b N D c bv wv pv ov v) (o : Obj) : AcM w (W.alloc o) b N D c bv wv pv ov v := h.below (Below.alloc (Below.refl _ _) (Nat.le_refl _) o)
theorem AcM.cells (h : AcM w W b N D c bv wv pv ov v) : W.cell? ⟨w.heap.size, 0, none⟩ = some bv ∧ W.cell? ⟨w.heap.size, 1, none⟩ = some wv ∧ W.cell? ⟨w.heap.size, 2, none⟩ = some pv ∧ W.cell? ⟨w.heap.size, 3, none⟩ = some (.int .i64 c.over) ∧ W.cell? ⟨w.heap.size, 4, none⟩ = some (.int .i64 c.done) ∧ W.cell? ⟨w.heap.size, 5, none⟩ = some (.int .i64 c.need) ∧ W.cell? ⟨w.heap.size, 6, none⟩ = some ov := h.r.cells
theorem AcM.into (h : AcM w W b N D c bv wv pv ov v) (ho : Only b W W') (hv : ValsO W' b N' D') : AcM w W' b N' D' c bv wv pv ov v := by
  have hbb := h.hb
  exact ⟨⟨h.r.bel.trans (ho.below (by omega) h.r.bel.size), h.r.box.grown ho (by intro e; injection e with e; omega)⟩, h.hb, hv⟩
theorem AcM.new (h : AcR w W c bv wv pv ov v) : AcM w (W.alloc (.map #[] 0)) W.heap.size 0 (.map []) c bv wv pv ov v := ⟨h.alloc _, h.box.lt, World.ownsMap_made W _ _ _⟩
end
noncomputable def arOps : Array Oper := ((Tryz.f16.body).bind (findR6 8)).getD #[]
def arNeeds : List (List Nat) := [[2], [8], [31], [30, 32], [33], [34], [7, 35], [35, 36], [35, 37], [1, 38], [7, 38], [38, 40], [38, 39, 41], [38, 42], [38, 43], [8, 38], [38, 45], [38, 44, 46], [38, 47], [35, 38, 48], [35, 49]]
theorem ar_size : arOps.size = 21 := by kernel_rfl
def arTabA (c : Chs) (bv wv pv ov v : Value) (p0 p1 p2 p3 p4 vv z : Int) (g gv k : Nat) : List (Nat × Value) := [(1, v), (2, .pointer (some ⟨g, 0, none⟩)), (7, .int .i64 (k : Int)), (8, .pointer (some ⟨gv, 0, none⟩)), (30, .agg #[bv, wv, pv, .int .i64 c.over, .int .i64 c.done, .int .i64 c.need, ov]), (31, .pointer (some ⟨gv, 0, none⟩)), (32, .agg #[.int .i64 p0, .int .i64 p1, .int .i64 p2, .int .i64 p3, .int .u16 p4]), (33, .int .i64 z), (34, .bool true), (35, .bool true), (36, undef), (37, undef), (38, undef), (39, undef), (40, undef), (41, undef), (42, undef), (43, undef), (44, undef), (45, undef), (46, undef), (47, undef), (48, undef), (49, undef), (50, .bool true)]
def arMaskA (c : Chs) (bv wv pv ov v : Value) (p0 p1 p2 p3 p4 vv z : Int) (g gv k : Nat) : List (Option Value) := none :: none :: none :: none :: none :: none :: none :: none :: none :: none :: none :: none :: none :: none :: none :: none :: none :: none :: none :: none :: none :: none :: none :: none :: none :: none :: none :: none :: none :: none :: some (.agg #[bv, wv, pv, .int .i64 c.over, .int .i64 c.done, .int .i64 c.need, ov]) :: some (.pointer (some ⟨gv, 0, none⟩)) :: some (.agg #[.int .i64 p0, .int .i64 p1, .int .i64 p2, .int .i64 p3, .int .u16 p4]) :: some (.int .i64 z) :: some (.bool true) :: some (.bool true) :: some (undef) :: some (undef) :: some (undef) :: some (undef) :: some (undef) :: some (undef) :: some (undef) :: some (undef) :: some (undef) :: some (undef) :: some (undef) :: some (undef) :: some (undef) :: some (undef) :: some (.bool true) :: none :: none :: none :: none :: none :: none :: none :: none :: none :: none :: none :: none :: none :: none :: none :: none :: none :: none :: none :: none :: none :: none :: none :: none :: none :: none :: none :: none :: none :: none :: none :: none :: none :: none :: none :: none :: none :: none :: none :: none :: none :: none :: none :: none :: none :: none :: none :: none :: none :: none :: none :: none :: none :: none :: none :: none :: none :: []
set_option maxRecDepth 100000 in
set_option maxHeartbeats 4000000 in
theorem ar_freeA (c : Chs) (bv wv pv ov v : Value) (p0 p1 p2 p3 p4 vv z : Int) (gv k : Nat) (w : World) (kc : ∀ W, Below w.heap.size w W → Calls Tryz.prog 46 #[.agg #[bv, wv, pv, .int .i64 c.over, .int .i64 c.done, .int .i64 c.need, ov], .agg #[.int .i64 p0, .int .i64 p1, .int .i64 p2, .int .i64 p3, .int .u16 p4]] W fun e W' => e = .returned (.int .i64 z) ∧ Below W.heap.size W W') (hz : z ≠ 0) :
    FreeG Tryz.prog arOps (tabV (arTabA c bv wv pv ov v p0 p1 p2 p3 p4 vv z w.heap.size gv k)) (fun W => AcR w W c bv wv pv ov v ∧ Blk W gv 47 #[.int .i64 p0, .int .i64 p1, .int .i64 p2, .int .i64 p3, .int .u16 p4, .int .i64 vv]) (fun i => arNeeds.getD i []) [1, 2, 7, 8] 108 := by
  refine ⟨backG_of (by kernel_rfl), dstG_of (by kernel_rfl), needG_of (by kernel_rfl), fun d w1 w2 v h _ => h, fun W W' h hb => ⟨h.1.below hb, h.2.below hb h.2.lt⟩, ?_⟩
  intro i o ho a W hG hn
  have hlt : i < 21 := by rw [← ar_size]; exact (Array.getElem?_eq_some_iff.1 ho).1
  have hcase : i = 0 ∨ i = 1 ∨ i = 2 ∨ i = 3 ∨ i = 4 ∨ i = 5 ∨ i = 6 ∨ i = 7 ∨ i = 8 ∨ i = 9 ∨ i = 10 ∨ i = 11 ∨ i = 12 ∨ i = 13 ∨ i = 14 ∨ i = 15 ∨ i = 16 ∨ i = 17 ∨ i = 18 ∨ i = 19 ∨ i = 20 := by omega
  rcases hcase with rfl | rfl | rfl | rfl | rfl | rfl | rfl | rfl | rfl | rfl | rfl | rfl | rfl | rfl | rfl | rfl | rfl | rfl | rfl | rfl | rfl
  · have hop := opG_of (x := .load 42 (.tmp 2)) (d := some 30) (by kernel_rfl) ho
    obtain ⟨h1, h2⟩ := hop
    refine .inl ⟨free_not (guardG_of (by kernel_rfl) ho), ?_⟩
    exact meets_load h1 (fg_val 2 (.pointer (some ⟨w.heap.size, 0, none⟩)) hn (by kernel_rfl) rfl) (load_tskZ hG.1.box) (fg_put h2 rfl)
  · have hop := opG_of (x := .fieldAddr 47 (.tmp 8) 0) (d := some 31) (by kernel_rfl) ho
    obtain ⟨h1, h2⟩ := hop
    refine .inl ⟨free_not (guardG_of (by kernel_rfl) ho), ?_⟩
    exact meets_field h1 (fg_val 8 (.pointer (some ⟨gv, 0, none⟩)) hn (by kernel_rfl) rfl) (by kernel_rfl : (Instr.fieldAt 47 (.pointer (some ⟨gv, 0, none⟩)) 0).run Tryz.prog W = .ok (.pointer (some ⟨gv, 0, none⟩)) W) (fg_put h2 rfl)
  · have hop := opG_of (x := .load 45 (.tmp 31)) (d := some 32) (by kernel_rfl) ho
    obtain ⟨h1, h2⟩ := hop
    refine .inl ⟨free_not (guardG_of (by kernel_rfl) ho), ?_⟩
    exact meets_load h1 (fg_val 31 (.pointer (some ⟨gv, 0, none⟩)) hn (by kernel_rfl) rfl) (blk_ost hG.2) (fg_put h2 rfl)
  · have hop := opG_of (x := .call { callee := .value (.func 46), args := #[.tmp 30, .tmp 32], argTypes := #[42, 45] }) (d := some 33) (by kernel_rfl) ho
    obtain ⟨h1, h2⟩ := hop
    refine .inl ⟨free_not (guardG_of (by kernel_rfl) ho), ?_⟩
    refine meets_call (args := #[.agg #[bv, wv, pv, .int .i64 c.over, .int .i64 c.done, .int .i64 c.need, ov], .agg #[.int .i64 p0, .int .i64 p1, .int .i64 p2, .int .i64 p3, .int .u16 p4]]) h1 rfl rfl (by have e30 := (fg_val 30 (.agg #[bv, wv, pv, .int .i64 c.over, .int .i64 c.done, .int .i64 c.need, ov]) hn (by kernel_rfl) rfl); have e32 := (fg_val 32 (.agg #[.int .i64 p0, .int .i64 p1, .int .i64 p2, .int .i64 p3, .int .u16 p4]) hn (by kernel_rfl) rfl); simp [e30, e32]) Tryz.func46 (by kernel_rfl) (by kernel_rfl) fun d hd => ?_
    refine (kc W hG.1.bel).mono ?_
    rintro e W' ⟨rfl, hb⟩
    exact ⟨_, rfl, hb, (fg_put h2 rfl d hd)⟩
  · have hop := opG_of (x := .binOp .neq 36 (.tmp 33) (.const (.int .i64 0)) 36) (d := some 34) (by kernel_rfl) ho
    obtain ⟨h1, h2⟩ := hop
    refine .inl ⟨free_not (guardG_of (by kernel_rfl) ho), ?_⟩
    exact meets_value (v := .bool true) (by have e33 := (fg_val 33 (.int .i64 z) hn (by kernel_rfl) rfl); unfold execOp; simp only [h1, e33]; simp [go_sem, BigFrame.eval_const, hz]) (fg_put h2 rfl)
  · have hop := opG_of (x := .move (.tmp 34)) (d := some 35) (by kernel_rfl) ho
    obtain ⟨h1, h2⟩ := hop
    refine .inl ⟨free_not (guardG_of (by kernel_rfl) ho), ?_⟩
    exact meets_move (.inl h1) fun d hd => by rw [h2] at hd; obtain rfl := Option.some.inj hd; exact (fg_val 34 (.bool true) hn (by kernel_rfl) rfl)
  · have hop := opG_of (x := .move (.tmp 7)) (d := some 36) (by kernel_rfl) ho
    obtain ⟨h1, h2⟩ := hop
    exact .inr ⟨(guard_at (j := 5) (d := 35) (b := false) (b' := true) (by kernel_rfl : (arOps[6]?).map (·.guard) = some (some (5, false))) (by kernel_rfl) ho (fg_tmp 35 (.bool true) hn (by kernel_rfl) rfl)), fg_put h2 rfl⟩
  · have hop := opG_of (x := .binOp .gtr 3 (.tmp 36) (.const (.int .i64 0)) 3) (d := some 37) (by kernel_rfl) ho
    obtain ⟨h1, h2⟩ := hop
    exact .inr ⟨(guard_at (j := 5) (d := 35) (b := false) (b' := true) (by kernel_rfl : (arOps[7]?).map (·.guard) = some (some (5, false))) (by kernel_rfl) ho (fg_tmp 35 (.bool true) hn (by kernel_rfl) rfl)), fg_put h2 rfl⟩
  · have hop := opG_of (x := .move (.tmp 37)) (d := some 38) (by kernel_rfl) ho
    obtain ⟨h1, h2⟩ := hop
    exact .inr ⟨(guard_at (j := 5) (d := 35) (b := false) (b' := true) (by kernel_rfl : (arOps[8]?).map (·.guard) = some (some (5, false))) (by kernel_rfl) ho (fg_tmp 35 (.bool true) hn (by kernel_rfl) rfl)), fg_put h2 rfl⟩
  · have hop := opG_of (x := .move (.tmp 1)) (d := some 39) (by kernel_rfl) ho
    obtain ⟨h1, h2⟩ := hop
    refine .inr ⟨guard_un (j := 8) (d := 38) (by kernel_rfl : (arOps[9]?).map (·.guard) = some (some (8, true))) (by kernel_rfl) ho (fg_tmp 38 undef hn (by kernel_rfl) rfl), fg_put h2 rfl⟩
  · have hop := opG_of (x := .move (.tmp 7)) (d := some 40) (by kernel_rfl) ho
    obtain ⟨h1, h2⟩ := hop
    refine .inr ⟨guard_un (j := 8) (d := 38) (by kernel_rfl : (arOps[10]?).map (·.guard) = some (some (8, true))) (by kernel_rfl) ho (fg_tmp 38 undef hn (by kernel_rfl) rfl), fg_put h2 rfl⟩
  · have hop := opG_of (x := .binOp .sub 3 (.tmp 40) (.const (.int .i64 1)) 3) (d := some 41) (by kernel_rfl) ho
    obtain ⟨h1, h2⟩ := hop
    refine .inr ⟨guard_un (j := 8) (d := 38) (by kernel_rfl : (arOps[11]?).map (·.guard) = some (some (8, true))) (by kernel_rfl) ho (fg_tmp 38 undef hn (by kernel_rfl) rfl), fg_put h2 rfl⟩
  · have hop := opG_of (x := .indexAddr 49 (.tmp 39) (.tmp 41)) (d := some 42) (by kernel_rfl) ho
    obtain ⟨h1, h2⟩ := hop
    refine .inr ⟨guard_un (j := 8) (d := 38) (by kernel_rfl : (arOps[12]?).map (·.guard) = some (some (8, true))) (by kernel_rfl) ho (fg_tmp 38 undef hn (by kernel_rfl) rfl), fg_put h2 rfl⟩
  · have hop := opG_of (x := .fieldAddr 47 (.tmp 42) 0) (d := some 43) (by kernel_rfl) ho
    obtain ⟨h1, h2⟩ := hop
    refine .inr ⟨guard_un (j := 8) (d := 38) (by kernel_rfl : (arOps[13]?).map (·.guard) = some (some (8, true))) (by kernel_rfl) ho (fg_tmp 38 undef hn (by kernel_rfl) rfl), fg_put h2 rfl⟩
  · have hop := opG_of (x := .load 45 (.tmp 43)) (d := some 44) (by kernel_rfl) ho
    obtain ⟨h1, h2⟩ := hop
    refine .inr ⟨guard_un (j := 8) (d := 38) (by kernel_rfl : (arOps[14]?).map (·.guard) = some (some (8, true))) (by kernel_rfl) ho (fg_tmp 38 undef hn (by kernel_rfl) rfl), fg_put h2 rfl⟩
  · have hop := opG_of (x := .fieldAddr 47 (.tmp 8) 0) (d := some 45) (by kernel_rfl) ho
    obtain ⟨h1, h2⟩ := hop
    refine .inr ⟨guard_un (j := 8) (d := 38) (by kernel_rfl : (arOps[15]?).map (·.guard) = some (some (8, true))) (by kernel_rfl) ho (fg_tmp 38 undef hn (by kernel_rfl) rfl), fg_put h2 rfl⟩
  · have hop := opG_of (x := .load 45 (.tmp 45)) (d := some 46) (by kernel_rfl) ho
    obtain ⟨h1, h2⟩ := hop
    refine .inr ⟨guard_un (j := 8) (d := 38) (by kernel_rfl : (arOps[16]?).map (·.guard) = some (some (8, true))) (by kernel_rfl) ho (fg_tmp 38 undef hn (by kernel_rfl) rfl), fg_put h2 rfl⟩
  · have hop := opG_of (x := .call { callee := .value (.func 47), args := #[.tmp 44, .tmp 46], argTypes := #[45, 45] }) (d := some 47) (by kernel_rfl) ho
    obtain ⟨h1, h2⟩ := hop
    refine .inr ⟨guard_un (j := 8) (d := 38) (by kernel_rfl : (arOps[17]?).map (·.guard) = some (some (8, true))) (by kernel_rfl) ho (fg_tmp 38 undef hn (by kernel_rfl) rfl), fg_put h2 rfl⟩
  · have hop := opG_of (x := .unOp .not 4 (.tmp 47)) (d := some 48) (by kernel_rfl) ho
    obtain ⟨h1, h2⟩ := hop
    refine .inr ⟨guard_un (j := 8) (d := 38) (by kernel_rfl : (arOps[18]?).map (·.guard) = some (some (8, true))) (by kernel_rfl) ho (fg_tmp 38 undef hn (by kernel_rfl) rfl), fg_put h2 rfl⟩
  · have hop := opG_of (x := .pick (.tmp 38) (.tmp 48) (.const (.bool false))) (d := some 49) (by kernel_rfl) ho
    obtain ⟨h1, h2⟩ := hop
    exact .inr ⟨(guard_at (j := 5) (d := 35) (b := false) (b' := true) (by kernel_rfl : (arOps[19]?).map (·.guard) = some (some (5, false))) (by kernel_rfl) ho (fg_tmp 35 (.bool true) hn (by kernel_rfl) rfl)), fg_put h2 rfl⟩
  · have hop := opG_of (x := .pick (.tmp 35) (.const (.bool true)) (.tmp 49)) (d := some 50) (by kernel_rfl) ho
    obtain ⟨h1, h2⟩ := hop
    refine .inl ⟨free_not (guardG_of (by kernel_rfl) ho), ?_⟩
    exact meets_value (v := .bool true) (by have e35 := (fg_val 35 (.bool true) hn (by kernel_rfl) rfl); have e49 := (fg_val 49 (undef) hn (by kernel_rfl) rfl); unfold execOp; simp only [h1, e35, e49]; simp [go_sem, BigFrame.eval_const]) (fg_put h2 rfl)
def arTabB (c : Chs) (bv wv pv ov v : Value) (p0 p1 p2 p3 p4 vv z : Int) (g gv k : Nat) : List (Nat × Value) := [(1, v), (2, .pointer (some ⟨g, 0, none⟩)), (7, .int .i64 (k : Int)), (8, .pointer (some ⟨gv, 0, none⟩)), (30, .agg #[bv, wv, pv, .int .i64 c.over, .int .i64 c.done, .int .i64 c.need, ov]), (31, .pointer (some ⟨gv, 0, none⟩)), (32, .agg #[.int .i64 p0, .int .i64 p1, .int .i64 p2, .int .i64 p3, .int .u16 p4]), (33, .int .i64 z), (34, .bool false), (35, .bool false), (36, .int .i64 (k : Int)), (37, .bool false), (38, .bool false), (39, undef), (40, undef), (41, undef), (42, undef), (43, undef), (44, undef), (45, undef), (46, undef), (47, undef), (48, undef), (49, .bool false), (50, .bool false)]
def arMaskB (c : Chs) (bv wv pv ov v : Value) (p0 p1 p2 p3 p4 vv z : Int) (g gv k : Nat) : List (Option Value) := none :: none :: none :: none :: none :: none :: none :: none :: none :: none :: none :: none :: none :: none :: none :: none :: none :: none :: none :: none :: none :: none :: none :: none :: none :: none :: none :: none :: none :: none :: some (.agg #[bv, wv, pv, .int .i64 c.over, .int .i64 c.done, .int .i64 c.need, ov]) :: some (.pointer (some ⟨gv, 0, none⟩)) :: some (.agg #[.int .i64 p0, .int .i64 p1, .int .i64 p2, .int .i64 p3, .int .u16 p4]) :: some (.int .i64 z) :: some (.bool false) :: some (.bool false) :: some (.int .i64 (k : Int)) :: some (.bool false) :: some (.bool false) :: some (undef) :: some (undef) :: some (undef) :: some (undef) :: some (undef) :: some (undef) :: some (undef) :: some (undef) :: some (undef) :: some (undef) :: some (.bool false) :: some (.bool false) :: none :: none :: none :: none :: none :: none :: none :: none :: none :: none :: none :: none :: none :: none :: none :: none :: none :: none :: none :: none :: none :: none :: none :: none :: none :: none :: none :: none :: none :: none :: none :: none :: none :: none :: none :: none :: none :: none :: none :: none :: none :: none :: none :: none :: none :: none :: none :: none :: none :: none :: none :: none :: none :: none :: none :: none :: none :: []
set_option maxRecDepth 100000 in
set_option maxHeartbeats 4000000 in
theorem ar_freeB (c : Chs) (bv wv pv ov v : Value) (p0 p1 p2 p3 p4 vv z : Int) (gv k : Nat) (w : World) (kc : ∀ W, Below w.heap.size w W → Calls Tryz.prog 46 #[.agg #[bv, wv, pv, .int .i64 c.over, .int .i64 c.done, .int .i64 c.need, ov], .agg #[.int .i64 p0, .int .i64 p1, .int .i64 p2, .int .i64 p3, .int .u16 p4]] W fun e W' => e = .returned (.int .i64 z) ∧ Below W.heap.size W W') (hz : z = 0) (hk : k = 0) :
    FreeG Tryz.prog arOps (tabV (arTabB c bv wv pv ov v p0 p1 p2 p3 p4 vv z w.heap.size gv k)) (fun W => AcR w W c bv wv pv ov v ∧ Blk W gv 47 #[.int .i64 p0, .int .i64 p1, .int .i64 p2, .int .i64 p3, .int .u16 p4, .int .i64 vv]) (fun i => arNeeds.getD i []) [1, 2, 7, 8] 108 := by
  refine ⟨backG_of (by kernel_rfl), dstG_of (by kernel_rfl), needG_of (by kernel_rfl), fun d w1 w2 v h _ => h, fun W W' h hb => ⟨h.1.below hb, h.2.below hb h.2.lt⟩, ?_⟩
  intro i o ho a W hG hn
  have hlt : i < 21 := by rw [← ar_size]; exact (Array.getElem?_eq_some_iff.1 ho).1
  have hcase : i = 0 ∨ i = 1 ∨ i = 2 ∨ i = 3 ∨ i = 4 ∨ i = 5 ∨ i = 6 ∨ i = 7 ∨ i = 8 ∨ i = 9 ∨ i = 10 ∨ i = 11 ∨ i = 12 ∨ i = 13 ∨ i = 14 ∨ i = 15 ∨ i = 16 ∨ i = 17 ∨ i = 18 ∨ i = 19 ∨ i = 20 := by omega
  rcases hcase with rfl | rfl | rfl | rfl | rfl | rfl | rfl | rfl | rfl | rfl | rfl | rfl | rfl | rfl | rfl | rfl | rfl | rfl | rfl | rfl | rfl
  · have hop := opG_of (x := .load 42 (.tmp 2)) (d := some 30) (by kernel_rfl) ho
    obtain ⟨h1, h2⟩ := hop
    refine .inl ⟨free_not (guardG_of (by kernel_rfl) ho), ?_⟩
    exact meets_load h1 (fg_val 2 (.pointer (some ⟨w.heap.size, 0, none⟩)) hn (by kernel_rfl) rfl) (load_tskZ hG.1.box) (fg_put h2 rfl)
  · have hop := opG_of (x := .fieldAddr 47 (.tmp 8) 0) (d := some 31) (by kernel_rfl) ho
    obtain ⟨h1, h2⟩ := hop
    refine .inl ⟨free_not (guardG_of (by kernel_rfl) ho), ?_⟩
    exact meets_field h1 (fg_val 8 (.pointer (some ⟨gv, 0, none⟩)) hn (by kernel_rfl) rfl) (by kernel_rfl : (Instr.fieldAt 47 (.pointer (some ⟨gv, 0, none⟩)) 0).run Tryz.prog W = .ok (.pointer (some ⟨gv, 0, none⟩)) W) (fg_put h2 rfl)
  · have hop := opG_of (x := .load 45 (.tmp 31)) (d := some 32) (by kernel_rfl) ho
    obtain ⟨h1, h2⟩ := hop
    refine .inl ⟨free_not (guardG_of (by kernel_rfl) ho), ?_⟩
    exact meets_load h1 (fg_val 31 (.pointer (some ⟨gv, 0, none⟩)) hn (by kernel_rfl) rfl) (blk_ost hG.2) (fg_put h2 rfl)
  · have hop := opG_of (x := .call { callee := .value (.func 46), args := #[.tmp 30, .tmp 32], argTypes := #[42, 45] }) (d := some 33) (by kernel_rfl) ho
    obtain ⟨h1, h2⟩ := hop
    refine .inl ⟨free_not (guardG_of (by kernel_rfl) ho), ?_⟩
    refine meets_call (args := #[.agg #[bv, wv, pv, .int .i64 c.over, .int .i64 c.done, .int .i64 c.need, ov], .agg #[.int .i64 p0, .int .i64 p1, .int .i64 p2, .int .i64 p3, .int .u16 p4]]) h1 rfl rfl (by have e30 := (fg_val 30 (.agg #[bv, wv, pv, .int .i64 c.over, .int .i64 c.done, .int .i64 c.need, ov]) hn (by kernel_rfl) rfl); have e32 := (fg_val 32 (.agg #[.int .i64 p0, .int .i64 p1, .int .i64 p2, .int .i64 p3, .int .u16 p4]) hn (by kernel_rfl) rfl); simp [e30, e32]) Tryz.func46 (by kernel_rfl) (by kernel_rfl) fun d hd => ?_
    refine (kc W hG.1.bel).mono ?_
    rintro e W' ⟨rfl, hb⟩
    exact ⟨_, rfl, hb, (fg_put h2 rfl d hd)⟩
  · have hop := opG_of (x := .binOp .neq 36 (.tmp 33) (.const (.int .i64 0)) 36) (d := some 34) (by kernel_rfl) ho
    obtain ⟨h1, h2⟩ := hop
    refine .inl ⟨free_not (guardG_of (by kernel_rfl) ho), ?_⟩
    exact meets_value (v := .bool false) (by have e33 := (fg_val 33 (.int .i64 z) hn (by kernel_rfl) rfl); unfold execOp; simp only [h1, e33]; simp [go_sem, BigFrame.eval_const, hz]) (fg_put h2 rfl)
  · have hop := opG_of (x := .move (.tmp 34)) (d := some 35) (by kernel_rfl) ho
    obtain ⟨h1, h2⟩ := hop
    refine .inl ⟨free_not (guardG_of (by kernel_rfl) ho), ?_⟩
    exact meets_move (.inl h1) fun d hd => by rw [h2] at hd; obtain rfl := Option.some.inj hd; exact (fg_val 34 (.bool false) hn (by kernel_rfl) rfl)
  · have hop := opG_of (x := .move (.tmp 7)) (d := some 36) (by kernel_rfl) ho
    obtain ⟨h1, h2⟩ := hop
    refine .inl ⟨(guard_at (j := 5) (d := 35) (b := false) (b' := false) (by kernel_rfl : (arOps[6]?).map (·.guard) = some (some (5, false))) (by kernel_rfl) ho (fg_tmp 35 (.bool false) hn (by kernel_rfl) rfl)), ?_⟩
    exact meets_move (.inl h1) fun d hd => by rw [h2] at hd; obtain rfl := Option.some.inj hd; exact (fg_val 7 (.int .i64 (k : Int)) hn (by kernel_rfl) rfl)
  · have hop := opG_of (x := .binOp .gtr 3 (.tmp 36) (.const (.int .i64 0)) 3) (d := some 37) (by kernel_rfl) ho
    obtain ⟨h1, h2⟩ := hop
    refine .inl ⟨(guard_at (j := 5) (d := 35) (b := false) (b' := false) (by kernel_rfl : (arOps[7]?).map (·.guard) = some (some (5, false))) (by kernel_rfl) ho (fg_tmp 35 (.bool false) hn (by kernel_rfl) rfl)), ?_⟩
    exact meets_value (v := .bool false) (by have e36 := (fg_val 36 (.int .i64 (k : Int)) hn (by kernel_rfl) rfl); unfold execOp; simp only [h1, e36]; simp [go_sem, BigFrame.eval_const, hk]) (fg_put h2 rfl)
  · have hop := opG_of (x := .move (.tmp 37)) (d := some 38) (by kernel_rfl) ho
    obtain ⟨h1, h2⟩ := hop
    refine .inl ⟨(guard_at (j := 5) (d := 35) (b := false) (b' := false) (by kernel_rfl : (arOps[8]?).map (·.guard) = some (some (5, false))) (by kernel_rfl) ho (fg_tmp 35 (.bool false) hn (by kernel_rfl) rfl)), ?_⟩
    exact meets_move (.inl h1) fun d hd => by rw [h2] at hd; obtain rfl := Option.some.inj hd; exact (fg_val 37 (.bool false) hn (by kernel_rfl) rfl)
  · have hop := opG_of (x := .move (.tmp 1)) (d := some 39) (by kernel_rfl) ho
    obtain ⟨h1, h2⟩ := hop
    exact .inr ⟨(guard_at (j := 8) (d := 38) (b := true) (b' := false) (by kernel_rfl : (arOps[9]?).map (·.guard) = some (some (8, true))) (by kernel_rfl) ho (fg_tmp 38 (.bool false) hn (by kernel_rfl) rfl)), fg_put h2 rfl⟩
  · have hop := opG_of (x := .move (.tmp 7)) (d := some 40) (by kernel_rfl) ho
    obtain ⟨h1, h2⟩ := hop
    exact .inr ⟨(guard_at (j := 8) (d := 38) (b := true) (b' := false) (by kernel_rfl : (arOps[10]?).map (·.guard) = some (some (8, true))) (by kernel_rfl) ho (fg_tmp 38 (.bool false) hn (by kernel_rfl) rfl)), fg_put h2 rfl⟩
  · have hop := opG_of (x := .binOp .sub 3 (.tmp 40) (.const (.int .i64 1)) 3) (d := some 41) (by kernel_rfl) ho
    obtain ⟨h1, h2⟩ := hop
    exact .inr ⟨(guard_at (j := 8) (d := 38) (b := true) (b' := false) (by kernel_rfl : (arOps[11]?).map (·.guard) = some (some (8, true))) (by kernel_rfl) ho (fg_tmp 38 (.bool false) hn (by kernel_rfl) rfl)), fg_put h2 rfl⟩
  · have hop := opG_of (x := .indexAddr 49 (.tmp 39) (.tmp 41)) (d := some 42) (by kernel_rfl) ho
    obtain ⟨h1, h2⟩ := hop
    exact .inr ⟨(guard_at (j := 8) (d := 38) (b := true) (b' := false) (by kernel_rfl : (arOps[12]?).map (·.guard) = some (some (8, true))) (by kernel_rfl) ho (fg_tmp 38 (.bool false) hn (by kernel_rfl) rfl)), fg_put h2 rfl⟩
  · have hop := opG_of (x := .fieldAddr 47 (.tmp 42) 0) (d := some 43) (by kernel_rfl) ho
    obtain ⟨h1, h2⟩ := hop
    exact .inr ⟨(guard_at (j := 8) (d := 38) (b := true) (b' := false) (by kernel_rfl : (arOps[13]?).map (·.guard) = some (some (8, true))) (by kernel_rfl) ho (fg_tmp 38 (.bool false) hn (by kernel_rfl) rfl)), fg_put h2 rfl⟩
  · have hop := opG_of (x := .load 45 (.tmp 43)) (d := some 44) (by kernel_rfl) ho
    obtain ⟨h1, h2⟩ := hop
    exact .inr ⟨(guard_at (j := 8) (d := 38) (b := true) (b' := false) (by kernel_rfl : (arOps[14]?).map (·.guard) = some (some (8, true))) (by kernel_rfl) ho (fg_tmp 38 (.bool false) hn (by kernel_rfl) rfl)), fg_put h2 rfl⟩
  · have hop := opG_of (x := .fieldAddr 47 (.tmp 8) 0) (d := some 45) (by kernel_rfl) ho
    obtain ⟨h1, h2⟩ := hop
    exact .inr ⟨(guard_at (j := 8) (d := 38) (b := true) (b' := false) (by kernel_rfl : (arOps[15]?).map (·.guard) = some (some (8, true))) (by kernel_rfl) ho (fg_tmp 38 (.bool false) hn (by kernel_rfl) rfl)), fg_put h2 rfl⟩
  · have hop := opG_of (x := .load 45 (.tmp 45)) (d := some 46) (by kernel_rfl) ho
    obtain ⟨h1, h2⟩ := hop
    exact .inr ⟨(guard_at (j := 8) (d := 38) (b := true) (b' := false) (by kernel_rfl : (arOps[16]?).map (·.guard) = some (some (8, true))) (by kernel_rfl) ho (fg_tmp 38 (.bool false) hn (by kernel_rfl) rfl)), fg_put h2 rfl⟩
  · have hop := opG_of (x := .call { callee := .value (.func 47), args := #[.tmp 44, .tmp 46], argTypes := #[45, 45] }) (d := some 47) (by kernel_rfl) ho
    obtain ⟨h1, h2⟩ := hop
    exact .inr ⟨(guard_at (j := 8) (d := 38) (b := true) (b' := false) (by kernel_rfl : (arOps[17]?).map (·.guard) = some (some (8, true))) (by kernel_rfl) ho (fg_tmp 38 (.bool false) hn (by kernel_rfl) rfl)), fg_put h2 rfl⟩
  · have hop := opG_of (x := .unOp .not 4 (.tmp 47)) (d := some 48) (by kernel_rfl) ho
    obtain ⟨h1, h2⟩ := hop
    exact .inr ⟨(guard_at (j := 8) (d := 38) (b := true) (b' := false) (by kernel_rfl : (arOps[18]?).map (·.guard) = some (some (8, true))) (by kernel_rfl) ho (fg_tmp 38 (.bool false) hn (by kernel_rfl) rfl)), fg_put h2 rfl⟩
  · have hop := opG_of (x := .pick (.tmp 38) (.tmp 48) (.const (.bool false))) (d := some 49) (by kernel_rfl) ho
    obtain ⟨h1, h2⟩ := hop
    refine .inl ⟨(guard_at (j := 5) (d := 35) (b := false) (b' := false) (by kernel_rfl : (arOps[19]?).map (·.guard) = some (some (5, false))) (by kernel_rfl) ho (fg_tmp 35 (.bool false) hn (by kernel_rfl) rfl)), ?_⟩
    exact meets_value (v := .bool false) (by have e38 := (fg_val 38 (.bool false) hn (by kernel_rfl) rfl); have e48 := (fg_val 48 (undef) hn (by kernel_rfl) rfl); unfold execOp; simp only [h1, e38, e48]; simp [go_sem, BigFrame.eval_const]) (fg_put h2 rfl)
  · have hop := opG_of (x := .pick (.tmp 35) (.const (.bool true)) (.tmp 49)) (d := some 50) (by kernel_rfl) ho
    obtain ⟨h1, h2⟩ := hop
    refine .inl ⟨free_not (guardG_of (by kernel_rfl) ho), ?_⟩
    exact meets_value (v := .bool false) (by have e35 := (fg_val 35 (.bool false) hn (by kernel_rfl) rfl); have e49 := (fg_val 49 (.bool false) hn (by kernel_rfl) rfl); unfold execOp; simp only [h1, e35, e49]; simp [go_sem, BigFrame.eval_const]) (fg_put h2 rfl)
def arTabC (c : Chs) (bv wv pv ov : Value) (p0 p1 p2 p3 p4 vv z : Int) (g gv k : Nat) (r0 r1 r2 r3 r4 rv : Int) (b0 o0 n0 c0 : Nat) : List (Nat × Value) := [(1, .slice (some ⟨b0, o0, none⟩) n0 c0), (2, .pointer (some ⟨g, 0, none⟩)), (7, .int .i64 (k : Int)), (8, .pointer (some ⟨gv, 0, none⟩)), (30, .agg #[bv, wv, pv, .int .i64 c.over, .int .i64 c.done, .int .i64 c.need, ov]), (31, .pointer (some ⟨gv, 0, none⟩)), (32, .agg #[.int .i64 p0, .int .i64 p1, .int .i64 p2, .int .i64 p3, .int .u16 p4]), (33, .int .i64 z), (34, .bool false), (35, .bool false), (36, .int .i64 (k : Int)), (37, .bool true), (38, .bool true), (39, .slice (some ⟨b0, o0, none⟩) n0 c0), (40, .int .i64 (k : Int)), (41, .int .i64 ((k - 1 : Nat) : Int)), (42, .pointer (some ⟨b0, o0 + (k - 1) * 6, none⟩)), (43, .pointer (some ⟨b0, o0 + (k - 1) * 6, none⟩)), (44, .agg #[.int .i64 r0, .int .i64 r1, .int .i64 r2, .int .i64 r3, .int .u16 r4]), (45, .pointer (some ⟨gv, 0, none⟩)), (46, .agg #[.int .i64 p0, .int .i64 p1, .int .i64 p2, .int .i64 p3, .int .u16 p4]), (47, .bool false), (48, .bool true), (49, .bool true), (50, .bool true)]
def arMaskC (c : Chs) (bv wv pv ov : Value) (p0 p1 p2 p3 p4 vv z : Int) (g gv k : Nat) (r0 r1 r2 r3 r4 rv : Int) (b0 o0 n0 c0 : Nat) : List (Option Value) := none :: none :: none :: none :: none :: none :: none :: none :: none :: none :: none :: none :: none :: none :: none :: none :: none :: none :: none :: none :: none :: none :: none :: none :: none :: none :: none :: none :: none :: none :: some (.agg #[bv, wv, pv, .int .i64 c.over, .int .i64 c.done, .int .i64 c.need, ov]) :: some (.pointer (some ⟨gv, 0, none⟩)) :: some (.agg #[.int .i64 p0, .int .i64 p1, .int .i64 p2, .int .i64 p3, .int .u16 p4]) :: some (.int .i64 z) :: some (.bool false) :: some (.bool false) :: some (.int .i64 (k : Int)) :: some (.bool true) :: some (.bool true) :: some (.slice (some ⟨b0, o0, none⟩) n0 c0) :: some (.int .i64 (k : Int)) :: some (.int .i64 ((k - 1 : Nat) : Int)) :: some (.pointer (some ⟨b0, o0 + (k - 1) * 6, none⟩)) :: some (.pointer (some ⟨b0, o0 + (k - 1) * 6, none⟩)) :: some (.agg #[.int .i64 r0, .int .i64 r1, .int .i64 r2, .int .i64 r3, .int .u16 r4]) :: some (.pointer (some ⟨gv, 0, none⟩)) :: some (.agg #[.int .i64 p0, .int .i64 p1, .int .i64 p2, .int .i64 p3, .int .u16 p4]) :: some (.bool false) :: some (.bool true) :: some (.bool true) :: some (.bool true) :: none :: none :: none :: none :: none :: none :: none :: none :: none :: none :: none :: none :: none :: none :: none :: none :: none :: none :: none :: none :: none :: none :: none :: none :: none :: none :: none :: none :: none :: none :: none :: none :: none :: none :: none :: none :: none :: none :: none :: none :: none :: none :: none :: none :: none :: none :: none :: none :: none :: none :: none :: none :: none :: none :: none :: none :: none :: []
set_option maxRecDepth 100000 in
set_option maxHeartbeats 4000000 in
theorem ar_freeC (c : Chs) (bv wv pv ov : Value) (p0 p1 p2 p3 p4 vv z : Int) (gv k : Nat) (r0 r1 r2 r3 r4 rv : Int) (b0 o0 n0 c0 : Nat) (w : World) (kc : ∀ W, Below w.heap.size w W → Calls Tryz.prog 46 #[.agg #[bv, wv, pv, .int .i64 c.over, .int .i64 c.done, .int .i64 c.need, ov], .agg #[.int .i64 p0, .int .i64 p1, .int .i64 p2, .int .i64 p3, .int .u16 p4]] W fun e W' => e = .returned (.int .i64 z) ∧ Below W.heap.size W W') (kq : ∀ W, Calls Tryz.prog 47 #[.agg #[.int .i64 r0, .int .i64 r1, .int .i64 r2, .int .i64 r3, .int .u16 r4], .agg #[.int .i64 p0, .int .i64 p1, .int .i64 p2, .int .i64 p3, .int .u16 p4]] W fun e W' => e = .returned (.bool false) ∧ Below W.heap.size W W') (hz : z = 0) (hk : 0 < k) (hkn : k ≤ n0) (hn0 : n0 ≤ 1000000000000) (hb0 : b0 < w.heap.size) (hprev : w.cell? ⟨b0, o0 + (k - 1) * 6, none⟩ = some (.int .i64 r0) ∧ w.cell? ⟨b0, o0 + (k - 1) * 6 + 1, none⟩ = some (.int .i64 r1) ∧ w.cell? ⟨b0, o0 + (k - 1) * 6 + 2, none⟩ = some (.int .i64 r2) ∧ w.cell? ⟨b0, o0 + (k - 1) * 6 + 3, none⟩ = some (.int .i64 r3) ∧ w.cell? ⟨b0, o0 + (k - 1) * 6 + 4, none⟩ = some (.int .u16 r4) ∧ w.cell? ⟨b0, o0 + (k - 1) * 6 + 5, none⟩ = some (.int .i64 rv))  :
    FreeG Tryz.prog arOps (tabV (arTabC c bv wv pv ov p0 p1 p2 p3 p4 vv z w.heap.size gv k r0 r1 r2 r3 r4 rv b0 o0 n0 c0)) (fun W => AcR w W c bv wv pv ov (.slice (some ⟨b0, o0, none⟩) n0 c0) ∧ Blk W gv 47 #[.int .i64 p0, .int .i64 p1, .int .i64 p2, .int .i64 p3, .int .u16 p4, .int .i64 vv]) (fun i => arNeeds.getD i []) [1, 2, 7, 8] 108 := by
  refine ⟨backG_of (by kernel_rfl), dstG_of (by kernel_rfl), needG_of (by kernel_rfl), fun d w1 w2 v h _ => h, fun W W' h hb => ⟨h.1.below hb, h.2.below hb h.2.lt⟩, ?_⟩
  intro i o ho a W hG hn
  have hlt : i < 21 := by rw [← ar_size]; exact (Array.getElem?_eq_some_iff.1 ho).1
  have hs1 : IntKind.i64.wrap ((k : Int) - 1) = ((k - 1 : Nat) : Int) := by rw [IntWalk.i64_in _ (by omega)]; omega
  have hs2 : k - 1 < n0 := by omega
  have hs3 : (0 : Int) < (k : Int) := by omega
  have hcase : i = 0 ∨ i = 1 ∨ i = 2 ∨ i = 3 ∨ i = 4 ∨ i = 5 ∨ i = 6 ∨ i = 7 ∨ i = 8 ∨ i = 9 ∨ i = 10 ∨ i = 11 ∨ i = 12 ∨ i = 13 ∨ i = 14 ∨ i = 15 ∨ i = 16 ∨ i = 17 ∨ i = 18 ∨ i = 19 ∨ i = 20 := by omega
  rcases hcase with rfl | rfl | rfl | rfl | rfl | rfl | rfl | rfl | rfl | rfl | rfl | rfl | rfl | rfl | rfl | rfl | rfl | rfl | rfl | rfl | rfl
  · have hop := opG_of (x := .load 42 (.tmp 2)) (d := some 30) (by kernel_rfl) ho
    obtain ⟨h1, h2⟩ := hop
    refine .inl ⟨free_not (guardG_of (by kernel_rfl) ho), ?_⟩
    exact meets_load h1 (fg_val 2 (.pointer (some ⟨w.heap.size, 0, none⟩)) hn (by kernel_rfl) rfl) (load_tskZ hG.1.box) (fg_put h2 rfl)
  · have hop := opG_of (x := .fieldAddr 47 (.tmp 8) 0) (d := some 31) (by kernel_rfl) ho
    obtain ⟨h1, h2⟩ := hop
    refine .inl ⟨free_not (guardG_of (by kernel_rfl) ho), ?_⟩
    exact meets_field h1 (fg_val 8 (.pointer (some ⟨gv, 0, none⟩)) hn (by kernel_rfl) rfl) (by kernel_rfl : (Instr.fieldAt 47 (.pointer (some ⟨gv, 0, none⟩)) 0).run Tryz.prog W = .ok (.pointer (some ⟨gv, 0, none⟩)) W) (fg_put h2 rfl)
  · have hop := opG_of (x := .load 45 (.tmp 31)) (d := some 32) (by kernel_rfl) ho
    obtain ⟨h1, h2⟩ := hop
    refine .inl ⟨free_not (guardG_of (by kernel_rfl) ho), ?_⟩
    exact meets_load h1 (fg_val 31 (.pointer (some ⟨gv, 0, none⟩)) hn (by kernel_rfl) rfl) (blk_ost hG.2) (fg_put h2 rfl)
  · have hop := opG_of (x := .call { callee := .value (.func 46), args := #[.tmp 30, .tmp 32], argTypes := #[42, 45] }) (d := some 33) (by kernel_rfl) ho
    obtain ⟨h1, h2⟩ := hop
    refine .inl ⟨free_not (guardG_of (by kernel_rfl) ho), ?_⟩
    refine meets_call (args := #[.agg #[bv, wv, pv, .int .i64 c.over, .int .i64 c.done, .int .i64 c.need, ov], .agg #[.int .i64 p0, .int .i64 p1, .int .i64 p2, .int .i64 p3, .int .u16 p4]]) h1 rfl rfl (by have e30 := (fg_val 30 (.agg #[bv, wv, pv, .int .i64 c.over, .int .i64 c.done, .int .i64 c.need, ov]) hn (by kernel_rfl) rfl); have e32 := (fg_val 32 (.agg #[.int .i64 p0, .int .i64 p1, .int .i64 p2, .int .i64 p3, .int .u16 p4]) hn (by kernel_rfl) rfl); simp [e30, e32]) Tryz.func46 (by kernel_rfl) (by kernel_rfl) fun d hd => ?_
    refine (kc W hG.1.bel).mono ?_
    rintro e W' ⟨rfl, hb⟩
    exact ⟨_, rfl, hb, (fg_put h2 rfl d hd)⟩
  · have hop := opG_of (x := .binOp .neq 36 (.tmp 33) (.const (.int .i64 0)) 36) (d := some 34) (by kernel_rfl) ho
    obtain ⟨h1, h2⟩ := hop
    refine .inl ⟨free_not (guardG_of (by kernel_rfl) ho), ?_⟩
    exact meets_value (v := .bool false) (by have e33 := (fg_val 33 (.int .i64 z) hn (by kernel_rfl) rfl); unfold execOp; simp only [h1, e33]; simp [go_sem, BigFrame.eval_const, hz]) (fg_put h2 rfl)
  · have hop := opG_of (x := .move (.tmp 34)) (d := some 35) (by kernel_rfl) ho
    obtain ⟨h1, h2⟩ := hop
    refine .inl ⟨free_not (guardG_of (by kernel_rfl) ho), ?_⟩
    exact meets_move (.inl h1) fun d hd => by rw [h2] at hd; obtain rfl := Option.some.inj hd; exact (fg_val 34 (.bool false) hn (by kernel_rfl) rfl)
  · have hop := opG_of (x := .move (.tmp 7)) (d := some 36) (by kernel_rfl) ho
    obtain ⟨h1, h2⟩ := hop
    refine .inl ⟨(guard_at (j := 5) (d := 35) (b := false) (b' := false) (by kernel_rfl : (arOps[6]?).map (·.guard) = some (some (5, false))) (by kernel_rfl) ho (fg_tmp 35 (.bool false) hn (by kernel_rfl) rfl)), ?_⟩
    exact meets_move (.inl h1) fun d hd => by rw [h2] at hd; obtain rfl := Option.some.inj hd; exact (fg_val 7 (.int .i64 (k : Int)) hn (by kernel_rfl) rfl)
  · have hop := opG_of (x := .binOp .gtr 3 (.tmp 36) (.const (.int .i64 0)) 3) (d := some 37) (by kernel_rfl) ho
    obtain ⟨h1, h2⟩ := hop
    refine .inl ⟨(guard_at (j := 5) (d := 35) (b := false) (b' := false) (by kernel_rfl : (arOps[7]?).map (·.guard) = some (some (5, false))) (by kernel_rfl) ho (fg_tmp 35 (.bool false) hn (by kernel_rfl) rfl)), ?_⟩
    exact meets_value (v := .bool true) (by have e36 := (fg_val 36 (.int .i64 (k : Int)) hn (by kernel_rfl) rfl); unfold execOp; simp only [h1, e36]; simp [go_sem, BigFrame.eval_const, hs3, hk]) (fg_put h2 rfl)
  · have hop := opG_of (x := .move (.tmp 37)) (d := some 38) (by kernel_rfl) ho
    obtain ⟨h1, h2⟩ := hop
    refine .inl ⟨(guard_at (j := 5) (d := 35) (b := false) (b' := false) (by kernel_rfl : (arOps[8]?).map (·.guard) = some (some (5, false))) (by kernel_rfl) ho (fg_tmp 35 (.bool false) hn (by kernel_rfl) rfl)), ?_⟩
    exact meets_move (.inl h1) fun d hd => by rw [h2] at hd; obtain rfl := Option.some.inj hd; exact (fg_val 37 (.bool true) hn (by kernel_rfl) rfl)
  · have hop := opG_of (x := .move (.tmp 1)) (d := some 39) (by kernel_rfl) ho
    obtain ⟨h1, h2⟩ := hop
    refine .inl ⟨(guard_at (j := 8) (d := 38) (b := true) (b' := true) (by kernel_rfl : (arOps[9]?).map (·.guard) = some (some (8, true))) (by kernel_rfl) ho (fg_tmp 38 (.bool true) hn (by kernel_rfl) rfl)), ?_⟩
    exact meets_move (.inl h1) fun d hd => by rw [h2] at hd; obtain rfl := Option.some.inj hd; exact (fg_val 1 (.slice (some ⟨b0, o0, none⟩) n0 c0) hn (by kernel_rfl) rfl)
  · have hop := opG_of (x := .move (.tmp 7)) (d := some 40) (by kernel_rfl) ho
    obtain ⟨h1, h2⟩ := hop
    refine .inl ⟨(guard_at (j := 8) (d := 38) (b := true) (b' := true) (by kernel_rfl : (arOps[10]?).map (·.guard) = some (some (8, true))) (by kernel_rfl) ho (fg_tmp 38 (.bool true) hn (by kernel_rfl) rfl)), ?_⟩
    exact meets_move (.inl h1) fun d hd => by rw [h2] at hd; obtain rfl := Option.some.inj hd; exact (fg_val 7 (.int .i64 (k : Int)) hn (by kernel_rfl) rfl)
  · have hop := opG_of (x := .binOp .sub 3 (.tmp 40) (.const (.int .i64 1)) 3) (d := some 41) (by kernel_rfl) ho
    obtain ⟨h1, h2⟩ := hop
    refine .inl ⟨(guard_at (j := 8) (d := 38) (b := true) (b' := true) (by kernel_rfl : (arOps[11]?).map (·.guard) = some (some (8, true))) (by kernel_rfl) ho (fg_tmp 38 (.bool true) hn (by kernel_rfl) rfl)), ?_⟩
    exact meets_value (v := .int .i64 ((k - 1 : Nat) : Int)) (by have e40 := (fg_val 40 (.int .i64 (k : Int)) hn (by kernel_rfl) rfl); unfold execOp; simp only [h1, e40]; simp [go_sem, BigFrame.eval_const, hs1]) (fg_put h2 rfl)
  · have hop := opG_of (x := .indexAddr 49 (.tmp 39) (.tmp 41)) (d := some 42) (by kernel_rfl) ho
    obtain ⟨h1, h2⟩ := hop
    refine .inl ⟨(guard_at (j := 8) (d := 38) (b := true) (b' := true) (by kernel_rfl : (arOps[12]?).map (·.guard) = some (some (8, true))) (by kernel_rfl) ho (fg_tmp 38 (.bool true) hn (by kernel_rfl) rfl)), ?_⟩
    exact meets_value (v := .pointer (some ⟨b0, o0 + (k - 1) * 6, none⟩)) (by have e39 := (fg_val 39 (.slice (some ⟨b0, o0, none⟩) n0 c0) hn (by kernel_rfl) rfl); have e41 := (fg_val 41 (.int .i64 ((k - 1 : Nat) : Int)) hn (by kernel_rfl) rfl); unfold execOp; simp only [h1, e39, e41]; simp [go_sem, BigFrame.eval_const, hs2]) (fg_put h2 rfl)
  · have hop := opG_of (x := .fieldAddr 47 (.tmp 42) 0) (d := some 43) (by kernel_rfl) ho
    obtain ⟨h1, h2⟩ := hop
    refine .inl ⟨(guard_at (j := 8) (d := 38) (b := true) (b' := true) (by kernel_rfl : (arOps[13]?).map (·.guard) = some (some (8, true))) (by kernel_rfl) ho (fg_tmp 38 (.bool true) hn (by kernel_rfl) rfl)), ?_⟩
    exact meets_field h1 (fg_val 42 (.pointer (some ⟨b0, o0 + (k - 1) * 6, none⟩)) hn (by kernel_rfl) rfl) (by kernel_rfl : (Instr.fieldAt 47 (.pointer (some ⟨b0, o0 + (k - 1) * 6, none⟩)) 0).run Tryz.prog W = .ok (.pointer (some ⟨b0, o0 + (k - 1) * 6, none⟩)) W) (fg_put h2 rfl)
  · have hop := opG_of (x := .load 45 (.tmp 43)) (d := some 44) (by kernel_rfl) ho
    obtain ⟨h1, h2⟩ := hop
    refine .inl ⟨(guard_at (j := 8) (d := 38) (b := true) (b' := true) (by kernel_rfl : (arOps[14]?).map (·.guard) = some (some (8, true))) (by kernel_rfl) ho (fg_tmp 38 (.bool true) hn (by kernel_rfl) rfl)), ?_⟩
    exact meets_load h1 (fg_val 43 (.pointer (some ⟨b0, o0 + (k - 1) * 6, none⟩)) hn (by kernel_rfl) rfl) (six_ost (six_below hG.1.bel hb0 hprev)) (fg_put h2 rfl)
  · have hop := opG_of (x := .fieldAddr 47 (.tmp 8) 0) (d := some 45) (by kernel_rfl) ho
    obtain ⟨h1, h2⟩ := hop
    refine .inl ⟨(guard_at (j := 8) (d := 38) (b := true) (b' := true) (by kernel_rfl : (arOps[15]?).map (·.guard) = some (some (8, true))) (by kernel_rfl) ho (fg_tmp 38 (.bool true) hn (by kernel_rfl) rfl)), ?_⟩
    exact meets_field h1 (fg_val 8 (.pointer (some ⟨gv, 0, none⟩)) hn (by kernel_rfl) rfl) (by kernel_rfl : (Instr.fieldAt 47 (.pointer (some ⟨gv, 0, none⟩)) 0).run Tryz.prog W = .ok (.pointer (some ⟨gv, 0, none⟩)) W) (fg_put h2 rfl)
  · have hop := opG_of (x := .load 45 (.tmp 45)) (d := some 46) (by kernel_rfl) ho
    obtain ⟨h1, h2⟩ := hop
    refine .inl ⟨(guard_at (j := 8) (d := 38) (b := true) (b' := true) (by kernel_rfl : (arOps[16]?).map (·.guard) = some (some (8, true))) (by kernel_rfl) ho (fg_tmp 38 (.bool true) hn (by kernel_rfl) rfl)), ?_⟩
    exact meets_load h1 (fg_val 45 (.pointer (some ⟨gv, 0, none⟩)) hn (by kernel_rfl) rfl) (blk_ost hG.2) (fg_put h2 rfl)
  · have hop := opG_of (x := .call { callee := .value (.func 47), args := #[.tmp 44, .tmp 46], argTypes := #[45, 45] }) (d := some 47) (by kernel_rfl) ho
    obtain ⟨h1, h2⟩ := hop
    refine .inl ⟨(guard_at (j := 8) (d := 38) (b := true) (b' := true) (by kernel_rfl : (arOps[17]?).map (·.guard) = some (some (8, true))) (by kernel_rfl) ho (fg_tmp 38 (.bool true) hn (by kernel_rfl) rfl)), ?_⟩
    refine meets_call (args := #[.agg #[.int .i64 r0, .int .i64 r1, .int .i64 r2, .int .i64 r3, .int .u16 r4], .agg #[.int .i64 p0, .int .i64 p1, .int .i64 p2, .int .i64 p3, .int .u16 p4]]) h1 rfl rfl (by have e44 := (fg_val 44 (.agg #[.int .i64 r0, .int .i64 r1, .int .i64 r2, .int .i64 r3, .int .u16 r4]) hn (by kernel_rfl) rfl); have e46 := (fg_val 46 (.agg #[.int .i64 p0, .int .i64 p1, .int .i64 p2, .int .i64 p3, .int .u16 p4]) hn (by kernel_rfl) rfl); simp [e44, e46]) Tryz.func47 (by kernel_rfl) (by kernel_rfl) fun d hd => ?_
    refine (kq W).mono ?_
    rintro e W' ⟨rfl, hb⟩
    exact ⟨_, rfl, hb, (fg_put h2 rfl d hd)⟩
  · have hop := opG_of (x := .unOp .not 4 (.tmp 47)) (d := some 48) (by kernel_rfl) ho
    obtain ⟨h1, h2⟩ := hop
    refine .inl ⟨(guard_at (j := 8) (d := 38) (b := true) (b' := true) (by kernel_rfl : (arOps[18]?).map (·.guard) = some (some (8, true))) (by kernel_rfl) ho (fg_tmp 38 (.bool true) hn (by kernel_rfl) rfl)), ?_⟩
    exact meets_value (v := .bool true) (by have e47 := (fg_val 47 (.bool false) hn (by kernel_rfl) rfl); unfold execOp; simp only [h1, e47]; simp [go_sem, BigFrame.eval_const]) (fg_put h2 rfl)
  · have hop := opG_of (x := .pick (.tmp 38) (.tmp 48) (.const (.bool false))) (d := some 49) (by kernel_rfl) ho
    obtain ⟨h1, h2⟩ := hop
    refine .inl ⟨(guard_at (j := 5) (d := 35) (b := false) (b' := false) (by kernel_rfl : (arOps[19]?).map (·.guard) = some (some (5, false))) (by kernel_rfl) ho (fg_tmp 35 (.bool false) hn (by kernel_rfl) rfl)), ?_⟩
    exact meets_value (v := .bool true) (by have e38 := (fg_val 38 (.bool true) hn (by kernel_rfl) rfl); have e48 := (fg_val 48 (.bool true) hn (by kernel_rfl) rfl); unfold execOp; simp only [h1, e38, e48]; simp [go_sem, BigFrame.eval_const]) (fg_put h2 rfl)
  · have hop := opG_of (x := .pick (.tmp 35) (.const (.bool true)) (.tmp 49)) (d := some 50) (by kernel_rfl) ho
    obtain ⟨h1, h2⟩ := hop
    refine .inl ⟨free_not (guardG_of (by kernel_rfl) ho), ?_⟩
    exact meets_value (v := .bool true) (by have e35 := (fg_val 35 (.bool false) hn (by kernel_rfl) rfl); have e49 := (fg_val 49 (.bool true) hn (by kernel_rfl) rfl); unfold execOp; simp only [h1, e35, e49]; simp [go_sem, BigFrame.eval_const]) (fg_put h2 rfl)
def arTabD (c : Chs) (bv wv pv ov : Value) (p0 p1 p2 p3 p4 vv z : Int) (g gv k : Nat) (r0 r1 r2 r3 r4 rv : Int) (b0 o0 n0 c0 : Nat) : List (Nat × Value) := [(1, .slice (some ⟨b0, o0, none⟩) n0 c0), (2, .pointer (some ⟨g, 0, none⟩)), (7, .int .i64 (k : Int)), (8, .pointer (some ⟨gv, 0, none⟩)), (30, .agg #[bv, wv, pv, .int .i64 c.over, .int .i64 c.done, .int .i64 c.need, ov]), (31, .pointer (some ⟨gv, 0, none⟩)), (32, .agg #[.int .i64 p0, .int .i64 p1, .int .i64 p2, .int .i64 p3, .int .u16 p4]), (33, .int .i64 z), (34, .bool false), (35, .bool false), (36, .int .i64 (k : Int)), (37, .bool true), (38, .bool true), (39, .slice (some ⟨b0, o0, none⟩) n0 c0), (40, .int .i64 (k : Int)), (41, .int .i64 ((k - 1 : Nat) : Int)), (42, .pointer (some ⟨b0, o0 + (k - 1) * 6, none⟩)), (43, .pointer (some ⟨b0, o0 + (k - 1) * 6, none⟩)), (44, .agg #[.int .i64 r0, .int .i64 r1, .int .i64 r2, .int .i64 r3, .int .u16 r4]), (45, .pointer (some ⟨gv, 0, none⟩)), (46, .agg #[.int .i64 p0, .int .i64 p1, .int .i64 p2, .int .i64 p3, .int .u16 p4]), (47, .bool true), (48, .bool false), (49, .bool false), (50, .bool false)]
def arMaskD (c : Chs) (bv wv pv ov : Value) (p0 p1 p2 p3 p4 vv z : Int) (g gv k : Nat) (r0 r1 r2 r3 r4 rv : Int) (b0 o0 n0 c0 : Nat) : List (Option Value) := none :: none :: none :: none :: none :: none :: none :: none :: none :: none :: none :: none :: none :: none :: none :: none :: none :: none :: none :: none :: none :: none :: none :: none :: none :: none :: none :: none :: none :: none :: some (.agg #[bv, wv, pv, .int .i64 c.over, .int .i64 c.done, .int .i64 c.need, ov]) :: some (.pointer (some ⟨gv, 0, none⟩)) :: some (.agg #[.int .i64 p0, .int .i64 p1, .int .i64 p2, .int .i64 p3, .int .u16 p4]) :: some (.int .i64 z) :: some (.bool false) :: some (.bool false) :: some (.int .i64 (k : Int)) :: some (.bool true) :: some (.bool true) :: some (.slice (some ⟨b0, o0, none⟩) n0 c0) :: some (.int .i64 (k : Int)) :: some (.int .i64 ((k - 1 : Nat) : Int)) :: some (.pointer (some ⟨b0, o0 + (k - 1) * 6, none⟩)) :: some (.pointer (some ⟨b0, o0 + (k - 1) * 6, none⟩)) :: some (.agg #[.int .i64 r0, .int .i64 r1, .int .i64 r2, .int .i64 r3, .int .u16 r4]) :: some (.pointer (some ⟨gv, 0, none⟩)) :: some (.agg #[.int .i64 p0, .int .i64 p1, .int .i64 p2, .int .i64 p3, .int .u16 p4]) :: some (.bool true) :: some (.bool false) :: some (.bool false) :: some (.bool false) :: none :: none :: none :: none :: none :: none :: none :: none :: none :: none :: none :: none :: none :: none :: none :: none :: none :: none :: none :: none :: none :: none :: none :: none :: none :: none :: none :: none :: none :: none :: none :: none :: none :: none :: none :: none :: none :: none :: none :: none :: none :: none :: none :: none :: none :: none :: none :: none :: none :: none :: none :: none :: none :: none :: none :: none :: none :: []
set_option maxRecDepth 100000 in
set_option maxHeartbeats 4000000 in
theorem ar_freeD (c : Chs) (bv wv pv ov : Value) (p0 p1 p2 p3 p4 vv z : Int) (gv k : Nat) (r0 r1 r2 r3 r4 rv : Int) (b0 o0 n0 c0 : Nat) (w : World) (kc : ∀ W, Below w.heap.size w W → Calls Tryz.prog 46 #[.agg #[bv, wv, pv, .int .i64 c.over, .int .i64 c.done, .int .i64 c.need, ov], .agg #[.int .i64 p0, .int .i64 p1, .int .i64 p2, .int .i64 p3, .int .u16 p4]] W fun e W' => e = .returned (.int .i64 z) ∧ Below W.heap.size W W') (kq : ∀ W, Calls Tryz.prog 47 #[.agg #[.int .i64 r0, .int .i64 r1, .int .i64 r2, .int .i64 r3, .int .u16 r4], .agg #[.int .i64 p0, .int .i64 p1, .int .i64 p2, .int .i64 p3, .int .u16 p4]] W fun e W' => e = .returned (.bool true) ∧ Below W.heap.size W W') (hz : z = 0) (hk : 0 < k) (hkn : k ≤ n0) (hn0 : n0 ≤ 1000000000000) (hb0 : b0 < w.heap.size) (hprev : w.cell? ⟨b0, o0 + (k - 1) * 6, none⟩ = some (.int .i64 r0) ∧ w.cell? ⟨b0, o0 + (k - 1) * 6 + 1, none⟩ = some (.int .i64 r1) ∧ w.cell? ⟨b0, o0 + (k - 1) * 6 + 2, none⟩ = some (.int .i64 r2) ∧ w.cell? ⟨b0, o0 + (k - 1) * 6 + 3, none⟩ = some (.int .i64 r3) ∧ w.cell? ⟨b0, o0 + (k - 1) * 6 + 4, none⟩ = some (.int .u16 r4) ∧ w.cell? ⟨b0, o0 + (k - 1) * 6 + 5, none⟩ = some (.int .i64 rv))  :
    FreeG Tryz.prog arOps (tabV (arTabD c bv wv pv ov p0 p1 p2 p3 p4 vv z w.heap.size gv k r0 r1 r2 r3 r4 rv b0 o0 n0 c0)) (fun W => AcR w W c bv wv pv ov (.slice (some ⟨b0, o0, none⟩) n0 c0) ∧ Blk W gv 47 #[.int .i64 p0, .int .i64 p1, .int .i64 p2, .int .i64 p3, .int .u16 p4, .int .i64 vv]) (fun i => arNeeds.getD i []) [1, 2, 7, 8] 108 := by
  refine ⟨backG_of (by kernel_rfl), dstG_of (by kernel_rfl), needG_of (by kernel_rfl), fun d w1 w2 v h _ => h, fun W W' h hb => ⟨h.1.below hb, h.2.below hb h.2.lt⟩, ?_⟩
  intro i o ho a W hG hn
  have hlt : i < 21 := by rw [← ar_size]; exact (Array.getElem?_eq_some_iff.1 ho).1
  have hs1 : IntKind.i64.wrap ((k : Int) - 1) = ((k - 1 : Nat) : Int) := by rw [IntWalk.i64_in _ (by omega)]; omega
  have hs2 : k - 1 < n0 := by omega
  have hs3 : (0 : Int) < (k : Int) := by omega
  have hcase : i = 0 ∨ i = 1 ∨ i = 2 ∨ i = 3 ∨ i = 4 ∨ i = 5 ∨ i = 6 ∨ i = 7 ∨ i = 8 ∨ i = 9 ∨ i = 10 ∨ i = 11 ∨ i = 12 ∨ i = 13 ∨ i = 14 ∨ i = 15 ∨ i = 16 ∨ i = 17 ∨ i = 18 ∨ i = 19 ∨ i = 20 := by omega
  rcases hcase with rfl | rfl | rfl | rfl | rfl | rfl | rfl | rfl | rfl | rfl | rfl | rfl | rfl | rfl | rfl | rfl | rfl | rfl | rfl | rfl | rfl
  · have hop := opG_of (x := .load 42 (.tmp 2)) (d := some 30) (by kernel_rfl) ho
    obtain ⟨h1, h2⟩ := hop
    refine .inl ⟨free_not (guardG_of (by kernel_rfl) ho), ?_⟩
    exact meets_load h1 (fg_val 2 (.pointer (some ⟨w.heap.size, 0, none⟩)) hn (by kernel_rfl) rfl) (load_tskZ hG.1.box) (fg_put h2 rfl)
  · have hop := opG_of (x := .fieldAddr 47 (.tmp 8) 0) (d := some 31) (by kernel_rfl) ho
    obtain ⟨h1, h2⟩ := hop
    refine .inl ⟨free_not (guardG_of (by kernel_rfl) ho), ?_⟩
    exact meets_field h1 (fg_val 8 (.pointer (some ⟨gv, 0, none⟩)) hn (by kernel_rfl) rfl) (by kernel_rfl : (Instr.fieldAt 47 (.pointer (some ⟨gv, 0, none⟩)) 0).run Tryz.prog W = .ok (.pointer (some ⟨gv, 0, none⟩)) W) (fg_put h2 rfl)
  · have hop := opG_of (x := .load 45 (.tmp 31)) (d := some 32) (by kernel_rfl) ho
    obtain ⟨h1, h2⟩ := hop
    refine .inl ⟨free_not (guardG_of (by kernel_rfl) ho), ?_⟩
    exact meets_load h1 (fg_val 31 (.pointer (some ⟨gv, 0, none⟩)) hn (by kernel_rfl) rfl) (blk_ost hG.2) (fg_put h2 rfl)
  · have hop := opG_of (x := .call { callee := .value (.func 46), args := #[.tmp 30, .tmp 32], argTypes := #[42, 45] }) (d := some 33) (by kernel_rfl) ho
    obtain ⟨h1, h2⟩ := hop
    refine .inl ⟨free_not (guardG_of (by kernel_rfl) ho), ?_⟩
    refine meets_call (args := #[.agg #[bv, wv, pv, .int .i64 c.over, .int .i64 c.done, .int .i64 c.need, ov], .agg #[.int .i64 p0, .int .i64 p1, .int .i64 p2, .int .i64 p3, .int .u16 p4]]) h1 rfl rfl (by have e30 := (fg_val 30 (.agg #[bv, wv, pv, .int .i64 c.over, .int .i64 c.done, .int .i64 c.need, ov]) hn (by kernel_rfl) rfl); have e32 := (fg_val 32 (.agg #[.int .i64 p0, .int .i64 p1, .int .i64 p2, .int .i64 p3, .int .u16 p4]) hn (by kernel_rfl) rfl); simp [e30, e32]) Tryz.func46 (by kernel_rfl) (by kernel_rfl) fun d hd => ?_
    refine (kc W hG.1.bel).mono ?_
    rintro e W' ⟨rfl, hb⟩
    exact ⟨_, rfl, hb, (fg_put h2 rfl d hd)⟩
  · have hop := opG_of (x := .binOp .neq 36 (.tmp 33) (.const (.int .i64 0)) 36) (d := some 34) (by kernel_rfl) ho
    obtain ⟨h1, h2⟩ := hop
    refine .inl ⟨free_not (guardG_of (by kernel_rfl) ho), ?_⟩
    exact meets_value (v := .bool false) (by have e33 := (fg_val 33 (.int .i64 z) hn (by kernel_rfl) rfl); unfold execOp; simp only [h1, e33]; simp [go_sem, BigFrame.eval_const, hz]) (fg_put h2 rfl)
  · have hop := opG_of (x := .move (.tmp 34)) (d := some 35) (by kernel_rfl) ho
    obtain ⟨h1, h2⟩ := hop
    refine .inl ⟨free_not (guardG_of (by kernel_rfl) ho), ?_⟩
    exact meets_move (.inl h1) fun d hd => by rw [h2] at hd; obtain rfl := Option.some.inj hd; exact (fg_val 34 (.bool false) hn (by kernel_rfl) rfl)
  · have hop := opG_of (x := .move (.tmp 7)) (d := some 36) (by kernel_rfl) ho
    obtain ⟨h1, h2⟩ := hop
    refine .inl ⟨(guard_at (j := 5) (d := 35) (b := false) (b' := false) (by kernel_rfl : (arOps[6]?).map (·.guard) = some (some (5, false))) (by kernel_rfl) ho (fg_tmp 35 (.bool false) hn (by kernel_rfl) rfl)), ?_⟩
    exact meets_move (.inl h1) fun d hd => by rw [h2] at hd; obtain rfl := Option.some.inj hd; exact (fg_val 7 (.int .i64 (k : Int)) hn (by kernel_rfl) rfl)
  · have hop := opG_of (x := .binOp .gtr 3 (.tmp 36) (.const (.int .i64 0)) 3) (d := some 37) (by kernel_rfl) ho
    obtain ⟨h1, h2⟩ := hop
    refine .inl ⟨(guard_at (j := 5) (d := 35) (b := false) (b' := false) (by kernel_rfl : (arOps[7]?).map (·.guard) = some (some (5, false))) (by kernel_rfl) ho (fg_tmp 35 (.bool false) hn (by kernel_rfl) rfl)), ?_⟩
    exact meets_value (v := .bool true) (by have e36 := (fg_val 36 (.int .i64 (k : Int)) hn (by kernel_rfl) rfl); unfold execOp; simp only [h1, e36]; simp [go_sem, BigFrame.eval_const, hs3, hk]) (fg_put h2 rfl)
  · have hop := opG_of (x := .move (.tmp 37)) (d := some 38) (by kernel_rfl) ho
    obtain ⟨h1, h2⟩ := hop
    refine .inl ⟨(guard_at (j := 5) (d := 35) (b := false) (b' := false) (by kernel_rfl : (arOps[8]?).map (·.guard) = some (some (5, false))) (by kernel_rfl) ho (fg_tmp 35 (.bool false) hn (by kernel_rfl) rfl)), ?_⟩
    exact meets_move (.inl h1) fun d hd => by rw [h2] at hd; obtain rfl := Option.some.inj hd; exact (fg_val 37 (.bool true) hn (by kernel_rfl) rfl)
  · have hop := opG_of (x := .move (.tmp 1)) (d := some 39) (by kernel_rfl) ho
    obtain ⟨h1, h2⟩ := hop
    refine .inl ⟨(guard_at (j := 8) (d := 38) (b := true) (b' := true) (by kernel_rfl : (arOps[9]?).map (·.guard) = some (some (8, true))) (by kernel_rfl) ho (fg_tmp 38 (.bool true) hn (by kernel_rfl) rfl)), ?_⟩
    exact meets_move (.inl h1) fun d hd => by rw [h2] at hd; obtain rfl := Option.some.inj hd; exact (fg_val 1 (.slice (some ⟨b0, o0, none⟩) n0 c0) hn (by kernel_rfl) rfl)
  · have hop := opG_of (x := .move (.tmp 7)) (d := some 40) (by kernel_rfl) ho
    obtain ⟨h1, h2⟩ := hop
    refine .inl ⟨(guard_at (j := 8) (d := 38) (b := true) (b' := true) (by kernel_rfl : (arOps[10]?).map (·.guard) = some (some (8, true))) (by kernel_rfl) ho (fg_tmp 38 (.bool true) hn (by kernel_rfl) rfl)), ?_⟩
    exact meets_move (.inl h1) fun d hd => by rw [h2] at hd; obtain rfl := Option.some.inj hd; exact (fg_val 7 (.int .i64 (k : Int)) hn (by kernel_rfl) rfl)
  · have hop := opG_of (x := .binOp .sub 3 (.tmp 40) (.const (.int .i64 1)) 3) (d := some 41) (by kernel_rfl) ho
    obtain ⟨h1, h2⟩ := hop
    refine .inl ⟨(guard_at (j := 8) (d := 38) (b := true) (b' := true) (by kernel_rfl : (arOps[11]?).map (·.guard) = some (some (8, true))) (by kernel_rfl) ho (fg_tmp 38 (.bool true) hn (by kernel_rfl) rfl)), ?_⟩
    exact meets_value (v := .int .i64 ((k - 1 : Nat) : Int)) (by have e40 := (fg_val 40 (.int .i64 (k : Int)) hn (by kernel_rfl) rfl); unfold execOp; simp only [h1, e40]; simp [go_sem, BigFrame.eval_const, hs1]) (fg_put h2 rfl)
  · have hop := opG_of (x := .indexAddr 49 (.tmp 39) (.tmp 41)) (d := some 42) (by kernel_rfl) ho
    obtain ⟨h1, h2⟩ := hop
    refine .inl ⟨(guard_at (j := 8) (d := 38) (b := true) (b' := true) (by kernel_rfl : (arOps[12]?).map (·.guard) = some (some (8, true))) (by kernel_rfl) ho (fg_tmp 38 (.bool true) hn (by kernel_rfl) rfl)), ?_⟩
    exact meets_value (v := .pointer (some ⟨b0, o0 + (k - 1) * 6, none⟩)) (by have e39 := (fg_val 39 (.slice (some ⟨b0, o0, none⟩) n0 c0) hn (by kernel_rfl) rfl); have e41 := (fg_val 41 (.int .i64 ((k - 1 : Nat) : Int)) hn (by kernel_rfl) rfl); unfold execOp; simp only [h1, e39, e41]; simp [go_sem, BigFrame.eval_const, hs2]) (fg_put h2 rfl)
  · have hop := opG_of (x := .fieldAddr 47 (.tmp 42) 0) (d := some 43) (by kernel_rfl) ho
    obtain ⟨h1, h2⟩ := hop
    refine .inl ⟨(guard_at (j := 8) (d := 38) (b := true) (b' := true) (by kernel_rfl : (arOps[13]?).map (·.guard) = some (some (8, true))) (by kernel_rfl) ho (fg_tmp 38 (.bool true) hn (by kernel_rfl) rfl)), ?_⟩
    exact meets_field h1 (fg_val 42 (.pointer (some ⟨b0, o0 + (k - 1) * 6, none⟩)) hn (by kernel_rfl) rfl) (by kernel_rfl : (Instr.fieldAt 47 (.pointer (some ⟨b0, o0 + (k - 1) * 6, none⟩)) 0).run Tryz.prog W = .ok (.pointer (some ⟨b0, o0 + (k - 1) * 6, none⟩)) W) (fg_put h2 rfl)
  · have hop := opG_of (x := .load 45 (.tmp 43)) (d := some 44) (by kernel_rfl) ho
    obtain ⟨h1, h2⟩ := hop
    refine .inl ⟨(guard_at (j := 8) (d := 38) (b := true) (b' := true) (by kernel_rfl : (arOps[14]?).map (·.guard) = some (some (8, true))) (by kernel_rfl) ho (fg_tmp 38 (.bool true) hn (by kernel_rfl) rfl)), ?_⟩
    exact meets_load h1 (fg_val 43 (.pointer (some ⟨b0, o0 + (k - 1) * 6, none⟩)) hn (by kernel_rfl) rfl) (six_ost (six_below hG.1.bel hb0 hprev)) (fg_put h2 rfl)
  · have hop := opG_of (x := .fieldAddr 47 (.tmp 8) 0) (d := some 45) (by kernel_rfl) ho
    obtain ⟨h1, h2⟩ := hop
    refine .inl ⟨(guard_at (j := 8) (d := 38) (b := true) (b' := true) (by kernel_rfl : (arOps[15]?).map (·.guard) = some (some (8, true))) (by kernel_rfl) ho (fg_tmp 38 (.bool true) hn (by kernel_rfl) rfl)), ?_⟩
    exact meets_field h1 (fg_val 8 (.pointer (some ⟨gv, 0, none⟩)) hn (by kernel_rfl) rfl) (by kernel_rfl : (Instr.fieldAt 47 (.pointer (some ⟨gv, 0, none⟩)) 0).run Tryz.prog W = .ok (.pointer (some ⟨gv, 0, none⟩)) W) (fg_put h2 rfl)
  · have hop := opG_of (x := .load 45 (.tmp 45)) (d := some 46) (by kernel_rfl) ho
    obtain ⟨h1, h2⟩ := hop
    refine .inl ⟨(guard_at (j := 8) (d := 38) (b := true) (b' := true) (by kernel_rfl : (arOps[16]?).map (·.guard) = some (some (8, true))) (by kernel_rfl) ho (fg_tmp 38 (.bool true) hn (by kernel_rfl) rfl)), ?_⟩
    exact meets_load h1 (fg_val 45 (.pointer (some ⟨gv, 0, none⟩)) hn (by kernel_rfl) rfl) (blk_ost hG.2) (fg_put h2 rfl)
  · have hop := opG_of (x := .call { callee := .value (.func 47), args := #[.tmp 44, .tmp 46], argTypes := #[45, 45] }) (d := some 47) (by kernel_rfl) ho
    obtain ⟨h1, h2⟩ := hop
    refine .inl ⟨(guard_at (j := 8) (d := 38) (b := true) (b' := true) (by kernel_rfl : (arOps[17]?).map (·.guard) = some (some (8, true))) (by kernel_rfl) ho (fg_tmp 38 (.bool true) hn (by kernel_rfl) rfl)), ?_⟩
    refine meets_call (args := #[.agg #[.int .i64 r0, .int .i64 r1, .int .i64 r2, .int .i64 r3, .int .u16 r4], .agg #[.int .i64 p0, .int .i64 p1, .int .i64 p2, .int .i64 p3, .int .u16 p4]]) h1 rfl rfl (by have e44 := (fg_val 44 (.agg #[.int .i64 r0, .int .i64 r1, .int .i64 r2, .int .i64 r3, .int .u16 r4]) hn (by kernel_rfl) rfl); have e46 := (fg_val 46 (.agg #[.int .i64 p0, .int .i64 p1, .int .i64 p2, .int .i64 p3, .int .u16 p4]) hn (by kernel_rfl) rfl); simp [e44, e46]) Tryz.func47 (by kernel_rfl) (by kernel_rfl) fun d hd => ?_
    refine (kq W).mono ?_
    rintro e W' ⟨rfl, hb⟩
    exact ⟨_, rfl, hb, (fg_put h2 rfl d hd)⟩
  · have hop := opG_of (x := .unOp .not 4 (.tmp 47)) (d := some 48) (by kernel_rfl) ho
    obtain ⟨h1, h2⟩ := hop
    refine .inl ⟨(guard_at (j := 8) (d := 38) (b := true) (b' := true) (by kernel_rfl : (arOps[18]?).map (·.guard) = some (some (8, true))) (by kernel_rfl) ho (fg_tmp 38 (.bool true) hn (by kernel_rfl) rfl)), ?_⟩
    exact meets_value (v := .bool false) (by have e47 := (fg_val 47 (.bool true) hn (by kernel_rfl) rfl); unfold execOp; simp only [h1, e47]; simp [go_sem, BigFrame.eval_const]) (fg_put h2 rfl)
  · have hop := opG_of (x := .pick (.tmp 38) (.tmp 48) (.const (.bool false))) (d := some 49) (by kernel_rfl) ho
    obtain ⟨h1, h2⟩ := hop
    refine .inl ⟨(guard_at (j := 5) (d := 35) (b := false) (b' := false) (by kernel_rfl : (arOps[19]?).map (·.guard) = some (some (5, false))) (by kernel_rfl) ho (fg_tmp 35 (.bool false) hn (by kernel_rfl) rfl)), ?_⟩
    exact meets_value (v := .bool false) (by have e38 := (fg_val 38 (.bool true) hn (by kernel_rfl) rfl); have e48 := (fg_val 48 (.bool false) hn (by kernel_rfl) rfl); unfold execOp; simp only [h1, e38, e48]; simp [go_sem, BigFrame.eval_const]) (fg_put h2 rfl)
  · have hop := opG_of (x := .pick (.tmp 35) (.const (.bool true)) (.tmp 49)) (d := some 50) (by kernel_rfl) ho
    obtain ⟨h1, h2⟩ := hop
    refine .inl ⟨free_not (guardG_of (by kernel_rfl) ho), ?_⟩
    exact meets_value (v := .bool false) (by have e35 := (fg_val 35 (.bool false) hn (by kernel_rfl) rfl); have e49 := (fg_val 49 (.bool false) hn (by kernel_rfl) rfl); unfold execOp; simp only [h1, e35, e49]; simp [go_sem, BigFrame.eval_const]) (fg_put h2 rfl)
set_option maxRecDepth 100000 in
set_option maxHeartbeats 8000000 in
theorem r45_Accept (c : Chs) (bv wv pv ov v : Value) (l : List Ove) (w : World) (h : ChAt w (· < w.heap.size) bv wv pv ov c) (hl : Sl 6 elOv w (· < w.heap.size) v l) (hn : l.length ≤ 1000000000000) (hw : TabW l) :
    Calls Tryz.prog 16 #[chV c bv wv pv ov, v] w fun e w' => e = .returned (.int .i64 (acceptS c l)) ∧ Below w.heap.size w w' := by
  have k1 := fun W (hW : Below w.heap.size w W) => r45_Check c _ _ _ _ W (h.below hW)
  simp only [checkO_ref] at k1
  have kchk0 := fun (ht : OkT c) (k : Nat) (hk : k < l.length) W (hW : Below w.heap.size w W) => r45_checkState c l[k].st _ _ _ _ W (h.below hW) ht (hw _ (List.getElem_mem hk)).1
  have kop0 := fun (ht : OkT c) (a b : Nat) (ha : a < c.ord.length) (hb : b < c.ord.length) W (hW : Below w.heap.size w W) => r45_opening c a b _ _ _ _ W (h.below hW) ht ha hb
  have kva0 := fun (ht : OkT c) (x : Ost) (hx : OkOs c x) (b N : Nat) (D : DataW Unit) (hml : MapL D (lookL l)) W (hW : AcM w W b N D c bv wv pv ov v) => r45_sumL c ht x hx bv wv pv ov b N D W (h.below hW.r.bel) hW.vals (lookL l) hml
  have kkey0 : ∀ (ht : OkT c) (a b : Nat) (ha : a < c.ord.length) (hb : b < c.ord.length), keyOf Tryz.prog 45 (osV (openO c a b)) = some (keyOs (openO c a b)) := fun ht a b ha hb => okey_of (openO_smol ht ha hb)
  have kent0 : ∀ (ht : OkT c) (k : Nat) (hk : k < l.length) (h1 : stateO c l[k].st = 0), keyOf Tryz.prog 45 (osV l[k].st) = some (keyOs l[k].st) := fun ht k hk h1 => okey_of (((stateO_ok (hw _ (List.getElem_mem hk)).1).1 h1).smol ht)
  unfold chV at k1 kchk0 kop0 kva0 ⊢
  obtain ⟨A, ca, rfl, hc1, hc2⟩ := h.mdl.bat.shape
  obtain ⟨A1, ca1, rfl, hc3, hc4⟩ := h.mdl.bow.shape
  obtain ⟨A2, ca2, rfl, hc5, hc6⟩ := h.bow.shape
  obtain ⟨A3, ca3, rfl, hc7, hc8⟩ := h.ord.shape
  obtain ⟨A4, ca4, rfl, hc9, hc10⟩ := hl.shape
  have HX := Lib.hid (AcR.new w c (.slice A c.mdl.bats.length ca) (.slice A1 c.mdl.bows.length ca1) (.slice A2 c.bows.length ca2) (.slice A3 c.ord.length ca3) (.slice A4 l.length ca4))
  have HL := Lib.hid hl
  obtain ⟨z, hz⟩ : ∃ z, z = acceptS c l := ⟨_, rfl⟩
  rw [← hz]
  obtain ⟨u, hu⟩ : ∃ u, u = checkO c := ⟨_, rfl⟩
  rw [← hu] at k1
  have K1 := Lib.hid k1
  have tok0 : True := trivial
  by_cases h0 : u = 0
  case neg =>
    have HZ := Lib.hid (hz.trans ((accept_bad (l := l) (by rw [← hu]; exact h0)).trans hu.symm))
    have eu : (u != 0) = true := by simp [h0]
    clear kchk0 kop0 kva0 kkey0 kent0 hz h0 k1 hu h hl hw
    go_enter Tryz.func16, Tryz.ntmps16
    go_wp2_with (clear tok0; go_at_call 35; refine (K1.out _ HX.out.bel).mono ?_; rintro e w2 ⟨rfl, hb2⟩; have HX2 := Lib.hid (HX.out.below hb2); clear hb2; have tok1 : True := trivial)
    go_ret
    exact ⟨ret_i HZ.out.symm, HX2.out.bel⟩
  have hc0 : checkO c = 0 := by omega
  have ht := okT_of hc0
  have eu : (u != 0) = false := by simp [h0]
  have hnp := ht.np
  have HF4 := Lib.hid (fun hf : ¬ FormO c l => hz.trans (accept_form hc0 hf))
  have HP6 := Lib.hid (fun (hf : FormO c l) (hp : ¬ PairsO c (lookL l)) => hz.trans (accept_pair hc0 hf hp))
  have HEN := Lib.hid (fun (hf : FormO c l) (hp : PairsO c (lookL l)) => hz.trans (accept_ent hc0 hf hp))
  have KCHK := Lib.hid (kchk0 ht)
  have KOP := Lib.hid (kop0 ht)
  have KVA0 := Lib.hid (kva0 ht)
  have KKEY := Lib.hid (kkey0 ht)
  have KENT := Lib.hid (kent0 ht)
  have HMP := Lib.hid (fun (D : DataW Unit) (k : Nat) (h1 : MapL D (lookL (l.take k))) (h2 : FormTo c l (k + 1)) (hk : k < l.length) => MapL.put ht h1 h2 hk hw)
  have HOSM := Lib.hid (fun (a b : Nat) (ha : a < c.ord.length) (hb : b < c.ord.length) => openO_smol ht ha hb)
  have HTW := Lib.hid (fun (k : Nat) (hk : k < l.length) => (hw _ (List.getElem_mem hk)).2)
  have HFOK := Lib.hid (fun (hf : FormO c l) => form_ok hf hw)
  obtain ⟨hnp1, hnp2⟩ := hnp
  have hmm := @run_makeMap Tryz.prog
  clear kchk0 kop0 kva0 kkey0 kent0 hz h0 k1 hu h hl hw ht hc0
  go_enter Tryz.func16, Tryz.ntmps16
  go_wp2_with (clear tok0; go_at_call 35; refine (K1.out _ HX.out.bel).mono ?_; rintro e w2 ⟨rfl, hb2⟩; have HX2 := Lib.hid (HX.out.below hb2); have HM2 := Lib.hid (AcM.new HX2.out); obtain ⟨x0, x1, x2, x3, x4, x5, x6⟩ := HX2.out.cells; have hl1 := HX2.out.box.lt; clear hb2; have tok1 : True := trivial)
  go_loopw [25] (fun i wr => ∃ (k : Nat) (D : DataW Unit), k ≤ l.length ∧ i = .int .i64 k ∧ Hid (AcM w wr w2.heap.size k D c (.slice A c.mdl.bats.length ca) (.slice A1 c.mdl.bows.length ca1) (.slice A2 c.bows.length ca2) (.slice A3 c.ord.length ca3) (.slice A4 l.length ca4)) ∧ Hid (FormTo c l k) ∧ Hid (MapL D (lookL (l.take k)))) (fun i _ => l.length - (intOf i).toNat)
  case atStart => exact ⟨0, .map [], Nat.zero_le _, rfl, HM2, Lib.hid (fun i hi hk => by omega), Lib.hid (by rw [List.take_zero]; exact MapL.none)⟩
  case round =>
    clear x0 x1 x2 x3 x4 x5 x6 hl1 HX2 HM2
    obtain ⟨k, D, hk, rfl, HS, HFT, HML⟩ := hrel
    obtain ⟨x0, x1, x2, x3, x4, x5, x6⟩ := HS.out.cells
    have hl1 := HS.out.r.box.lt
    by_cases hlt : k < l.length
    · obtain ⟨b0, o0, rfl, hbl, yy⟩ := ov_at HL.out (k := k) hlt
      have yy := six_below HS.out.r.bel hbl yy
      have kC := KCHK.out k hlt
      have kE := KENT.out k hlt
      have hnx := fun h1 h2 => form_step HFT.out hlt h1 h2
      have hmp := fun h1 => HMP.out D k HML.out h1 hlt
      have hvb := HTW.out k hlt
      have hbd1 : stateO c l[k].st ≠ 0 → z = 4 := fun h1 => HF4.out fun hf => h1 (hf k hlt).1
      have hbd2 : ∀ h0 : 0 < k, ¬ cmpO (l[k - 1]'(by omega)).st l[k].st < 0 → z = 4 := fun h0 h1 => HF4.out fun hf => h1 ((hf k hlt).2 h0)
      have hpv : ∀ h0 : 0 < k, ∃ b1 o1, (some (⟨b0, o0, none⟩ : Addr)) = some ⟨b1, o1, none⟩ ∧ b1 < w.heap.size ∧ _ := fun h0 => ov_at HL.out (k := k - 1) (by omega)
      have hbl2 : b0 < wr.heap.size := Nat.lt_of_lt_of_le hbl HS.out.r.bel.size
      obtain ⟨y, hy⟩ : ∃ y, y = stateO c l[k].st := ⟨_, rfl⟩
      simp only [← hy] at kC hnx hbd1 kE
      obtain ⟨⟨⟨p0, p1, p2, p3, p4⟩, vv⟩, hp⟩ : ∃ x, x = l[k]'hlt := ⟨_, rfl⟩
      simp only [← hp] at yy kC hnx hbd2 kE hmp hvb
      obtain ⟨kst, hkst⟩ : ∃ x, x = keyOs ⟨p0, p1, p2, p3, p4⟩ := ⟨_, rfl⟩
      simp only [← hkst] at kE hmp
      unfold osV at kC kE
      dsimp only at yy kC hnx hbd2 kE hmp hvb
      have HSE := Lib.hid (HS.out.r.alloc (.cells #[.int .i64 p0, .int .i64 p1, .int .i64 p2, .int .i64 p3, .int .u16 p4, .int .i64 vv] 47))
      have HME := Lib.hid (HS.out.alloc (.cells #[.int .i64 p0, .int .i64 p1, .int .i64 p2, .int .i64 p3, .int .u16 p4, .int .i64 vv] 47))
      have HBE := Lib.hid (Blk.new wr 47 #[.int .i64 p0, .int .i64 p1, .int .i64 p2, .int .i64 p3, .int .u16 p4, .int .i64 vv])
      obtain ⟨y0, y1, y2, y3, y4, y5⟩ := yy
      have KC := Lib.hid kC
      have KE := Lib.hid kE
      have HNX := Lib.hid hnx
      have HMP2 := Lib.hid hmp
      have HVB := Lib.hid hvb
      have HBD1 := Lib.hid hbd1
      have HBD2 := Lib.hid hbd2
      have HPV := Lib.hid hpv
      clear kC kE hnx hmp hvb hbd1 hbd2 hpv hp hy hkst HFT HML
      by_cases hy0 : y = 0
      case neg =>
        have HZ := Lib.hid (HBD1.out hy0)
        have HY := Lib.hid hy0
        clear hy0
        go_wp2
        refine wp_region_freeF (dl := [30, 31, 32, 33, 34, 35, 36, 37, 38, 39, 40, 41, 42, 43, 44, 45, 46, 47, 48, 49, 50]) (mask := arMaskA c (.slice A c.mdl.bats.length ca) (.slice A1 c.mdl.bows.length ca1) (.slice A2 c.bows.length ca2) (.slice A3 c.ord.length ca3) (.slice (some ⟨b0, o0, none⟩) l.length ca4) p0 p1 p2 p3 p4 vv y w.heap.size wr.heap.size k) (T := _ :: _ :: _ :: _ :: _ :: _ :: _ :: _ :: _ :: _ :: _ :: _ :: _ :: _ :: _ :: _ :: _ :: _ :: _ :: _ :: _ :: _ :: _ :: _ :: _ :: _ :: _ :: _ :: _ :: _ :: _ :: _ :: _ :: _ :: _ :: _ :: _ :: _ :: _ :: _ :: _ :: _ :: _ :: _ :: _ :: _ :: _ :: _ :: _ :: _ :: _ :: _ :: _ :: _ :: _ :: _ :: _ :: _ :: _ :: _ :: _ :: _ :: _ :: _ :: _ :: _ :: _ :: _ :: _ :: _ :: _ :: _ :: _ :: _ :: _ :: _ :: _ :: _ :: _ :: _ :: _ :: _ :: _ :: _ :: _ :: _ :: _ :: _ :: _ :: _ :: _ :: _ :: _ :: _ :: _ :: _ :: _ :: _ :: _ :: _ :: _ :: _ :: _ :: _ :: _ :: _ :: _ :: _ :: []) (by kernel_rfl : _ = arOps) (by kernel_rfl) (ar_freeA c (.slice A c.mdl.bats.length ca) (.slice A1 c.mdl.bows.length ca1) (.slice A2 c.bows.length ca2) (.slice A3 c.ord.length ca3) (.slice (some ⟨b0, o0, none⟩) l.length ca4) p0 p1 p2 p3 p4 vv y wr.heap.size k w KC.out HY.out) rfl (by kernel_rfl) (by kernel_rfl) ⟨HSE.out, HBE.out⟩ (fun d hd => by simp only [List.mem_cons, List.not_mem_nil, or_false] at hd; rcases hd with rfl | rfl | rfl | rfl <;> rfl) rfl ?_
        intro wx hgx hbx
        have HGX := Lib.hid hgx
        clear hgx hbx
        go_wp2
        go_ret
        exact ⟨ret_i HZ.out.symm, HGX.out.1.bel⟩
      have HY := Lib.hid hy0
      have HKEY := Lib.hid (KE.out hy0)
      clear hy0
      by_cases hk0 : k = 0
      · have HK0 := Lib.hid hk0
        have HFT2 := Lib.hid (HNX.out HY.out (fun h => by omega))
        have HML2 := Lib.hid (HMP2.out HFT2.out)
        clear hk0
        go_wp2
        refine wp_region_freeF (dl := [30, 31, 32, 33, 34, 35, 36, 37, 38, 39, 40, 41, 42, 43, 44, 45, 46, 47, 48, 49, 50]) (mask := arMaskB c (.slice A c.mdl.bats.length ca) (.slice A1 c.mdl.bows.length ca1) (.slice A2 c.bows.length ca2) (.slice A3 c.ord.length ca3) (.slice (some ⟨b0, o0, none⟩) l.length ca4) p0 p1 p2 p3 p4 vv y w.heap.size wr.heap.size k) (T := _ :: _ :: _ :: _ :: _ :: _ :: _ :: _ :: _ :: _ :: _ :: _ :: _ :: _ :: _ :: _ :: _ :: _ :: _ :: _ :: _ :: _ :: _ :: _ :: _ :: _ :: _ :: _ :: _ :: _ :: _ :: _ :: _ :: _ :: _ :: _ :: _ :: _ :: _ :: _ :: _ :: _ :: _ :: _ :: _ :: _ :: _ :: _ :: _ :: _ :: _ :: _ :: _ :: _ :: _ :: _ :: _ :: _ :: _ :: _ :: _ :: _ :: _ :: _ :: _ :: _ :: _ :: _ :: _ :: _ :: _ :: _ :: _ :: _ :: _ :: _ :: _ :: _ :: _ :: _ :: _ :: _ :: _ :: _ :: _ :: _ :: _ :: _ :: _ :: _ :: _ :: _ :: _ :: _ :: _ :: _ :: _ :: _ :: _ :: _ :: _ :: _ :: _ :: _ :: _ :: _ :: _ :: _ :: []) (by kernel_rfl : _ = arOps) (by kernel_rfl) (ar_freeB c (.slice A c.mdl.bats.length ca) (.slice A1 c.mdl.bows.length ca1) (.slice A2 c.bows.length ca2) (.slice A3 c.ord.length ca3) (.slice (some ⟨b0, o0, none⟩) l.length ca4) p0 p1 p2 p3 p4 vv y wr.heap.size k w KC.out HY.out HK0.out) rfl (by kernel_rfl) (by kernel_rfl) ⟨HSE.out, HBE.out⟩ (fun d hd => by simp only [List.mem_cons, List.not_mem_nil, or_false] at hd; rcases hd with rfl | rfl | rfl | rfl <;> rfl) rfl ?_
        intro wx hgx hbx
        have HMX := Lib.hid (HME.out.below hbx)
        have HVX := Lib.hid HMX.out.vals
        have HBX := Lib.hid hgx.2
        have u0 : wx.cell? ⟨wr.heap.size, 0, none⟩ = some (.int .i64 p0) := HBX.out.cell 0
        have u1 : wx.cell? ⟨wr.heap.size, 1, none⟩ = some (.int .i64 p1) := HBX.out.cell 1
        have u2 : wx.cell? ⟨wr.heap.size, 2, none⟩ = some (.int .i64 p2) := HBX.out.cell 2
        have u3 : wx.cell? ⟨wr.heap.size, 3, none⟩ = some (.int .i64 p3) := HBX.out.cell 3
        have u4 : wx.cell? ⟨wr.heap.size, 4, none⟩ = some (.int .u16 p4) := HBX.out.cell 4
        have u5 : wx.cell? ⟨wr.heap.size, 5, none⟩ = some (.int .i64 vv) := HBX.out.cell 5
        clear hgx hbx
        go_wp2_with (at_mapUpdate; refine wpList_mapUpdate_own _ rfl _ _ _ 81 rfl 45 2 law45 Tryz.underlying81 _ w2.heap.size k D rfl HVX.out (by have hkl := hlt; unfold maxLen; omega) _ _ _ rfl rfl HKEY.out _ [] (plainElem_int Tryz.underlying2 (WalkArith.wf_i64 (by have h9 := HVB.out; omega))) ?_; intro w9 hown9 hgrow9; have HG9 := Lib.hid hgrow9; have HO9 := Lib.hid hown9; clear hgrow9 hown9)
        go_roundw
        case rel => exact ⟨k + 1, _, by omega, by go_num, Lib.hid (HMX.out.into HG9.out HO9.out), HFT2, HML2⟩
        case measure => simp [intOf]; omega
      · have hkp : 0 < k := by omega
        obtain ⟨b1, o1, he1, hbl1, rr⟩ := HPV.out hkp
        obtain ⟨rfl, rfl⟩ : b0 = b1 ∧ o0 = o1 := by injection he1 with h9; injection h9 with h8 h7; exact ⟨h8, h7⟩
        have hb2 := HBD2.out hkp
        have hn2 := fun (h1 : cmpO (l[k - 1]'(by omega)).st ⟨p0, p1, p2, p3, p4⟩ < 0) => HNX.out HY.out (fun _ => h1)
        have kq := fun W => r45_Less (l[k - 1]'(by omega)).st ⟨p0, p1, p2, p3, p4⟩ W
        unfold lessO at kq
        obtain ⟨q, hq⟩ : ∃ q, q = cmpO (l[k - 1]'(by omega)).st ⟨p0, p1, p2, p3, p4⟩ := ⟨_, rfl⟩
        simp only [← hq] at hb2 hn2 kq
        obtain ⟨⟨⟨r0, r1, r2, r3, r4⟩, rv⟩, hr⟩ : ∃ x, x = l[k - 1]'(by omega) := ⟨_, rfl⟩
        simp only [← hr] at rr kq
        unfold osV at kq
        dsimp only at rr kq
        have HRR := Lib.hid rr
        have HB2 := Lib.hid hb2
        have HN2 := Lib.hid hn2
        have HKP := Lib.hid hkp
        clear he1 rr hb2 hn2 hq hr hk0
        by_cases hq0 : q < 0
        · have HFT2 := Lib.hid (HN2.out hq0)
          have HML2 := Lib.hid (HMP2.out HFT2.out)
          rw [decide_eq_true hq0] at kq
          have KQ := Lib.hid kq
          clear hq0 kq
          go_wp2
          refine wp_region_freeF (dl := [30, 31, 32, 33, 34, 35, 36, 37, 38, 39, 40, 41, 42, 43, 44, 45, 46, 47, 48, 49, 50]) (mask := arMaskD c (.slice A c.mdl.bats.length ca) (.slice A1 c.mdl.bows.length ca1) (.slice A2 c.bows.length ca2) (.slice A3 c.ord.length ca3) p0 p1 p2 p3 p4 vv y w.heap.size wr.heap.size k r0 r1 r2 r3 r4 rv b0 o0 l.length ca4) (T := _ :: _ :: _ :: _ :: _ :: _ :: _ :: _ :: _ :: _ :: _ :: _ :: _ :: _ :: _ :: _ :: _ :: _ :: _ :: _ :: _ :: _ :: _ :: _ :: _ :: _ :: _ :: _ :: _ :: _ :: _ :: _ :: _ :: _ :: _ :: _ :: _ :: _ :: _ :: _ :: _ :: _ :: _ :: _ :: _ :: _ :: _ :: _ :: _ :: _ :: _ :: _ :: _ :: _ :: _ :: _ :: _ :: _ :: _ :: _ :: _ :: _ :: _ :: _ :: _ :: _ :: _ :: _ :: _ :: _ :: _ :: _ :: _ :: _ :: _ :: _ :: _ :: _ :: _ :: _ :: _ :: _ :: _ :: _ :: _ :: _ :: _ :: _ :: _ :: _ :: _ :: _ :: _ :: _ :: _ :: _ :: _ :: _ :: _ :: _ :: _ :: _ :: _ :: _ :: _ :: _ :: _ :: _ :: []) (by kernel_rfl : _ = arOps) (by kernel_rfl) (ar_freeD c (.slice A c.mdl.bats.length ca) (.slice A1 c.mdl.bows.length ca1) (.slice A2 c.bows.length ca2) (.slice A3 c.ord.length ca3) p0 p1 p2 p3 p4 vv y wr.heap.size k r0 r1 r2 r3 r4 rv b0 o0 l.length ca4 w KC.out KQ.out HY.out HKP.out (by omega) hn hbl HRR.out) rfl (by kernel_rfl) (by kernel_rfl) ⟨HSE.out, HBE.out⟩ (fun d hd => by simp only [List.mem_cons, List.not_mem_nil, or_false] at hd; rcases hd with rfl | rfl | rfl | rfl <;> rfl) rfl ?_
          intro wx hgx hbx
          have HMX := Lib.hid (HME.out.below hbx)
          have HVX := Lib.hid HMX.out.vals
          have HBX := Lib.hid hgx.2
          have u0 : wx.cell? ⟨wr.heap.size, 0, none⟩ = some (.int .i64 p0) := HBX.out.cell 0
          have u1 : wx.cell? ⟨wr.heap.size, 1, none⟩ = some (.int .i64 p1) := HBX.out.cell 1
          have u2 : wx.cell? ⟨wr.heap.size, 2, none⟩ = some (.int .i64 p2) := HBX.out.cell 2
          have u3 : wx.cell? ⟨wr.heap.size, 3, none⟩ = some (.int .i64 p3) := HBX.out.cell 3
          have u4 : wx.cell? ⟨wr.heap.size, 4, none⟩ = some (.int .u16 p4) := HBX.out.cell 4
          have u5 : wx.cell? ⟨wr.heap.size, 5, none⟩ = some (.int .i64 vv) := HBX.out.cell 5
          clear hgx hbx
          go_wp2_with (at_mapUpdate; refine wpList_mapUpdate_own _ rfl _ _ _ 81 rfl 45 2 law45 Tryz.underlying81 _ w2.heap.size k D rfl HVX.out (by have hkl := hlt; unfold maxLen; omega) _ _ _ rfl rfl HKEY.out _ [] (plainElem_int Tryz.underlying2 (WalkArith.wf_i64 (by have h9 := HVB.out; omega))) ?_; intro w9 hown9 hgrow9; have HG9 := Lib.hid hgrow9; have HO9 := Lib.hid hown9; clear hgrow9 hown9)
          go_roundw
          case rel => exact ⟨k + 1, _, by omega, by go_num, Lib.hid (HMX.out.into HG9.out HO9.out), HFT2, HML2⟩
          case measure => simp [intOf]; omega
        · have HZ := Lib.hid (HB2.out hq0)
          rw [decide_eq_false hq0] at kq
          have KQ := Lib.hid kq
          clear hq0 kq
          go_wp2
          refine wp_region_freeF (dl := [30, 31, 32, 33, 34, 35, 36, 37, 38, 39, 40, 41, 42, 43, 44, 45, 46, 47, 48, 49, 50]) (mask := arMaskC c (.slice A c.mdl.bats.length ca) (.slice A1 c.mdl.bows.length ca1) (.slice A2 c.bows.length ca2) (.slice A3 c.ord.length ca3) p0 p1 p2 p3 p4 vv y w.heap.size wr.heap.size k r0 r1 r2 r3 r4 rv b0 o0 l.length ca4) (T := _ :: _ :: _ :: _ :: _ :: _ :: _ :: _ :: _ :: _ :: _ :: _ :: _ :: _ :: _ :: _ :: _ :: _ :: _ :: _ :: _ :: _ :: _ :: _ :: _ :: _ :: _ :: _ :: _ :: _ :: _ :: _ :: _ :: _ :: _ :: _ :: _ :: _ :: _ :: _ :: _ :: _ :: _ :: _ :: _ :: _ :: _ :: _ :: _ :: _ :: _ :: _ :: _ :: _ :: _ :: _ :: _ :: _ :: _ :: _ :: _ :: _ :: _ :: _ :: _ :: _ :: _ :: _ :: _ :: _ :: _ :: _ :: _ :: _ :: _ :: _ :: _ :: _ :: _ :: _ :: _ :: _ :: _ :: _ :: _ :: _ :: _ :: _ :: _ :: _ :: _ :: _ :: _ :: _ :: _ :: _ :: _ :: _ :: _ :: _ :: _ :: _ :: _ :: _ :: _ :: _ :: _ :: _ :: []) (by kernel_rfl : _ = arOps) (by kernel_rfl) (ar_freeC c (.slice A c.mdl.bats.length ca) (.slice A1 c.mdl.bows.length ca1) (.slice A2 c.bows.length ca2) (.slice A3 c.ord.length ca3) p0 p1 p2 p3 p4 vv y wr.heap.size k r0 r1 r2 r3 r4 rv b0 o0 l.length ca4 w KC.out KQ.out HY.out HKP.out (by omega) hn hbl HRR.out) rfl (by kernel_rfl) (by kernel_rfl) ⟨HSE.out, HBE.out⟩ (fun d hd => by simp only [List.mem_cons, List.not_mem_nil, or_false] at hd; rcases hd with rfl | rfl | rfl | rfl <;> rfl) rfl ?_
          intro wx hgx hbx
          have HGX := Lib.hid hgx
          clear hgx hbx
          go_wp2
          go_ret
          exact ⟨ret_i HZ.out.symm, HGX.out.1.bel⟩
    · obtain rfl : k = l.length := by omega
      have hf := form_all HFT.out
      have hml := HML.out
      rw [List.take_length] at hml
      have hok := HFOK.out hf
      have kva := fun (k : Nat) (hk : k < l.length) W (hW : AcM w W w2.heap.size l.length D c (.slice A c.mdl.bats.length ca) (.slice A1 c.mdl.bows.length ca1) (.slice A2 c.bows.length ca2) (.slice A3 c.ord.length ca3) (.slice A4 l.length ca4)) => KVA0.out l[k].st (hok k hk) w2.heap.size l.length D hml W hW
      have hhas := fun (a b : Nat) (ha : a < c.ord.length) (hb : b < c.ord.length) => hml.has _ (HOSM.out a b ha hb)
      have hp6 := HP6.out hf
      have hen := HEN.out hf
      obtain ⟨lk, hlk⟩ : ∃ lk, lk = lookL l := ⟨_, rfl⟩
      rw [← hlk] at hp6 hen
      simp only [← hlk] at kva hhas
      have KVA := Lib.hid kva
      have HHAS := Lib.hid hhas
      have HP := Lib.hid hp6
      have HE := Lib.hid hen
      clear hf hml hok kva hhas hp6 hen hlk HFT HML KVA0 HP6 HEN HF4 HFOK KCHK KENT HMP HTW HOSM
      obtain ⟨N, hN⟩ : ∃ N, N = l.length := ⟨_, rfl⟩
      clear hN
      obtain ⟨wo, hwo⟩ : ∃ wo : World, wo = wr := ⟨_, rfl⟩
      subst hwo
      go_wp2
      go_loopw [60] (fun i wr => ∃ a : Nat, a ≤ c.ord.length ∧ i = .int .i64 a ∧ Hid (AcM w wr w2.heap.size l.length D c (.slice A c.mdl.bats.length ca) (.slice A1 c.mdl.bows.length ca1) (.slice A2 c.bows.length ca2) (.slice A3 c.ord.length ca3) (.slice A4 l.length ca4)) ∧ Hid (PairsTo c lk a)) (fun i _ => c.ord.length - (intOf i).toNat)
      case atStart => exact ⟨0, Nat.zero_le _, rfl, HS, Lib.hid (fun i j hi => by omega)⟩
      case round =>
        clear x0 x1 x2 x3 x4 x5 x6 hl1 HS
        obtain ⟨a, ha, rfl, HS, HPT⟩ := hrel
        obtain ⟨x0, x1, x2, x3, x4, x5, x6⟩ := HS.out.cells
        obtain ⟨wp, hwp⟩ : ∃ wp : World, wp = wr := ⟨_, rfl⟩
        subst hwp
        by_cases hat : a < c.ord.length
        · go_wp2
          go_loopw [66] (fun i wr => ∃ b : Nat, b ≤ c.ord.length ∧ i = .int .i64 b ∧ Hid (AcM w wr w2.heap.size l.length D c (.slice A c.mdl.bats.length ca) (.slice A1 c.mdl.bows.length ca1) (.slice A2 c.bows.length ca2) (.slice A3 c.ord.length ca3) (.slice A4 l.length ca4)) ∧ Hid (RowTo c lk a b)) (fun i _ => c.ord.length - (intOf i).toNat)
          case atStart => exact ⟨0, Nat.zero_le _, rfl, HS, Lib.hid (fun j hj => by omega)⟩
          case round =>
            clear x0 x1 x2 x3 x4 x5 x6 HS
            obtain ⟨b, hb, rfl, HS, HRT⟩ := hrel
            obtain ⟨x0, x1, x2, x3, x4, x5, x6⟩ := HS.out.cells
            by_cases hbt : b < c.ord.length
            · have kO := KOP.out a b hat hbt
              have kK := KKEY.out a b hat hbt
              have kH := HHAS.out a b hat hbt
              have hstep := fun h1 => row_step HRT.out h1
              have hbad : a ≠ b → (lk (openO c a b)).2 = false → z = 6 := fun hne hf => HP.out fun hp => by rw [hp a b hat hbt hne] at hf; cases hf
              obtain ⟨⟨rv, ok⟩, hrv⟩ : ∃ r, r = lk (openO c a b) := ⟨_, rfl⟩
              simp only [← hrv] at kH hstep hbad
              obtain ⟨kst, hkst⟩ : ∃ x, x = keyOs (openO c a b) := ⟨_, rfl⟩
              simp only [← hkst] at kK kH
              obtain ⟨⟨t0, t1, t2, t3, t4⟩, hs'⟩ : ∃ x, x = openO c a b := ⟨_, rfl⟩
              simp only [← hs'] at kO kK
              unfold osV at kO kK
              dsimp only at kO kK kH
              have KO := Lib.hid kO
              have HKEY := Lib.hid kK
              have HSTEP := Lib.hid hstep
              have HBAD := Lib.hid hbad
              clear kO kK hrv hs' hkst hstep hbad HRT
              have tok9 : True := trivial
              by_cases hab : a = b
              · have e1 : ((a : Int) != (b : Int)) = false := by rw [hab]; simp
                have HRT2 := Lib.hid (HSTEP.out (fun h => absurd hab h))
                clear hab
                go_wp2_with (first
                  | (clear tok9; go_at_call 37; refine (KO.out _ HS.out.r.bel).mono ?_; rintro e w6 ⟨rfl, hb6⟩; have HS6 := Lib.hid (HS.out.below hb6); have HV6 := Lib.hid HS6.out.vals; clear x0 x1 x2 x3 x4 x5 x6; obtain ⟨x0, x1, x2, x3, x4, x5, x6⟩ := HS6.out.cells; clear hb6; have tok10 : True := trivial)
                  | (at_lookup; refine wpList_lookup_own_ok_int _ rfl _ _ 81 rfl 45 2 .i64 law45 Tryz.underlying81 Tryz.underlying2 (zero_i64 _) w2.heap.size l.length D rfl HV6.out _ _ rfl HKEY.out ?_; intro cc hat hwc; clear hat hwc))
                go_roundw
                case rel => exact ⟨b + 1, by omega, by go_num, HS6, HRT2⟩
                case measure => simp [intOf]; omega
              · have e1 : ((a : Int) != (b : Int)) = true := by simp; omega
                cases ok
                · have HZ := Lib.hid (HBAD.out hab rfl)
                  clear hab
                  go_wp2_with (first
                    | (clear tok9; go_at_call 37; refine (KO.out _ HS.out.r.bel).mono ?_; rintro e w6 ⟨rfl, hb6⟩; have HS6 := Lib.hid (HS.out.below hb6); have HV6 := Lib.hid HS6.out.vals; clear x0 x1 x2 x3 x4 x5 x6; obtain ⟨x0, x1, x2, x3, x4, x5, x6⟩ := HS6.out.cells; clear hb6; have tok10 : True := trivial)
                    | (at_lookup; refine wpList_lookup_own_ok_int _ rfl _ _ 81 rfl 45 2 .i64 law45 Tryz.underlying81 Tryz.underlying2 (zero_i64 _) w2.heap.size l.length D rfl HV6.out _ _ rfl HKEY.out ?_; intro cc hat hwc; clear hat hwc))
                  go_ret
                  exact ⟨ret_i HZ.out.symm, HS6.out.r.bel⟩
                · have HRT2 := Lib.hid (HSTEP.out (fun _ => rfl))
                  clear hab
                  go_wp2_with (first
                    | (clear tok9; go_at_call 37; refine (KO.out _ HS.out.r.bel).mono ?_; rintro e w6 ⟨rfl, hb6⟩; have HS6 := Lib.hid (HS.out.below hb6); have HV6 := Lib.hid HS6.out.vals; clear x0 x1 x2 x3 x4 x5 x6; obtain ⟨x0, x1, x2, x3, x4, x5, x6⟩ := HS6.out.cells; clear hb6; have tok10 : True := trivial)
                    | (at_lookup; refine wpList_lookup_own_ok_int _ rfl _ _ 81 rfl 45 2 .i64 law45 Tryz.underlying81 Tryz.underlying2 (zero_i64 _) w2.heap.size l.length D rfl HV6.out _ _ rfl HKEY.out ?_; intro cc hat hwc; clear hat hwc))
                  go_roundw
                  case rel => exact ⟨b + 1, by omega, by go_num, HS6, HRT2⟩
                  case measure => simp [intOf]; omega
            · obtain rfl : b = c.ord.length := by omega
              have HPT2 := Lib.hid (pairs_row HPT.out HRT.out)
              clear HRT HPT
              go_wp2
              go_roundw
              case rel => exact ⟨a + 1, by omega, by go_num, HS, HPT2⟩
              case measure => simp [intOf]; omega
        · obtain rfl : a = c.ord.length := by omega
          have HZ0 : Hid (z = entL c lk (l.drop 0)) := HE.out fun i j hi hj hne => HPT.out i j hi hj hne
          clear HPT HP HE KOP HHAS KKEY
          go_wp2
          go_loopw [89] (fun i wr => ∃ k : Nat, k ≤ l.length ∧ i = .int .i64 k ∧ Hid (AcM w wr w2.heap.size l.length D c (.slice A c.mdl.bats.length ca) (.slice A1 c.mdl.bows.length ca1) (.slice A2 c.bows.length ca2) (.slice A3 c.ord.length ca3) (.slice A4 l.length ca4)) ∧ Hid (z = entL c lk (l.drop k))) (fun i _ => l.length - (intOf i).toNat)
          case atStart => exact ⟨0, Nat.zero_le _, rfl, HS, HZ0⟩
          case round =>
            clear x0 x1 x2 x3 x4 x5 x6 HS HZ0
            obtain ⟨k, hk, rfl, HS, hzz⟩ := hrel
            obtain ⟨x0, x1, x2, x3, x4, x5, x6⟩ := HS.out.cells
            have hl1 := HS.out.r.box.lt
            by_cases hlt : k < l.length
            · obtain ⟨b0, o0, rfl, hbl, yy⟩ := ov_at HL.out (k := k) hlt
              have yy := six_below HS.out.r.bel hbl yy
              have kV := KVA.out k hlt
              have hst := hzz.out
              rw [entL_at hlt] at hst
              obtain ⟨⟨rv, ok⟩, hrv⟩ : ∃ r, r = valL c lk l[k].st := ⟨_, rfl⟩
              simp only [← hrv] at kV hst
              obtain ⟨⟨⟨p0, p1, p2, p3, p4⟩, vv⟩, hp⟩ : ∃ x, x = l[k]'hlt := ⟨_, rfl⟩
              simp only [← hp] at yy kV hst
              unfold osV at kV
              dsimp only at yy kV hst
              have HSE := Lib.hid (HS.out.alloc (.cells #[.int .i64 p0, .int .i64 p1, .int .i64 p2, .int .i64 p3, .int .u16 p4, .int .i64 vv] 47))
              have HBE := Lib.hid (Blk.new wr 47 #[.int .i64 p0, .int .i64 p1, .int .i64 p2, .int .i64 p3, .int .u16 p4, .int .i64 vv])
              obtain ⟨y0, y1, y2, y3, y4, y5⟩ := yy
              have KV := Lib.hid kV
              clear kV hrv hp hzz
              have tok5 : True := trivial
              cases ok
              · rw [if_pos rfl] at hst
                have HZ := Lib.hid hst
                clear hst
                go_wp2_with (clear tok5; go_at_call 48; refine (KV.out _ HSE.out).mono ?_; rintro e w6 ⟨rfl, hb6⟩; have HS6 := Lib.hid (HSE.out.below hb6); have HB6 := Lib.hid (HBE.out.below hb6 HBE.out.lt); clear x0 x1 x2 x3 x4 x5 x6 hl1; obtain ⟨x0, x1, x2, x3, x4, x5, x6⟩ := HS6.out.cells; have u5 : w6.cell? ⟨wr.heap.size, 5, none⟩ = some (.int .i64 vv) := HB6.out.cell 5; clear hb6; have tok6 : True := trivial)
                go_ret
                exact ⟨ret_i HZ.out.symm, HS6.out.r.bel⟩
              · rw [if_neg (by decide)] at hst
                by_cases hv : rv = vv
                · rw [if_neg (by simp [hv])] at hst
                  have HZ := Lib.hid hst
                  have e5 : (rv != vv) = false := by simp [hv]
                  clear hst hv
                  go_wp2_with (clear tok5; go_at_call 48; refine (KV.out _ HSE.out).mono ?_; rintro e w6 ⟨rfl, hb6⟩; have HS6 := Lib.hid (HSE.out.below hb6); have HB6 := Lib.hid (HBE.out.below hb6 HBE.out.lt); clear x0 x1 x2 x3 x4 x5 x6 hl1; obtain ⟨x0, x1, x2, x3, x4, x5, x6⟩ := HS6.out.cells; have u5 : w6.cell? ⟨wr.heap.size, 5, none⟩ = some (.int .i64 vv) := HB6.out.cell 5; clear hb6; have tok6 : True := trivial)
                  go_roundw
                  case rel => exact ⟨k + 1, by omega, by go_num, HS6, HZ⟩
                  case measure => simp [intOf]; omega
                · rw [if_pos hv] at hst
                  have HZ := Lib.hid hst
                  have e5 : (rv != vv) = true := by simp [hv]
                  clear hst hv
                  go_wp2_with (clear tok5; go_at_call 48; refine (KV.out _ HSE.out).mono ?_; rintro e w6 ⟨rfl, hb6⟩; have HS6 := Lib.hid (HSE.out.below hb6); have HB6 := Lib.hid (HBE.out.below hb6 HBE.out.lt); clear x0 x1 x2 x3 x4 x5 x6 hl1; obtain ⟨x0, x1, x2, x3, x4, x5, x6⟩ := HS6.out.cells; have u5 : w6.cell? ⟨wr.heap.size, 5, none⟩ = some (.int .i64 vv) := HB6.out.cell 5; clear hb6; have tok6 : True := trivial)
                  go_ret
                  exact ⟨ret_i HZ.out.symm, HS6.out.r.bel⟩
            · obtain rfl : k = l.length := by omega
              have hz2 := hzz.out
              rw [List.drop_of_length_le (Nat.le_refl _), entL] at hz2
              have HZ := Lib.hid hz2
              clear hzz hz2
              go_wp2
              go_ret
              exact ⟨ret_i HZ.out.symm, HS.out.r.bel⟩
end Go.Proofs.YtdlmmbfnmnglaaaGreatDoor

namespace Go.Proofs.YtdlmmbfnmnglaaaGreatDoor
open Go.RowKit Go.Maps

def leO (x y : Ove) : Bool := !(lessO y.st x.st)
theorem leO_iff {x y : Ove} : leO x y = true ↔ ¬ cmpO y.st x.st < 0 := by unfold leO lessO; simp
theorem leO_trans (x y z : Ove) (h1 : leO x y = true) (h2 : leO y z = true) : leO x z = true := by
  rw [leO_iff, less_iff] at *
  omega
theorem leO_total (x y : Ove) : (leO x y || leO y x) = true := by
  rw [Bool.or_eq_true, leO_iff, leO_iff, less_iff, less_iff]
  omega
theorem cmpO_irr (s : Ost) : ¬ cmpO s s < 0 := by rw [cmpO_eq.2 rfl]; omega
theorem strict_pair {l : List Ove} : StrictO l ↔ l.Pairwise fun x y => cmpO x.st y.st < 0 := by
  rw [List.pairwise_iff_getElem]; exact Iff.rfl
theorem strict_of {l : List Ove} (h : l.Pairwise fun x y => leO x y = true) (hn : l.Pairwise fun x y => x.st ≠ y.st) : StrictO l := by
  rw [strict_pair]
  refine (h.and hn).imp fun {x y} ⟨h1, h2⟩ => ?_
  rw [leO_iff] at h1
  rcases cmpO_total h2 with h3 | h3
  · exact h3
  · exact absurd h3 h1
theorem strict_one : ∀ {a b : List Ove}, (a.Pairwise fun x y => cmpO x.st y.st < 0) → (b.Pairwise fun x y => cmpO x.st y.st < 0) → (∀ e, e ∈ a ↔ e ∈ b) → a = b
  | [], [], _, _, _ => rfl
  | [], y :: b, _, _, h => by have := (h y).2 (by simp); cases this
  | x :: a, [], _, _, h => by have := (h x).1 (by simp); cases this
  | x :: a, y :: b, h1, h2, h => by
    rw [List.pairwise_cons] at h1 h2
    have hxy : x = y := by
      have k1 := (h x).1 (by simp)
      have k2 := (h y).2 (by simp)
      rcases List.mem_cons.1 k1 with k1 | k1
      · exact k1
      rcases List.mem_cons.1 k2 with k2 | k2
      · exact k2.symm
      exact absurd (cmpO_trans (h2.1 x k1) (h1.1 y k2)) (cmpO_irr _)
    subst hxy
    rw [strict_one h1.2 h2.2 fun e => ⟨fun he => ?_, fun he => ?_⟩]
    · rcases List.mem_cons.1 ((h e).1 (List.mem_cons_of_mem _ he)) with k | k
      · subst k; exact absurd (h1.1 e he) (cmpO_irr _)
      · exact k
    · rcases List.mem_cons.1 ((h e).2 (List.mem_cons_of_mem _ he)) with k | k
      · subst k; exact absurd (h2.1 e he) (cmpO_irr _)
      · exact k
/-- The table of a task. -/
def TabIs (c : Chs) (l : List Ove) : Prop := StrictO l ∧ ∀ e, e ∈ l ↔ (ReachO c e.st ∧ e.val = vO c e.st)
theorem TabIs.one {c : Chs} {a b : List Ove} (h : TabIs c a) (k : TabIs c b) : a = b := strict_one (strict_pair.1 h.1) (strict_pair.1 k.1) fun e => (h.2 e).trans (k.2 e).symm
theorem ReachO.ok {c : Chs} (ht : OkT c) {s : Ost} (h : ReachO c s) : OkOs c s :=
  h (OkOs c) (fun a b ha hb hne => (openO_ok ht ha hb hne).1) fun s x hs hx => by
    obtain ⟨i, hi, rfl⟩ := List.getElem_of_mem hx
    obtain ⟨h1, _, h3, _⟩ := nexts_law ht hs
    exact (h3 i hi (by omega)).ok
theorem TabIs.w {c : Chs} (ht : OkT c) {l : List Ove} (h : TabIs c l) : TabW l := fun x hx => by
  obtain ⟨h1, h2⟩ := (h.2 x).1 hx
  have := vO_48 ht (h1.ok ht)
  exact ⟨(h1.ok ht).w16, by omega, by omega⟩
theorem TabIs.look {c : Chs} {l : List Ove} (h : TabIs c l) {t : Ost} (ht : ReachO c t) : lookL l t = (vO c t, true) := by
  have hm := (h.2 ⟨t, vO c t⟩).2 ⟨ht, rfl⟩
  cases hb : (lookL l t).2
  · unfold lookL at hb
    cases hf : l.find? (fun x => (cmpO x.st t == 0)) with
    | some x => rw [hf] at hb; cases hb
    | none =>
      have := List.find?_eq_none.1 hf _ hm
      exact absurd (by rw [beq_iff_eq]; exact cmpO_eq.2 rfl) this
  · obtain ⟨x, hx, e, e2⟩ := look_mem hb
    rw [e2, ((h.2 x).1 hx).2, e]
theorem wrap64_in {n : Int} (h : -9223372036854775808 ≤ n ∧ n < 9223372036854775808) : wrap64 n = n := by unfold wrap64; omega
theorem accL_exact {f : Ost → Int} {lk : Ost → Int × Bool} : ∀ (l : List Ost) (w : List Int) (v : Int) (m : Nat), l.length = w.length → l.length ≤ m → m ≤ 16 → (∀ x ∈ l, lk x = (f x, true)) →
    (∀ (k : Nat) (h1 : k < l.length) (h2 : k < w.length), (0 ≤ f l[k] ∧ f l[k] ≤ 281474976710656) ∧ 0 ≤ w[k] * f l[k] ∧ w[k] * f l[k] ≤ 281474976710656) → 0 ≤ v → v ≤ 281474976710656 * (16 - m : Nat) → accL lk l w v = (accF f l w v, true)
  | [], [], v, m, _, _, _, _, _, _, _ => rfl
  | [], _ :: _, _, _, h, _, _, _, _, _, _ => by simp at h
  | _ :: _, [], _, _, h, _, _, _, _, _, _ => by simp at h
  | x :: l, y :: w, v, m, hl, hm, h16, hk, hb, h0, h1 => by
    have hx := hk x (by simp)
    have hbx := hb 0 (by simp) (by simp)
    simp only [List.getElem_cons_zero] at hbx
    cases m with
    | zero => simp at hm
    | succ m =>
      have hrec := fun v' h0' h1' => accL_exact (f := f) (lk := lk) l w v' m (by simpa using hl) (by simpa using hm) (by omega) (fun z hz => hk z (by simp [hz])) (fun k h1 h2 => by have := hb (k + 1) (by simp; omega) (by simp; omega); simpa using this) h0' h1'
      rw [accL, accF, hx, if_pos rfl]
      have h2 : 281474976710656 * ((16 - (m + 1) : Nat) : Int) + 281474976710656 = 281474976710656 * ((16 - m : Nat) : Int) := by
        have : 16 - m = (16 - (m + 1)) + 1 := by omega
        rw [this]; push_cast; omega
      by_cases hy : y = 0
      · rw [if_pos hy, if_pos hy]
        exact hrec _ (by dsimp only; omega) (by dsimp only; omega)
      · rw [if_neg hy, if_neg hy]
        dsimp only
        have h3 : ((16 - (m + 1) : Nat) : Int) ≤ 16 := by omega
        rw [wrap64_in (n := y * f x) (by omega), wrap64_in (n := v + y * f x) (by omega)]
        exact hrec _ (by omega) (by omega)
theorem TabIs.val {c : Chs} (ht : OkT c) {l : List Ove} (h : TabIs c l) {s : Ost} (hs : ReachO c s) : valL c (lookL l) s = (vO c s, true) := by
  have hok := hs.ok ht
  by_cases h0 : s.need = 0
  · unfold valL; rw [if_pos h0]
  · obtain ⟨h1, h2, h3, h4⟩ := nexts_law ht hok
    rw [← accL_val ht hok h0, accL_exact (f := vO c) _ _ 0 16 h1 h2 (Nat.le_refl _) (fun x hx => h.look (hs.next x hx)) (fun k k1 k2 => ⟨(h3 k k1 k2).v0, (h3 k k1 k2).p0⟩) (Int.le_refl _) (by decide), h4 h0]
/-- What has been collected out of a map, in any order: each key that has come, once. -/
structure CollO (D : DataW Unit) (left : Lit → Bool) (l : List Ove) : Prop where
  has : ∀ e ∈ l, Maps.has D (keyOs e.st) = true ∧ left (keyOs e.st) = false ∧ SmolO e.st ∧ D.atKey (keyOs e.st) (.lit (.int .i64 0)) = .lit (.int .i64 e.val)
  all : ∀ s, SmolO s → Maps.has D (keyOs s) = true → left (keyOs s) = false → ∃ e ∈ l, e.st = s
  one : l.Pairwise fun x y => x.st ≠ y.st
theorem CollO.start (D : DataW Unit) : CollO D (Maps.has D) [] := ⟨fun e he => (by cases he), fun s _ h1 h2 => (by rw [h1] at h2; cases h2), List.Pairwise.nil⟩
theorem CollO.step {D : DataW Unit} {left : Lit → Bool} {l : List Ove} (h : CollO D left l) {e : Ove} (h1 : Maps.has D (keyOs e.st) = true) (h2 : left (keyOs e.st) = true) (h3 : SmolO e.st) (h4 : D.atKey (keyOs e.st) (.lit (.int .i64 0)) = .lit (.int .i64 e.val)) :
    CollO D (fun z => left z && !z.sameKey (keyOs e.st)) (l ++ [e]) := by
  refine ⟨fun x hx => ?_, fun s hs hh hl => ?_, ?_⟩
  · rcases List.mem_append.1 hx with hx | hx
    · obtain ⟨k1, k2, k3, k4⟩ := h.has x hx
      exact ⟨k1, by rw [k2]; rfl, k3, k4⟩
    · simp at hx; subst hx
      exact ⟨h1, by rw [WideAt.sameKey_self (okey_lit _)]; simp, h3, h4⟩
  · cases hc : left (keyOs s)
    · obtain ⟨x, hx, e2⟩ := h.all s hs hh hc
      exact ⟨x, List.mem_append.2 (.inl hx), e2⟩
    · rw [hc] at hl
      by_cases e2 : e.st = s
      · exact ⟨e, by simp, e2⟩
      · exfalso
        have : (keyOs s).sameKey (keyOs e.st) = false := Go.Maps.sameKey_ne fun e3 => e2 (okey_inj h3 hs e3.symm)
        rw [this] at hl; cases hl
  · rw [List.pairwise_append]
    refine ⟨h.one, List.pairwise_singleton _ _, fun x hx y hy => ?_⟩
    simp at hy; subst hy
    intro e2
    obtain ⟨_, k2, _, _⟩ := h.has x hx
    rw [e2, h2] at k2; cases k2
/-- Sorted, it is the table. -/
theorem coll_tab {c : Chs} (ht : OkT c) {D : DataW Unit} {left : Lit → Bool} {l l' : List Ove} (h : CollO D left l) (hl : ∀ kl, left kl = false) (hk : KnownO c D) (hop : ∀ a b : Nat, a < c.ord.length → b < c.ord.length → a ≠ b → Maps.has D (keyOs (openO c a b)) = true)
    (hp : l'.Perm l) (hs : l'.Pairwise fun x y => leO x y = true) : TabIs c l' := by
  refine ⟨strict_of hs ((hp.pairwise_iff fun {x y} h => fun e => h e.symm).2 h.one), fun e => ?_⟩
  rw [hp.mem_iff]
  constructor
  · intro he
    obtain ⟨k1, _, k3, k4⟩ := h.has e he
    obtain ⟨s, e1, e2, e3⟩ := hk.sub _ k1
    have := okey_inj k3 (e2.smol ht) e1
    subst this
    refine ⟨e3, ?_⟩
    have := (hk.val _ e2 k1).symm.trans k4
    injection this with this
    injection this with _ this
    exact this.symm
  · rintro ⟨h1, h2⟩
    have hh : OkOs c e.st ∧ Maps.has D (keyOs e.st) = true := h1 (fun s => OkOs c s ∧ Maps.has D (keyOs s) = true) (fun a b ha hb hne => ⟨(openO_ok ht ha hb hne).1, hop a b ha hb hne⟩) fun s x hs hx => by
      obtain ⟨i, hi, rfl⟩ := List.getElem_of_mem hx
      obtain ⟨g1, _, g3, _⟩ := nexts_law ht hs.1
      exact ⟨(g3 i hi (by omega)).ok, hk.clo s hs.1 hs.2 _ hx⟩
    obtain ⟨x, hx, e2⟩ := h.all e.st (hh.1.smol ht) hh.2 (hl _)
    obtain ⟨k1, _, _, k4⟩ := h.has x hx
    rw [e2, hk.val _ hh.1 hh.2] at k4
    injection k4 with k4
    injection k4 with _ k4
    obtain ⟨xs, xv⟩ := x
    obtain ⟨es, ev⟩ := e
    dsimp only at e2 k4 h2 hx
    rw [e2, ← k4, ← h2] at hx
    exact hx
end Go.Proofs.YtdlmmbfnmnglaaaGreatDoor

namespace Go.Proofs.YtdlmmbfnmnglaaaGreatDoor
open Go.RowKit

theorem list_ex {α β : Type} : ∀ {l : List α} {p : Nat → α → β → Prop}, (∀ i a, l[i]? = some a → ∃ c, p i a c) → ∃ cs : List β, cs.length = l.length ∧ ∀ i a, l[i]? = some a → ∃ c, cs[i]? = some c ∧ p i a c
  | [], _, _ => ⟨[], rfl, fun i a h => by simp at h⟩
  | x :: l, p, h => by
    obtain ⟨c, hc⟩ := h 0 x rfl
    obtain ⟨cs, h1, h2⟩ := list_ex (l := l) (p := fun i => p (i + 1)) fun i a hi => h (i + 1) a (by simpa using hi)
    refine ⟨c :: cs, by simp [h1], fun i a hi => ?_⟩
    cases i with
    | zero => simp at hi; subst hi; exact ⟨c, rfl, hc⟩
    | succ i => simpa using h2 i a (by simpa using hi)
theorem flat_lenF {css : List (List Value)} {size : Nat} (h : ∀ cs ∈ css, cs.length = size) : css.flatten.length = css.length * size := by
  induction css with
  | nil => simp
  | cons c css ih => rw [List.flatten_cons, List.length_append, h c (by simp), ih fun cs hc => h cs (by simp [hc]), List.length_cons, Nat.add_mul]; omega
theorem wpList_append_sls {P : Program} (w : World) {ops : Array Oper} {rest : List Oper} {o : Oper} {a : Act} {Q : Exit → Act → World → Prop} (hgd : o.guard = none) (s x : Operand) (t : TypeId)
    (ho : o.op = .call { callee := .builtin .append, args := #[s, x], argTypes := #[t, t] })
    {e : TypeId} {size bytes : Nat} (hE : ElemOf P t e size bytes) {α : Type} {R : World → (Nat → Prop) → List Value → α → Prop} (hR : Good R)
    (hfree : ∀ (w : World) (F G : Nat → Prop) (cs : List Value) (a : α), R w F cs a → R w G cs a) (hone : ∀ (w : World) (F : Nat → Prop) (cs : List Value) (a : α), R w F cs a → ∀ u ∈ cs, u.oneCell' = true)
    (base : Nat) (v : Value) (l : List α) (hs : a.eval s = v) (hown : OwnSl size R e base w v l)
    (F : Nat → Prop) (ad : Addr) (c : Nat) (l2 : List α) (hx : a.eval x = .slice (some ad) l2.length c) (hsl : Sl size R w F (.slice (some ad) l2.length c) l2)
    (h63 : l.length + l2.length ≤ maxLen) (hbytes : (l.length + l2.length) * bytes ≤ 140737488355328) (hbase : base ≤ w.heap.size)
    (h : ∀ v' w', OwnSl size R e base w' v' (l ++ l2) → w.grownBy w' v.ownBlock → (v'.ownBlock = v.ownBlock ∨ v'.ownBlock = some w.heap.size) → wpList P ops Q rest (a.put o.dst v') w') : wpList P ops Q (o :: rest) a w := by
  obtain ⟨i, z, e1, e2, e3, e4, e5, e6, e7⟩ := hE
  obtain ⟨css, hlen, ho', hsz, hel'⟩ := hown
  have hcs : ∃ css2 : List (List Value), css2.length = l2.length ∧ ∀ i a, l2[i]? = some a → ∃ cs, css2[i]? = some cs ∧ (cs.length = size ∧ (∀ j u, cs[j]? = some u → w.cell? (ad.add (i * size + j)) = some u) ∧ R w F cs a) := by
    obtain ⟨A, c', hv, _, _, hA⟩ := hsl
    injection hv with hv1 hv2 hv3
    subst hv1
    refine list_ex fun i a hi => ?_
    obtain ⟨b, off, hAe, _, hcell⟩ := hA (by have := (List.getElem?_eq_some_iff.1 hi).1; omega)
    obtain rfl := Option.some.inj hAe
    obtain ⟨cs, k1, k2, k3⟩ := hcell i a hi
    refine ⟨cs, k1, fun j u hj => ?_, k3⟩
    have := k2 j u hj
    rw [Addr.add_lit, ← Nat.add_assoc]; exact this
  obtain ⟨css2, hl2, hc2⟩ := hcs
  have hsz2 : ∀ cs ∈ css2, cs.length = size := fun cs hcs => by
    obtain ⟨i, hi, rfl⟩ := List.getElem_of_mem hcs
    obtain ⟨cs', k1, k2, _⟩ := hc2 i l2[i] (List.getElem?_eq_getElem (by omega))
    rw [List.getElem?_eq_getElem hi] at k1
    rw [Option.some.inj k1]; exact k2
  have hnl : css2.flatten.length = l2.length * size := by rw [flat_lenF hsz2, hl2]
  have hsize : 0 < size := e7
  have hget : ∀ (j : Nat) (u : Value), css2.flatten[j]? = some u → ∃ (i : Nat) (r : Nat) (a : α) (cs : List Value), j = i * size + r ∧ l2[i]? = some a ∧ css2[i]? = some cs ∧ cs[r]? = some u := fun j u hj => by
    have hjl := (List.getElem?_eq_some_iff.1 hj).1
    rw [hnl] at hjl
    have hi : j / size < l2.length := Nat.div_lt_of_lt_mul (by rw [Nat.mul_comm]; exact hjl)
    obtain ⟨cs, k1, k2, _⟩ := hc2 (j / size) l2[j / size] (List.getElem?_eq_getElem hi)
    have hr : j % size < cs.length := by rw [k2]; exact Nat.mod_lt _ hsize
    have hdm : j = j / size * size + j % size := by rw [Nat.mul_comm]; exact (Nat.div_add_mod j size).symm
    have hf := flatten_get hsz2 k1 (List.getElem?_eq_getElem hr)
    rw [← hdm, hj] at hf
    exact ⟨j / size, j % size, _, cs, hdm, List.getElem?_eq_getElem hi, k1, by rw [List.getElem?_eq_getElem hr]; exact hf.symm⟩
  obtain ⟨v', w', hr, h2, h3, _, h4⟩ := run_append_own_at (P := P) w base t o.type e i z size bytes e1 e2 e3 e4 e5 e6 e7 v l.length css.flatten ho' ad l2.length c css2.flatten hnl (fun j u hj => by
      obtain ⟨i, r, a, cs, rfl, k1, k2, k3⟩ := hget j u hj
      obtain ⟨cs', g1, _, g2, _⟩ := hc2 i a k1
      rw [k2] at g1; obtain rfl := Option.some.inj g1
      exact g2 r u k3) (fun u hu => by
      obtain ⟨j, hj, rfl⟩ := List.getElem_of_mem hu
      obtain ⟨i, r, a, cs, _, k1, k2, k3⟩ := hget j _ (List.getElem?_eq_getElem hj)
      obtain ⟨cs', g1, _, _, g3⟩ := hc2 i a k1
      rw [k2] at g1; obtain rfl := Option.some.inj g1
      exact hone _ _ _ _ g3 _ (List.mem_of_getElem? k3)) h63 hbytes hbase
  refine wpList_plain hgd fun K hK => ?_
  unfold Oper.wp execOp
  simp only [ho, resolve, invoke, builtin, Sem.run_bind, Sem.run_pure, Result.andThen_ok, List.map_toArray, List.map_cons, List.map_nil, hs, hx, hr]
  refine hK _ _ (h v' w' ⟨css ++ css2, by simp [hlen, hl2], by rw [List.flatten_append, List.length_append]; exact h2, fun cs hc => ?_, fun i a cs h5 h6 => ?_⟩ h3 h4)
  · rcases List.mem_append.1 hc with hc | hc
    · exact hsz cs hc
    · exact hsz2 cs hc
  · by_cases hi : i < l.length
    · rw [List.getElem?_append_left hi] at h5
      rw [List.getElem?_append_left (by omega)] at h6
      exact hR.keep (hel' i a cs h5 h6) (fun b hb => hb.elim) fun b hb => hb.elim
    · rw [List.getElem?_append_right (by omega)] at h5
      rw [List.getElem?_append_right (by omega), hlen] at h6
      obtain ⟨cs', g1, _, _, g3⟩ := hc2 (i - l.length) a h5
      rw [h6] at g1; obtain rfl := Option.some.inj g1
      exact hR.keep (hfree _ _ NoG _ _ g3) (fun b hb => hb.elim) fun b hb => hb.elim
end Go.Proofs.YtdlmmbfnmnglaaaGreatDoor

namespace Go.Proofs.YtdlmmbfnmnglaaaGreatDoor
open Go.RowKit Go.Maps

set_option maxRecDepth 100000 in
set_option maxHeartbeats 4000000 in
theorem or_look (c : Chs) (m K : Nat) (ih : ∀ k, k < m → SolveO 52 c k) (hK : ∀ k, k < m → cntR k ≤ K) (F : Nat → Prop) (b g0 g2 : Nat) (bv wv pv ov : Value) : LookO 97 F b g0 g2 K m c bv wv pv ov := by
  intro x hx hre hr N D W henv hown hkn hN
  have hch := henv.ch
  obtain ⟨A, ca, rfl, hc1, hc2⟩ := hch.mdl.bat.shape
  obtain ⟨A1, ca1, rfl, hc3, hc4⟩ := hch.mdl.bow.shape
  obtain ⟨A2, ca2, rfl, hc5, hc6⟩ := hch.bow.shape
  obtain ⟨A3, ca3, rfl, hc7, hc8⟩ := hch.ord.shape
  have hb1 : Below W.heap.size W (W.alloc (.cells #[.int .i64 x.ball, .int .i64 x.need, .int .i64 x.str, .int .i64 x.par, .int .u16 x.wait] 45)) := Below.alloc (Below.refl _ _) (Nat.le_refl _) _
  have he1 := henv.only (Only.of_below (g := b) hb1)
  have hKx := hK _ hr
  have kS := (ih (rankO c x) hr x rfl hx hre _ _ _ _ F b N D _ he1.ch he1.hF (ovals_below hown hb1) hkn (by omega)).mono fun e w2 ⟨h1, h2, D', h3, h4, h5, h6⟩ => (⟨h1, (Only.of_below hb1).trans h2, D', h3.mono (show N + cntR (rankO c x) ≤ N + K by omega), h4, h5, h6⟩ : e = Ending.returned (.int .i64 (vO c x)) ∧ Only b W w2 ∧ ∃ D', ValsO w2 b (N + K) D' ∧ KnownO c D' ∧ GrewO D D' ∧ Maps.has D' (keyOs x) = true)
  unfold chV osV at kS
  unfold osV
  have hl0 := henv.t0.lt
  have hl2 := henv.m2.lt
  have y0 : W.cell? ⟨g0, 0, none⟩ = some (.slice A c.mdl.bats.length ca) := henv.t0.cell 0
  have y1 : W.cell? ⟨g0, 1, none⟩ = some (.slice A1 c.mdl.bows.length ca1) := henv.t0.cell 1
  have y2 : W.cell? ⟨g0, 2, none⟩ = some (.slice A2 c.bows.length ca2) := henv.t0.cell 2
  have y3 : W.cell? ⟨g0, 3, none⟩ = some (.int .i64 c.over) := henv.t0.cell 3
  have y4 : W.cell? ⟨g0, 4, none⟩ = some (.int .i64 c.done) := henv.t0.cell 4
  have y5 : W.cell? ⟨g0, 5, none⟩ = some (.int .i64 c.need) := henv.t0.cell 5
  have y6 : W.cell? ⟨g0, 6, none⟩ = some (.slice A3 c.ord.length ca3) := henv.t0.cell 6
  have y7 : W.cell? ⟨g2, 0, none⟩ = some (.map (some b)) := henv.m2.cell 0
  obtain ⟨v, hv⟩ : ∃ v, v = vO c x := ⟨_, rfl⟩
  rw [← hv] at kS ⊢
  obtain ⟨kk, hkk⟩ : ∃ kk, kk = keyOs x := ⟨_, rfl⟩
  rw [← hkk] at kS ⊢
  obtain ⟨x0, x1, x2, x3, x4⟩ := x
  dsimp only at kS ⊢
  have KS := Lib.hid kS
  clear kS hkk hre hv hb1 he1 hKx hch henv hown hkn hN hr hx ih hK
  go_enter Tryz.func97, Tryz.ntmps97
  go_wp2_with (go_at_call 52; refine KS.out.mono ?_; rintro e w2 ⟨rfl, h2, h3⟩; have H2 := Lib.hid h2; have H3 := Lib.hid h3; clear h2 h3)
  go_ret2
  exact ⟨rfl, H2.out, H3.out⟩
/-- A task, a state and a map's variable boxed in solve's frame, the map beside them. -/
structure SolW (w W : World) (F : Nat → Prop) (b N : Nat) (P : DataW Unit → Prop) (c : Chs) (bv wv pv ov : Value) (s : Ost) : Prop where
  only : Only b w W
  st : Blk W (w.heap.size + 1) 45 #[.int .i64 s.ball, .int .i64 s.need, .int .i64 s.str, .int .i64 s.par, .int .u16 s.wait]
  blt : b < w.heap.size
  env : EnvO W F b w.heap.size (w.heap.size + 1 + 1) c bv wv pv ov
  vals : ∃ D, ValsO W b N D ∧ KnownO c D ∧ P D
section
variable {w W W' : World} {F : Nat → Prop} {b N N' : Nat} {P P' : DataW Unit → Prop} {c : Chs} {bv wv pv ov : Value} {s : Ost}
theorem SolW.into (h : SolW w W F b N P c bv wv pv ov s) (ho : Only b W W') (hv : ∃ D, ValsO W' b N' D ∧ KnownO c D ∧ P' D) : SolW w W' F b N' P' c bv wv pv ov s :=
  ⟨h.only.trans ho, h.st.grown ho (by intro e; injection e with e; have := h.blt; omega), h.blt, h.env.only ho, hv⟩
theorem SolW.cells (h : SolW w W F b N P c bv wv pv ov s) : W.cell? ⟨w.heap.size, 0, none⟩ = some bv ∧ W.cell? ⟨w.heap.size, 1, none⟩ = some wv ∧ W.cell? ⟨w.heap.size, 2, none⟩ = some pv ∧ W.cell? ⟨w.heap.size, 3, none⟩ = some (.int .i64 c.over) ∧ W.cell? ⟨w.heap.size, 4, none⟩ = some (.int .i64 c.done) ∧ W.cell? ⟨w.heap.size, 5, none⟩ = some (.int .i64 c.need) ∧ W.cell? ⟨w.heap.size, 6, none⟩ = some ov ∧
    W.cell? ⟨w.heap.size + 1, 0, none⟩ = some (.int .i64 s.ball) ∧ W.cell? ⟨w.heap.size + 1, 1, none⟩ = some (.int .i64 s.need) ∧ W.cell? ⟨w.heap.size + 1, 2, none⟩ = some (.int .i64 s.str) ∧ W.cell? ⟨w.heap.size + 1, 3, none⟩ = some (.int .i64 s.par) ∧ W.cell? ⟨w.heap.size + 1, 4, none⟩ = some (.int .u16 s.wait) ∧ W.cell? ⟨w.heap.size + 1 + 1, 0, none⟩ = some (.map (some b)) :=
  ⟨h.env.t0.cell 0, h.env.t0.cell 1, h.env.t0.cell 2, h.env.t0.cell 3, h.env.t0.cell 4, h.env.t0.cell 5, h.env.t0.cell 6, h.st.cell 0, h.st.cell 1, h.st.cell 2, h.st.cell 3, h.st.cell 4, h.env.m2.cell 0⟩
theorem SolW.new {D : DataW Unit} (hch : ChAt w F bv wv pv ov c) (hF : ∀ x, F x → x < w.heap.size ∧ x ≠ b) (h1 : ValsO w b N D) (h2 : KnownO c D) (h3 : P D) : SolW w (((w.alloc (.cells #[bv, wv, pv, .int .i64 c.over, .int .i64 c.done, .int .i64 c.need, ov] 42)).alloc (.cells #[.int .i64 s.ball, .int .i64 s.need, .int .i64 s.str, .int .i64 s.par, .int .u16 s.wait] 45)).alloc (.cells #[.map (some b)] 81)) F b N P c bv wv pv ov s ∧ ValsO (((w.alloc (.cells #[bv, wv, pv, .int .i64 c.over, .int .i64 c.done, .int .i64 c.need, ov] 42)).alloc (.cells #[.int .i64 s.ball, .int .i64 s.need, .int .i64 s.str, .int .i64 s.par, .int .u16 s.wait] 45)).alloc (.cells #[.map (some b)] 81)) b N D := by
  have hx := OSB.new w c bv wv pv ov s
  have hb := hx.bel.alloc hx.bel.size (.cells #[.map (some b)] 81)
  have hm := Blk.new ((w.alloc (.cells #[bv, wv, pv, .int .i64 c.over, .int .i64 c.done, .int .i64 c.need, ov] 42)).alloc (.cells #[.int .i64 s.ball, .int .i64 s.need, .int .i64 s.str, .int .i64 s.par, .int .u16 s.wait] 45)) 81 #[.map (some b)]
  rw [World.size_alloc, World.size_alloc] at hm
  have ho := Only.of_below (g := b) hb
  have hlt := h1.lt
  have hv := ovals_below h1 hb
  exact ⟨⟨ho, hx.st.alloc _, hlt, ⟨hch.keep (ho.same hF) fun _ h => h, fun x hx => ⟨Nat.lt_of_lt_of_le (hF x hx).1 ho.size, (hF x hx).2⟩, hx.box.alloc _, hm, by omega, by omega⟩, D, hv, h2, h3⟩, hv⟩
end
theorem cnt_fit {m K N : Nat} (h : (m = 0 ∧ K = 0) ∨ (∃ k, m = k + 1 ∧ K = cntR k)) : (if m % 2 = 1 then 6 else 16) * K + 1 ≤ cntR m := by
  rcases h with ⟨rfl, rfl⟩ | ⟨k, rfl, rfl⟩
  · exact Nat.le_refl _
  · rw [cntR]
    by_cases h : k % 2 = 0
    · rw [if_pos h, if_pos (by omega)]; omega
    · rw [if_neg h, if_neg (by omega)]; omega
set_option maxRecDepth 100000 in
set_option maxHeartbeats 4000000 in
theorem or_solve_at (c : Chs) (ht : OkT c) (m : Nat) (ih : ∀ k, k < m → SolveO 52 c k) : SolveO 52 c m := by
  intro s hm hs hr bv wv pv ov F b N D w h hF hown hkn hN
  have hkey := okey_of (hs.smol ht)
  obtain ⟨z, hz⟩ : ∃ z, z = vO c s := ⟨_, rfl⟩
  have hbd := vO_bd ht _ s hs rfl
  have hp16 := pow16_le (leftO_le ht hs)
  have hz0 : 0 ≤ z ∧ z ≤ 281474976710656 := by rw [hz]; omega
  have hit : Maps.has D (keyOs s) = true → D.atKey (keyOs s) (.lit (.int .i64 0)) = .lit (.int .i64 z) := fun hh => by rw [hz]; exact hkn.val s hs hh
  obtain ⟨xs, hxs⟩ : ∃ xs, xs = (nextsO c s).1 := ⟨_, rfl⟩
  have hput : ∀ (D2 : DataW Unit), KnownO c D2 → IsMap D2 → (GrewO D D2 ∧ ∀ x ∈ xs, Maps.has D2 (keyOs x) = true) → KnownO c (D2.put (keyOs s) (.lit (.int .i64 z))) ∧ GrewO D (D2.put (keyOs s) (.lit (.int .i64 z))) ∧ Maps.has (D2.put (keyOs s) (.lit (.int .i64 z))) (keyOs s) = true := fun D2 h1 h2 h3 => ⟨by rw [hz]; exact h1.put h2 ht hs hr (by rw [← hxs]; exact h3.2), h3.1.trans (GrewO.put h2 s _), has_put_same h2 (okey_lit s) _⟩
  obtain ⟨K, hK1, hK2⟩ : ∃ K, ((m = 0 ∧ K = 0) ∨ (∃ k, m = k + 1 ∧ K = cntR k)) ∧ ∀ k, k < m → cntR k ≤ K := by
    cases m with
    | zero => exact ⟨0, .inl ⟨rfl, rfl⟩, fun k hk => by omega⟩
    | succ k => exact ⟨cntR k, .inr ⟨k, rfl, rfl⟩, fun j hj => cntR_mono (by omega)⟩
  have hfit := cnt_fit (N := N) hK1
  obtain ⟨A, ca, rfl, hc1, hc2⟩ := h.mdl.bat.shape
  obtain ⟨A1, ca1, rfl, hc3, hc4⟩ := h.mdl.bow.shape
  obtain ⟨A2, ca2, rfl, hc5, hc6⟩ := h.bow.shape
  obtain ⟨A3, ca3, rfl, hc7, hc8⟩ := h.ord.shape
  obtain ⟨hsw, hv0⟩ := SolW.new (s := s) (P := GrewO D) h hF hown hkn (GrewO.refl _)
  have hval := fun W (he : EnvO W F b w.heap.size (w.heap.size + 1 + 1) c (.slice A c.mdl.bats.length ca) (.slice A1 c.mdl.bows.length ca1) (.slice A2 c.bows.length ca2) (.slice A3 c.ord.length ca3)) D2 (h1 : ValsO W b N D2) (h2 : KnownO c D2) => or_value c ht s hs hr F b w.heap.size (w.heap.size + 1 + 1) K N D2 _ _ _ _ W (by rw [hm]; exact or_look c m K ih hK2 F b _ _ _ _ _ _) he h1 h2 (by rw [hm]; omega)
  rw [hm, ← hz, ← hxs] at hval
  obtain ⟨Q, hQ⟩ : ∃ q, q = (if m % 2 = 1 then 6 else 16) * K := ⟨_, rfl⟩
  rw [← hQ] at hfit hval
  obtain ⟨CC, hCC⟩ : ∃ q, q = cntR m := ⟨_, rfl⟩
  rw [← hCC] at hfit hN ⊢
  obtain ⟨NN, hNN⟩ : ∃ q, q = N + Q := ⟨_, rfl⟩
  rw [← hNN] at hval
  have hN9 : NN + 1 ≤ N + CC := by omega
  have hN8 : NN < 2000000000000000000 := by omega
  have hN7 : N ≤ N + CC := by omega
  rw [← hz]
  unfold chV at hval ⊢
  have HW := Lib.hid hsw
  have HV0 := Lib.hid hv0
  have HPUT := Lib.hid hput
  have HKN := Lib.hid hkn
  cases hh : Maps.has D (keyOs s)
  case true =>
    have HIT := Lib.hid (hit hh)
    have HH := Lib.hid hh
    obtain ⟨ball, need, str, par, wait⟩ := s
    unfold osV at hkey ⊢
    dsimp only at hkey ⊢
    have HKEY := Lib.hid hkey
    clear hxs hr hkey hit hput hkn hval ih hz hbd hp16 hs hm hK1 hK2 hfit hQ hCC hNN hsw hv0 hown h hF ht hN hN8 hN9
    go_enter Tryz.func52, Tryz.ntmps52
    go_wp2_with (at_lookup; refine wpList_lookup_own_ok_int _ rfl _ _ 81 rfl 45 2 .i64 law45 Tryz.underlying81 Tryz.underlying2 (zero_i64 _) b N D rfl HV0.out _ _ rfl HKEY.out ?_; intro cc hat hwc; have HC := Lib.hid (show cc = z from by have := hat.symm.trans HIT.out; injection this with this; injection this); clear hat hwc)
    go_ret
    exact ⟨ret_i HC.out, HW.out.only, D, HV0.out.mono hN7, HKN.out, GrewO.refl _, HH.out⟩
  case false =>
    obtain ⟨ball, need, str, par, wait⟩ := s
    unfold osV at hkey hval ⊢
    dsimp only at hkey hval ⊢
    have HKEY := Lib.hid hkey
    have HVAL := Lib.hid hval
    obtain ⟨y0, y1, y2, y3, y4, y5, y6, t0, t1, t2, t3, t4, t5⟩ := HW.out.cells
    dsimp only at t0 t1 t2 t3 t4
    have tok0 : True := trivial
    clear hxs hr hkey hit hput hkn hval ih hz hbd hp16 hs hm hK1 hK2 hfit hQ hCC hNN hsw hv0 hown h hF ht hN hN7 y0 y1 y2 y3 y4 y5 y6 t0 t1 t2 t3 t4 t5
    go_enter Tryz.func52, Tryz.ntmps52
    go_wp2_with (first
      | (at_lookup; refine wpList_lookup_own_ok_int _ rfl _ _ 81 rfl 45 2 .i64 law45 Tryz.underlying81 Tryz.underlying2 (zero_i64 _) b N D rfl HV0.out _ _ rfl HKEY.out ?_; intro cc hat hwc; clear hat hwc)
      | (clear tok0; go_at_call 44; refine (HVAL.out _ HW.out.env D HV0.out HKN.out).mono ?_; rintro e w2 ⟨rfl, ho2, hv2⟩; have HW2 := Lib.hid (show SolW w w2 F b NN (fun D' => GrewO D D' ∧ ∀ x ∈ xs, Maps.has D' (keyOs x) = true) c (.slice A c.mdl.bats.length ca) (.slice A1 c.mdl.bows.length ca1) (.slice A2 c.bows.length ca2) (.slice A3 c.ord.length ca3) ⟨ball, need, str, par, wait⟩ from HW.out.into ho2 hv2); obtain ⟨y0, y1, y2, y3, y4, y5, y6, t0, t1, t2, t3, t4, t5⟩ := HW2.out.cells; dsimp only at t0 t1 t2 t3 t4; obtain ⟨D2, hv9, hk9, hg9⟩ := HW2.out.vals; have HV9 := Lib.hid hv9; have HK9 := Lib.hid hk9; have HG8 := Lib.hid hg9; clear ho2 hv2 hv9 hk9 hg9; have tok1 : True := trivial)
      | (at_mapUpdate; refine wpList_mapUpdate_own _ rfl _ _ _ 81 rfl 45 2 law45 Tryz.underlying81 _ b NN D2 rfl HV9.out (by unfold maxLen; omega) _ _ _ rfl rfl HKEY.out _ [] (plainElem_int Tryz.underlying2 (WalkArith.wf_i64 (by omega))) ?_; intro w9 hown9 hgrow9; have HG9 := Lib.hid hgrow9; have HO9 := Lib.hid hown9; clear hgrow9 hown9))
    go_ret
    exact ⟨rfl, HW2.out.only.trans HG9.out, _, HO9.out.mono hN9, HPUT.out _ HK9.out HV9.out.isMap HG8.out⟩
theorem or_solve (c : Chs) (ht : OkT c) (m : Nat) : SolveO 52 c m :=
  Nat.strongRecOn m fun m ih => or_solve_at c ht m ih
end Go.Proofs.YtdlmmbfnmnglaaaGreatDoor

namespace Go.Proofs.YtdlmmbfnmnglaaaGreatDoor
open Go.RowKit Go.Maps

/-- A task and a state boxed, a map beside them of which P holds. -/
structure SolF (w W : World) (F : Nat → Prop) (b N : Nat) (P : DataW Unit → Prop) (c : Chs) (bv wv pv ov : Value) (s : Ost) : Prop where
  only : Only b w W
  box : Blk W w.heap.size 42 #[bv, wv, pv, .int .i64 c.over, .int .i64 c.done, .int .i64 c.need, ov]
  st : Blk W (w.heap.size + 1) 45 #[.int .i64 s.ball, .int .i64 s.need, .int .i64 s.str, .int .i64 s.par, .int .u16 s.wait]
  blt : b < w.heap.size
  ch : ChAt W F bv wv pv ov c
  hF : ∀ x, F x → x < W.heap.size ∧ x ≠ b
  vals : ∃ D, ValsO W b N D ∧ KnownO c D ∧ P D
section
variable {w W W' : World} {F : Nat → Prop} {b N N' : Nat} {P P' : DataW Unit → Prop} {c : Chs} {bv wv pv ov : Value} {s : Ost}
theorem SolF.below (h : SolF w W F b N P c bv wv pv ov s) (hb : Below W.heap.size W W') : SolF w W' F b N P c bv wv pv ov s :=
  ⟨h.only.trans (Only.of_below hb), h.box.below hb h.box.lt, h.st.below hb h.st.lt, h.blt, h.ch.keep ((Only.of_below (g := b) hb).same h.hF) fun _ h => h, fun x hx => ⟨Nat.lt_of_lt_of_le (h.hF x hx).1 hb.size, (h.hF x hx).2⟩, let ⟨D, h1, h2, h3⟩ := h.vals; ⟨D, ovals_below h1 hb, h2, h3⟩⟩
theorem SolF.alloc (h : SolF w W F b N P c bv wv pv ov s) (o : Obj) : SolF w (W.alloc o) F b N P c bv wv pv ov s := h.below (Below.alloc (Below.refl _ _) (Nat.le_refl _) o)
theorem SolF.into (h : SolF w W F b N P c bv wv pv ov s) (ho : Only b W W') (hv : ∃ D, ValsO W' b N' D ∧ KnownO c D ∧ P' D) : SolF w W' F b N' P' c bv wv pv ov s :=
  ⟨h.only.trans ho, h.box.grown ho (by intro e; injection e with e; have := h.blt; omega), h.st.grown ho (by intro e; injection e with e; have := h.blt; omega), h.blt, h.ch.keep (ho.same h.hF) fun _ h => h, fun x hx => ⟨Nat.lt_of_lt_of_le (h.hF x hx).1 ho.size, (h.hF x hx).2⟩, hv⟩
theorem SolF.cells (h : SolF w W F b N P c bv wv pv ov s) : W.cell? ⟨w.heap.size, 0, none⟩ = some bv ∧ W.cell? ⟨w.heap.size, 1, none⟩ = some wv ∧ W.cell? ⟨w.heap.size, 2, none⟩ = some pv ∧ W.cell? ⟨w.heap.size, 3, none⟩ = some (.int .i64 c.over) ∧ W.cell? ⟨w.heap.size, 4, none⟩ = some (.int .i64 c.done) ∧ W.cell? ⟨w.heap.size, 5, none⟩ = some (.int .i64 c.need) ∧ W.cell? ⟨w.heap.size, 6, none⟩ = some ov ∧
    W.cell? ⟨w.heap.size + 1, 0, none⟩ = some (.int .i64 s.ball) ∧ W.cell? ⟨w.heap.size + 1, 1, none⟩ = some (.int .i64 s.need) ∧ W.cell? ⟨w.heap.size + 1, 2, none⟩ = some (.int .i64 s.str) ∧ W.cell? ⟨w.heap.size + 1, 3, none⟩ = some (.int .i64 s.par) ∧ W.cell? ⟨w.heap.size + 1, 4, none⟩ = some (.int .u16 s.wait) :=
  ⟨h.box.cell 0, h.box.cell 1, h.box.cell 2, h.box.cell 3, h.box.cell 4, h.box.cell 5, h.box.cell 6, h.st.cell 0, h.st.cell 1, h.st.cell 2, h.st.cell 3, h.st.cell 4⟩
theorem SolF.new {D : DataW Unit} (hch : ChAt w F bv wv pv ov c) (hF : ∀ x, F x → x < w.heap.size ∧ x ≠ b) (h1 : ValsO w b N D) (h2 : KnownO c D) (h3 : P D) : SolF w ((w.alloc (.cells #[bv, wv, pv, .int .i64 c.over, .int .i64 c.done, .int .i64 c.need, ov] 42)).alloc (.cells #[.int .i64 s.ball, .int .i64 s.need, .int .i64 s.str, .int .i64 s.par, .int .u16 s.wait] 45)) F b N P c bv wv pv ov s :=
  let hx := OSB.new w c bv wv pv ov s
  let ho := Only.of_below (g := b) hx.bel
  ⟨ho, hx.box, hx.st, h1.lt, hch.keep (ho.same hF) fun _ h => h, fun x hx => ⟨Nat.lt_of_lt_of_le (hF x hx).1 ho.size, (hF x hx).2⟩, D, ovals_below h1 hx.bel, h2, h3⟩
theorem SolF.chb (h : SolF w W F b N P c bv wv pv ov s) : ChAt W (· < W.heap.size) bv wv pv ov c := h.ch.keep (Same.refl _ _) fun x hx => (h.hF x hx).1
end
theorem osl_only {W W' : World} {b : Nat} {v : Value} {l : List Ost} (h : Sl 5 elOst W (fun x => x < W.heap.size ∧ x ≠ b) v l) (ho : Only b W W') : Sl 5 elOst W' (fun x => x < W'.heap.size ∧ x ≠ b) v l :=
  h.keep elOst_good (ho.same fun x hx => hx) fun x hx => ⟨Nat.lt_of_lt_of_le hx.1 ho.size, hx.2⟩
theorem next_cnt {c : Chs} (ht : OkT c) {s : Ost} (hs : OkOs c s) : (nextsO c s).1.length ≤ (if rankO c s % 2 = 1 then 6 else 16) := by
  have hp := ht.np
  have h1 := (nexts_law ht hs).2.1
  have h2 : vacO s = true → (nextsO c s).1.length ≤ 6 := fun hv => by
    unfold nextsO
    split
    · simp
    · have := sendsL_len s c.ord.length
      first | (show (sendsL s c.ord.length).length ≤ 6; omega) | (rw [if_pos hv]; show (sendsL s c.ord.length).length ≤ 6; omega)
  cases hv : vacO s
  · have : rankO c s % 2 = 0 := by unfold rankO; rw [hv]; simp
    rw [if_neg (by omega)]; exact h1
  · have : rankO c s % 2 = 1 := by unfold rankO; rw [hv]; simp
    rw [if_pos this]; exact h2 hv
set_option maxRecDepth 100000 in
set_option maxHeartbeats 8000000 in
theorem r45_fill_at (c : Chs) (ht : OkT c) (m : Nat) (ih : ∀ k, k < m → SolveO 36 c k) : SolveO 36 c m := by
  intro s hm hs hr bv wv pv ov F b N D w h hF hown hkn hN
  have hkey := okey_of (hs.smol ht)
  obtain ⟨z, hz⟩ : ∃ z, z = vO c s := ⟨_, rfl⟩
  have hz0 : 0 ≤ z ∧ z ≤ 281474976710656 := by rw [hz]; exact vO_48 ht hs
  have hit : Maps.has D (keyOs s) = true → D.atKey (keyOs s) (.lit (.int .i64 0)) = .lit (.int .i64 z) := fun hh => by rw [hz]; exact hkn.val s hs hh
  have hput : ∀ (D2 : DataW Unit), KnownO c D2 → IsMap D2 → (GrewO D D2 ∧ ∀ x ∈ (nextsO c s).1, Maps.has D2 (keyOs x) = true) → KnownO c (D2.put (keyOs s) (.lit (.int .i64 z))) ∧ GrewO D (D2.put (keyOs s) (.lit (.int .i64 z))) ∧ Maps.has (D2.put (keyOs s) (.lit (.int .i64 z))) (keyOs s) = true := fun D2 h1 h2 h3 => ⟨by rw [hz]; exact h1.put h2 ht hs hr h3.2, h3.1.trans (GrewO.put h2 s _), has_put_same h2 (okey_lit s) _⟩
  obtain ⟨K, hK1, hK2⟩ : ∃ K, ((m = 0 ∧ K = 0) ∨ (∃ k, m = k + 1 ∧ K = cntR k)) ∧ ∀ k, k < m → cntR k ≤ K := by
    cases m with
    | zero => exact ⟨0, .inl ⟨rfl, rfl⟩, fun k hk => by omega⟩
    | succ k => exact ⟨cntR k, .inr ⟨k, rfl, rfl⟩, fun j hj => cntR_mono (by omega)⟩
  have hfit := cnt_fit (N := N) hK1
  have hcnt := next_cnt ht hs
  rw [hm] at hcnt
  obtain ⟨A, ca, rfl, hc1, hc2⟩ := h.mdl.bat.shape
  obtain ⟨A1, ca1, rfl, hc3, hc4⟩ := h.mdl.bow.shape
  obtain ⟨A2, ca2, rfl, hc5, hc6⟩ := h.bow.shape
  obtain ⟨A3, ca3, rfl, hc7, hc8⟩ := h.ord.shape
  have hnew := SolF.new (s := s) (P := fun D' => GrewO D D' ∧ ∀ x ∈ ((nextsO c s).1.take 0), Maps.has D' (keyOs x) = true) h hF hown hkn ⟨GrewO.refl _, fun x hx => by cases hx⟩
  have kn := fun W (hW : ChAt W (· < W.heap.size) (.slice A c.mdl.bats.length ca) (.slice A1 c.mdl.bows.length ca1) (.slice A2 c.bows.length ca2) (.slice A3 c.ord.length ca3) c) => r45_nexts c ht s hs _ _ _ _ W hW
  have ksum := fun W N2 D2 (hW : ChAt W (· < W.heap.size) (.slice A c.mdl.bats.length ca) (.slice A1 c.mdl.bows.length ca1) (.slice A2 c.bows.length ca2) (.slice A3 c.ord.length ca3) c) (h1 : ValsO W b N2 D2) (h2 : KnownO c D2) (h3 : ∀ x ∈ (nextsO c s).1, Maps.has D2 (keyOs x) = true) => r45_sum c ht s hs _ _ _ _ b N2 D2 W hW h1 h2 h3
  have hmem : ∀ (k : Nat) (h1 : k < (nextsO c s).1.length), OkOs c (nextsO c s).1[k] ∧ rankO c (nextsO c s).1[k] < m := fun k h1 => by
    have h2 : k < (nextsO c s).2.length := by rw [← (nexts_law ht hs).1]; exact h1
    have h3 := (nexts_law ht hs).2.2.1 k h1 h2
    exact ⟨h3.ok, by rw [← hm]; exact h3.rank⟩
  have hv0 := (ovals_below hown (OSB.new w c (.slice A c.mdl.bats.length ca) (.slice A1 c.mdl.bows.length ca1) (.slice A2 c.bows.length ca2) (.slice A3 c.ord.length ca3) s).bel)
  rw [← hz] at ksum
  have hrx := ReachO.next hr
  revert hcnt hnew kn ksum hmem hrx hput
  generalize nextsO c s = r
  obtain ⟨l, ws⟩ := r
  intro hput hcnt hnew kn ksum hmem hrx
  dsimp only at hcnt hnew kn ksum hmem hrx hput
  have krec : ∀ (k : Nat) (hk : k < l.length) (D' : DataW Unit) (N' : Nat) (W : World), ChAt W F (.slice A c.mdl.bats.length ca) (.slice A1 c.mdl.bows.length ca1) (.slice A2 c.bows.length ca2) (.slice A3 c.ord.length ca3) c → (∀ x, F x → x < W.heap.size ∧ x ≠ b) → ValsO W b N' D' → KnownO c D' → N' + K ≤ 2000000000000000000 →
      Calls Tryz.prog 36 #[chV c (.slice A c.mdl.bats.length ca) (.slice A1 c.mdl.bows.length ca1) (.slice A2 c.bows.length ca2) (.slice A3 c.ord.length ca3), osV l[k], .map (some b)] W fun e w2 => e = .returned (.int .i64 (vO c l[k])) ∧ Only b W w2 ∧ ∃ D7, ValsO w2 b (N' + K) D7 ∧ KnownO c D7 ∧ GrewO D' D7 ∧ Maps.has D7 (keyOs l[k]) = true := fun k hk D' N' W h1 h2 h3 h4 h5 => by
    have h6 := hK2 _ (hmem k hk).2
    refine (ih _ (hmem k hk).2 l[k] rfl (hmem k hk).1 (hrx _ (List.getElem_mem hk)) _ _ _ _ F b N' D' W h1 h2 h3 h4 (by omega)).mono ?_
    rintro e w2 ⟨a1, a2, D7, a3, a4, a5, a6⟩
    exact ⟨a1, a2, D7, a3.mono (by omega), a4, a5, a6⟩
  have htk : ∀ (k : Nat) (hk : k < l.length) (x : Ost), x ∈ l.take (k + 1) → x ∈ l.take k ∨ x = l[k] := fun k hk x hx => by
    rw [List.take_add_one, List.getElem?_eq_getElem hk] at hx
    rcases List.mem_append.1 hx with hx | hx
    · exact .inl hx
    · exact .inr (by simpa using hx)
  obtain ⟨CC, hCC⟩ : ∃ q, q = cntR m := ⟨_, rfl⟩
  rw [← hCC] at hfit hN ⊢
  have hl16 : l.length ≤ 16 := by
    revert hcnt
    split <;> omega
  have hlK : l.length * K + 1 ≤ CC := by
    have := Nat.mul_le_mul_right K hcnt
    omega
  rw [← hz]
  unfold chV osV at kn ksum krec
  unfold chV osV
  have HPUT := Lib.hid hput
  have HKN := Lib.hid hkn
  have HV0 := Lib.hid hv0
  have HW := Lib.hid hnew
  cases hh : Maps.has D (keyOs s)
  case true =>
    have HIT := Lib.hid (hit hh)
    have HH := Lib.hid hh
    obtain ⟨ball, need, str, par, wait⟩ := s
    unfold osV at hkey
    dsimp only at hkey ⊢
    have HKEY := Lib.hid hkey
    have hN7 : N ≤ N + CC := by omega
    clear hr hrx hkey hit hput hkn ih hz hs hm hK1 hK2 hfit hCC hnew hv0 hown h hF ht hN hcnt kn ksum hmem krec htk hlK
    go_enter Tryz.func36, Tryz.ntmps36
    go_wp2_with (at_lookup; refine wpList_lookup_own_ok_int _ rfl _ _ 81 rfl 45 2 .i64 law45 Tryz.underlying81 Tryz.underlying2 (zero_i64 _) b N D rfl HV0.out _ _ rfl HKEY.out ?_; intro cc hat hwc; have HC := Lib.hid (show cc = z from by have := hat.symm.trans HIT.out; injection this with this; injection this); clear hat hwc)
    go_ret
    exact ⟨ret_i HC.out, HW.out.only, D, HV0.out.mono hN7, HKN.out, GrewO.refl _, HH.out⟩
  case false =>
    have KN := Lib.hid kn
    have KSUM := Lib.hid ksum
    have KREC := Lib.hid krec
    have HTK := Lib.hid htk
    obtain ⟨ball, need, str, par, wait⟩ := s
    unfold osV at hkey
    dsimp only at hkey KN KSUM ⊢
    have HKEY := Lib.hid hkey
    obtain ⟨y0, y1, y2, y3, y4, y5, y6, t0, t1, t2, t3, t4⟩ := HW.out.cells; dsimp only at t0 t1 t2 t3 t4; 
    have tok0 : True := trivial
    clear hr hrx hkey hit hput hkn ih hz hs hm hK1 hK2 hfit hCC hnew hv0 hown h hF ht hcnt kn ksum hmem krec htk y0 y1 y2 y3 y4 y5 y6 t0 t1 t2 t3 t4
    go_enter Tryz.func36, Tryz.ntmps36
    go_wp2_with (first
      | (at_lookup; refine wpList_lookup_own_ok_int _ rfl _ _ 81 rfl 45 2 .i64 law45 Tryz.underlying81 Tryz.underlying2 (zero_i64 _) b N D rfl HV0.out _ _ rfl HKEY.out ?_; intro cc hat hwc; clear hat hwc)
      | (clear tok0; go_at_call 79; refine (KN.out _ HW.out.chb).mono ?_; rintro e w2 ⟨A4, n4, k4, A5, n5, k5, rfl, hb3, hs3, hs4⟩; obtain ⟨Az, kz, hze, hz1, hz2⟩ := hs3.shape; have hn4 : n4 = l.length := (by injection hze); subst hn4; have HW2 := Lib.hid (HW.out.below hb3); have HL2 := Lib.hid (hs3.keep (G := fun x => x < w2.heap.size ∧ x ≠ b) elOst_good (Same.refl _ _) fun x hx => ⟨hx.2, by have := HW.out.blt; have := HW.out.only.size; omega⟩); obtain ⟨y0, y1, y2, y3, y4, y5, y6, t0, t1, t2, t3, t4⟩ := HW2.out.cells; dsimp only at t0 t1 t2 t3 t4; clear hb3 hs3 hs4 hze hz1 hz2; have tok1 : True := trivial))
    go_loopw [31] (fun i wr => ∃ (k : Nat), k ≤ l.length ∧ i = .int .i64 k ∧ Hid (SolF w wr F b (N + k * K) (fun D' => GrewO D D' ∧ ∀ x ∈ (l.take k), Maps.has D' (keyOs x) = true) c (.slice A c.mdl.bats.length ca) (.slice A1 c.mdl.bows.length ca1) (.slice A2 c.bows.length ca2) (.slice A3 c.ord.length ca3) ⟨ball, need, str, par, wait⟩) ∧ Hid (Sl 5 elOst wr (fun x => x < wr.heap.size ∧ x ≠ b) (.slice A4 l.length k4) l)) (fun i _ => l.length - (intOf i).toNat)
    case atStart => exact ⟨0, Nat.zero_le _, rfl, Lib.hid (by rw [Nat.zero_mul]; exact HW2.out), HL2⟩
    case round =>
      clear y0 y1 y2 y3 y4 y5 y6 t0 t1 t2 t3 t4 HW2 HL2
      obtain ⟨k, hk, rfl, HS, HL⟩ := hrel
      obtain ⟨y0, y1, y2, y3, y4, y5, y6, t0, t1, t2, t3, t4⟩ := HS.out.cells; dsimp only at t0 t1 t2 t3 t4; 
      have hl1 := HS.out.box.lt
      have hl2 := HS.out.st.lt
      by_cases hlt : k < l.length
      · obtain ⟨b0, o, rfl, hbl, g0, g1, g2, g3, g4⟩ := ost_at HL.out hlt
        have kR := KREC.out k hlt
        have hT := HTK.out k hlt
        obtain ⟨⟨q0, q1, q2, q3, q4⟩, hx⟩ : ∃ x, x = l[k] := ⟨_, rfl⟩
        rw [← hx] at g0 g1 g2 g3 g4
        simp only [← hx] at kR hT
        obtain ⟨vv, hvv⟩ : ∃ x, x = vO c ⟨q0, q1, q2, q3, q4⟩ := ⟨_, rfl⟩
        simp only [← hvv] at kR
        dsimp only at g0 g1 g2 g3 g4 kR
        have hkK : N + k * K + K ≤ 2000000000000000000 := by have := Nat.mul_le_mul_right K (show k + 1 ≤ l.length by omega); rw [Nat.add_mul, Nat.one_mul] at this; omega
        have KR := Lib.hid kR
        have HT := Lib.hid hT
        have HSA := Lib.hid (HS.out.alloc (.cells #[.int .i64 q0, .int .i64 q1, .int .i64 q2, .int .i64 q3, .int .u16 q4] 45))
        have HLA := Lib.hid (osl_only HL.out (Only.of_below (g := b) (Below.alloc (Below.refl wr.heap.size wr) (Nat.le_refl _) (.cells #[.int .i64 q0, .int .i64 q1, .int .i64 q2, .int .i64 q3, .int .u16 q4] 45))))
        clear kR hT hx hvv
        have tok5 : True := trivial
        go_wp2_with (clear tok5; go_at_call 36; obtain ⟨D5, hv5, hk5, hg5⟩ := HSA.out.vals; refine (KR.out D5 _ _ HSA.out.ch HSA.out.hF hv5 hk5 hkK).mono ?_; rintro e w6 ⟨rfl, ho6, hv6⟩; have HS6 := Lib.hid (show SolF w w6 F b (N + (k + 1) * K) (fun D' => GrewO D D' ∧ ∀ x ∈ (l.take (k + 1)), Maps.has D' (keyOs x) = true) c (.slice A c.mdl.bats.length ca) (.slice A1 c.mdl.bows.length ca1) (.slice A2 c.bows.length ca2) (.slice A3 c.ord.length ca3) ⟨ball, need, str, par, wait⟩ from HSA.out.into ho6 (by obtain ⟨D7, h1, h2, h3, h4⟩ := hv6; exact ⟨D7, h1.mono (by rw [Nat.add_mul]; omega), h2, hg5.1.trans h3, fun x hx => by rcases HT.out x hx with h | h; exact h3 x (hg5.2 x h); rw [h]; exact h4⟩)); have HL6 := Lib.hid (osl_only HLA.out ho6); clear y0 y1 y2 y3 y4 y5 y6 t0 t1 t2 t3 t4; clear ho6 hv6 hv5 hk5 hg5 hl1 hl2; have tok7 : True := trivial)
        go_roundw
        case rel => exact ⟨k + 1, by omega, by go_num, HS6, HL6⟩
        case measure => simp [intOf]; omega
      · obtain rfl : k = l.length := by omega
        obtain ⟨D2, hv9, hk9, hg9⟩ := HS.out.vals
        rw [List.take_of_length_le (Nat.le_refl _)] at hg9
        obtain ⟨NN, hNN⟩ : ∃ q, q = N + l.length * K := ⟨_, rfl⟩
        rw [← hNN] at hv9
        have hN9 : NN + 1 ≤ N + CC := by have := hlK; omega
        have hN8 : NN < 2000000000000000000 := by have := hlK; omega
        have HV8 := Lib.hid hv9
        have HK9 := Lib.hid hk9
        have HG8 := Lib.hid hg9
        clear hv9 hk9 hg9 hNN hN hlK
        have tok5 : True := trivial
        go_wp2_with (first
          | (clear tok5; go_at_call 48; refine (KSUM.out _ NN D2 HS.out.chb HV8.out HK9.out HG8.out.2).mono ?_; rintro e w6 ⟨rfl, hb6⟩; have HS6 := Lib.hid (HS.out.below hb6); have HV9 := Lib.hid (ovals_below HV8.out hb6); clear y0 y1 y2 y3 y4 y5 y6 t0 t1 t2 t3 t4; obtain ⟨y0, y1, y2, y3, y4, y5, y6, t0, t1, t2, t3, t4⟩ := HS6.out.cells; dsimp only at t0 t1 t2 t3 t4; clear hb6 hl1 hl2; have tok6 : True := trivial)
          | (at_mapUpdate; refine wpList_mapUpdate_own _ rfl _ _ _ 81 rfl 45 2 law45 Tryz.underlying81 _ b NN D2 rfl HV9.out (by unfold maxLen; omega) _ _ _ rfl rfl HKEY.out _ [] (plainElem_int Tryz.underlying2 (WalkArith.wf_i64 (by omega))) ?_; intro w9 hown9 hgrow9; have HG9 := Lib.hid hgrow9; have HO9 := Lib.hid hown9; clear hgrow9 hown9))
        go_ret
        exact ⟨rfl, HS6.out.only.trans HG9.out, _, HO9.out.mono hN9, HPUT.out _ HK9.out HV9.out.isMap HG8.out⟩
theorem r45_fill (c : Chs) (ht : OkT c) (m : Nat) : SolveO 36 c m :=
  Nat.strongRecOn m fun m ih => r45_fill_at c ht m ih
end Go.Proofs.YtdlmmbfnmnglaaaGreatDoor

namespace Go.Proofs.YtdlmmbfnmnglaaaGreatDoor
open Go.RowKit Go.Maps

theorem E_ov : ElemOf Tryz.prog 49 47 6 48 := ElemOf.mk (z := .agg #[.int .i64 0, .int .i64 0, .int .i64 0, .int .i64 0, .int .u16 0, .int .i64 0]) Tryz.underlying49 (by kernel_rfl) rfl (by decide)
theorem elOv_free (w : World) (F G : Nat → Prop) (cs : List Value) (a : Ove) (h : elOv w F cs a) : elOv w G cs a := h
theorem elOv_one (w : World) (F : Nat → Prop) (cs : List Value) (a : Ove) (h : elOv w F cs a) : ∀ u ∈ cs, u.oneCell' = true := by
  have h : cs = _ := h
  subst h
  exact oneCells rfl
theorem Sl.drop {α : Type} {size : Nat} {R : World → (Nat → Prop) → List Value → α → Prop} {w : World} {F : Nat → Prop} {b o n c k : Nat} {l : List α} (h : Sl size R w F (.slice (some ⟨b, o, none⟩) n c) l) (hk : k ≤ l.length) : Sl size R w F (.slice (some ⟨b, o + k * size, none⟩) (l.length - k) (c - k)) (l.drop k) := by
  obtain ⟨A, c', hv, h1, h2, h3⟩ := h
  injection hv with hv1 hv2 hv3
  subst hv1 hv3
  refine ⟨_, c - k, by rw [List.length_drop], by rw [List.length_drop]; omega, by omega, fun h0 => ?_⟩
  rw [List.length_drop] at h0
  obtain ⟨b', o', e1, e2, e3⟩ := h3 (by omega)
  have e1 := Option.some.inj e1
  injection e1 with e4 e5
  subst e4 e5
  refine ⟨b, o + k * size, rfl, e2, fun i a hi => ?_⟩
  rw [List.getElem?_drop] at hi
  obtain ⟨cs, g1, g2, g3⟩ := e3 (k + i) a hi
  refine ⟨cs, g1, fun j u hj => ?_, g3⟩
  have := g2 j u hj
  rw [show o + k * size + i * size + j = o + (k + i) * size + j by rw [Nat.add_mul]; omega]
  exact this
/-- The first entry of a row. -/
theorem ov_head {w : World} {F : Nat → Prop} {A : Option Addr} {n c : Nat} {x : Ove} {l : List Ove} (h : Sl 6 elOv w F (.slice A n c) (x :: l)) :
    ∃ b o, A = some ⟨b, o, none⟩ ∧ F b ∧ w.cell? ⟨b, o, none⟩ = some (.int .i64 x.st.ball) ∧ w.cell? ⟨b, o + 1, none⟩ = some (.int .i64 x.st.need) ∧ w.cell? ⟨b, o + 2, none⟩ = some (.int .i64 x.st.str) ∧ w.cell? ⟨b, o + 3, none⟩ = some (.int .i64 x.st.par) ∧ w.cell? ⟨b, o + 4, none⟩ = some (.int .u16 x.st.wait) ∧ w.cell? ⟨b, o + 5, none⟩ = some (.int .i64 x.val) := by
  obtain ⟨b, o, e, f, yy⟩ := ov_at h (k := 0) (by simp)
  simp only [Nat.zero_mul, Nat.add_zero, List.getElem_cons_zero] at yy
  exact ⟨b, o, e, f, yy⟩
theorem tailV {w : World} {F : Nat → Prop} {b o n c : Nat} {x : Ove} {l : List Ove} (h : Sl 6 elOv w F (.slice (some ⟨b, o, none⟩) n c) (x :: l)) : Sl 6 elOv w F (.slice (some ⟨b, if c = 1 then o else o + 6, none⟩) l.length (c - 1)) l := by
  by_cases hc : c = 1
  · obtain ⟨A, c', hv, h1, h2, _⟩ := h
    injection hv with _ _ hv3
    subst hv3
    have hl : l.length = 0 := by simp at h1; omega
    exact ⟨_, c - 1, rfl, by omega, by omega, fun h0 => by omega⟩
  · rw [if_neg hc]
    have := h.drop (k := 1) (by simp)
    simpa using this
theorem own_base {W : World} {v : Value} {l : List Ove} {B B' : Nat} (hB : B ≤ B') (h : OwnSl 6 elOv 47 B' W v l) : OwnSl 6 elOv 47 B W v l := by
  obtain ⟨css, h1, ⟨k1, k2⟩, h3, h4⟩ := h
  refine ⟨css, h1, ⟨k1, ?_⟩, h3, h4⟩
  rcases k2 with k2 | ⟨g, cap, cur, e1, e2, e3⟩
  · exact .inl k2
  · exact .inr ⟨g, cap, cur, e1, Nat.le_trans hB e2, e3⟩
/-- What merge hands back. -/
def MrgPost (w : World) (v : Value) (l : List Ove) (e : Ending) (w' : World) : Prop :=
  ∃ A n c l', e = .returned (.slice A n c) ∧ Below w.heap.size w w' ∧ l'.Perm l ∧ (l'.Pairwise fun x y => leO x y = true) ∧ ((l' = l ∧ .slice A n c = v) ∨ OwnSl 6 elOv 47 w.heap.size w' (.slice A n c) l')
theorem MrgPost.sl {w w' : World} {v : Value} {l : List Ove} {e : Ending} (h : MrgPost w v l e w') {F : Nat → Prop} (hl : Sl 6 elOv w F v l) (hF : ∀ b, F b → b < w.heap.size) : ∃ A c l', e = .returned (.slice A l'.length c) ∧ Below w.heap.size w w' ∧ l'.Perm l ∧ (l'.Pairwise fun x y => leO x y = true) ∧ l'.length = l.length ∧ Sl 6 elOv w' (· < w'.heap.size) (.slice A l'.length c) l' := by
  obtain ⟨A, n, c, l', rfl, hb, hp, hs, hv⟩ := h
  have hsl : Sl 6 elOv w' (· < w'.heap.size) (.slice A n c) l' := by
    rcases hv with ⟨rfl, rfl⟩ | hv
    · exact hl.keep elOv_good (Same.below hb hF) fun b h => Nat.lt_of_lt_of_le (hF b h) hb.size
    · exact (OwnSl.sl elOv_good hv).keep elOv_good (Same.refl _ _) fun b h => h.2
  obtain ⟨A', c', e1, _, _⟩ := hsl.shape
  injection e1 with e2 e3 e4
  subst e3
  exact ⟨A, c, l', rfl, hb, hp, hs, hp.length_eq, hsl⟩
/-- The merging of two rows under way. -/
structure MgW (w wS W : World) (la lb out : List Ove) (va vb vo : Value) (Z : List Ove) : Prop where
  base : Below w.heap.size w wS
  bel : Below wS.heap.size wS W
  a : Sl 6 elOv wS (· < wS.heap.size) va la
  b : Sl 6 elOv wS (· < wS.heap.size) vb lb
  o : OwnSl 6 elOv 47 wS.heap.size W vo out
  eq : out ++ List.merge la lb leO = Z
section
variable {w wS W W' : World} {la lb out Z : List Ove} {va vb vo v' : Value} {x : Ove}
theorem MgW.below (h : MgW w wS W la lb out va vb vo Z) (hb : Below W.heap.size W W') : MgW w wS W' la lb out va vb vo Z := ⟨h.base, h.bel.trans (hb.mono h.bel.size), h.a, h.b, h.o.below elOv_good hb, h.eq⟩
theorem MgW.app_a {v2 : Value} (h : MgW w wS W (x :: la) lb out va vb vo Z) (hle : lb ≠ [] → ∀ y t, lb = y :: t → leO x y = true) (ho : OwnSl 6 elOv 47 wS.heap.size W' v' (out ++ [x])) (hg : W.grownBy W' vo.ownBlock) (h2 : Sl 6 elOv wS (· < wS.heap.size) v2 la) : MgW w wS W' la lb (out ++ [x]) v2 vb v' Z := by
  refine ⟨h.base, below_own h.bel h.o hg (Nat.le_refl _) h.bel.size, h2, h.b, ho, ?_⟩
  rw [← h.eq]
  cases lb with
  | nil => simp
  | cons y t => rw [List.cons_merge_cons_pos _ _ _ (hle (by simp) y t rfl)]; simp
theorem MgW.app_b {v2 : Value} {y : Ove} (h : MgW w wS W (x :: la) (y :: lb) out va vb vo Z) (hle : ¬ leO x y = true) (ho : OwnSl 6 elOv 47 wS.heap.size W' v' (out ++ [y])) (hg : W.grownBy W' vo.ownBlock) (h2 : Sl 6 elOv wS (· < wS.heap.size) v2 lb) : MgW w wS W' (x :: la) lb (out ++ [y]) va v2 v' Z := by
  refine ⟨h.base, below_own h.bel h.o hg (Nat.le_refl _) h.bel.size, h.a, h2, ho, ?_⟩
  rw [← h.eq, List.cons_merge_cons_neg _ _ _ hle]; simp
end
def lenV : Value → Nat
  | .slice _ n _ => n
  | _ => 0
theorem half_lt {n : Nat} (h : 2 ≤ n) : n / 2 < n ∧ n - n / 2 < n ∧ 0 < n / 2 := by omega
set_option maxRecDepth 100000 in
set_option maxHeartbeats 8000000 in
theorem r45_merge_at (m : Nat) (ih : ∀ k, k < m → ∀ (l : List Ove), l.length = k → ∀ (v : Value) (F : Nat → Prop) (w : World), Sl 6 elOv w F v l → (∀ b, F b → b < w.heap.size) → l.length ≤ 1000000000000 → Calls Tryz.prog 38 #[v] w (MrgPost w v l)) (l : List Ove) (hm : l.length = m) (v : Value) (F : Nat → Prop) (w : World) (h : Sl 6 elOv w F v l) (hF : ∀ b, F b → b < w.heap.size) (hn : l.length ≤ 1000000000000) :
    Calls Tryz.prog 38 #[v] w (MrgPost w v l) := by
  by_cases h2 : l.length < 2
  · have hsort : l.Pairwise fun x y => leO x y = true := by
      match l, h2 with
      | [], _ => exact List.Pairwise.nil
      | [x], _ => exact List.pairwise_singleton _ _
    have HS := Lib.hid hsort
    obtain ⟨A, c, rfl, hc, hc2⟩ := h.shape
    have e1 : ((l.length : Int) < 2) := by omega
    clear hsort ih h hF
    go_enter Tryz.func38, Tryz.ntmps38
    go_wp2
    go_ret
    exact ⟨A, _, c, l, rfl, Below.refl _ _, List.Perm.refl _, HS.out, .inl ⟨rfl, rfl⟩⟩
  · obtain ⟨hd, hhd⟩ : ∃ hd, hd = l.length / 2 := ⟨_, rfl⟩
    obtain ⟨q1, q2, q3⟩ := half_lt (n := l.length) (by omega)
    rw [← hhd] at q1 q2 q3
    obtain ⟨A, c, rfl, hc, hc2⟩ := h.shape
    obtain ⟨b, o, rfl, hb, hjunk⟩ := ov_at h (k := 0) (by omega)
    clear hjunk
    have e0 : ¬ ((l.length : Int) < 2) := by omega
    have e1 : ((l.length : Int) / 2) = (hd : Int) := by omega
    have e2 : Int.tdiv (l.length : Int) 2 = (hd : Int) := by rw [Int.tdiv_eq_ediv_of_nonneg (by omega)]; exact e1
    have e3 : IntKind.i64.wrap (hd : Int) = (hd : Int) := IntWalk.i64_in _ (by omega)
    have e4 : IntKind.i64.wrap (Int.tdiv (l.length : Int) 2) = (hd : Int) := by rw [e2]; exact e3
    have sa := h.take (k := hd) (by omega)
    have sb := h.drop (k := hd) (by omega)
    have lla : (l.take hd).length = hd := by rw [List.length_take]; omega
    have llb : (l.drop hd).length = l.length - hd := List.length_drop
    have kA := fun W (hW : Below w.heap.size w W) => ((ih hd (by omega) (l.take hd) lla _ F W (sa.keep elOv_good (Same.below hW hF) fun _ h => h) (fun b hb => Nat.lt_of_lt_of_le (hF b hb) hW.size) (by omega)).mono fun e w' hp => hp.sl (sa.keep elOv_good (Same.below hW hF) fun _ h => h) (fun b hb => Nat.lt_of_lt_of_le (hF b hb) hW.size))
    have kB := fun W (hW : Below w.heap.size w W) => ((ih (l.length - hd) (by omega) (l.drop hd) llb _ F W (sb.keep elOv_good (Same.below hW hF) fun _ h => h) (fun b hb => Nat.lt_of_lt_of_le (hF b hb) hW.size) (by omega)).mono fun e w' hp => hp.sl (sb.keep elOv_good (Same.below hW hF) fun _ h => h) (fun b hb => Nat.lt_of_lt_of_le (hF b hb) hW.size))
    have hfin : ∀ (la lb : List Ove), la.Perm (l.take hd) → lb.Perm (l.drop hd) → (la.Pairwise fun x y => leO x y = true) → (lb.Pairwise fun x y => leO x y = true) → (List.merge la lb leO).Perm l ∧ ((List.merge la lb leO).Pairwise fun x y => leO x y = true) := fun la lb p1 p2 s1 s2 =>
      ⟨List.Perm.trans (List.merge_perm_append leO) ((p1.append p2).trans (by rw [List.take_append_drop])), List.pairwise_merge leO_trans leO_total _ _ s1 s2⟩
    rw [lla] at kA
    rw [llb] at kB
    have KA := Lib.hid kA
    have KB := Lib.hid kB
    have HFIN := Lib.hid hfin
    have HBc := Lib.hid (Below.drew (Below.refl w.heap.size w))
    have tokA : True := trivial
    have tokB : True := trivial
    have i1 : (0 : Int) ≤ (hd : Int) := by omega
    have i2 : (hd : Int) ≤ (l.length : Int) := by omega
    have i3 : (hd : Int) ≤ (c : Int) := by omega
    have i4 : (l.length : Int) ≤ (c : Int) := by omega
    have j1 : hd ≤ l.length := by omega
    have j2 : hd ≤ c := by omega
    have hl2 : 2 ≤ l.length := by omega
    clear kA kB hfin ih h hF sa sb lla llb hhd h2 hm
    go_enter Tryz.func38, Tryz.ntmps38
    go_wp2
    go_region_held3 (fun w' => True) (trivial) (first
      | (clear tokA; go_at_call 38; with_reducible refine (KA.out _ HBc.out).mono ?_; rintro e wa ⟨Aa, ca, la, rfl, hba, hpa, hsa, hna, hva⟩; have HBn := Lib.hid (HBc.out.trans (hba.mono HBc.out.size)); clear HBc; have HBc := HBn; clear HBn; have HBA := Lib.hid hba; have HPA := Lib.hid (And.intro hpa hsa); have HNA := Lib.hid hna; have HVA := Lib.hid hva; clear hba hpa hsa hna hva)
      | (clear tokB; go_at_call 38; with_reducible refine (KB.out _ HBc.out).mono ?_; rintro e wb ⟨Ab, cb, lb, rfl, hbb, hpb, hsb, hnb, hvb⟩; have HBn := Lib.hid (HBc.out.trans (hbb.mono HBc.out.size)); clear HBc; have HBc := HBn; clear HBn; have HBB := Lib.hid hbb; have HPB := Lib.hid (And.intro hpb hsb); have HNB := Lib.hid hnb; have HVB := Lib.hid hvb; clear hbb hpb hsb hnb hvb))
    · obtain ⟨Z, hZ⟩ : ∃ Z, Z = List.merge la lb leO := ⟨_, rfl⟩
      have hZZ := HFIN.out la lb HPA.out.1 HPB.out.1 HPA.out.2 HPB.out.2
      rw [← hZ] at hZZ
      have hna2 : la.length = hd := HNA.out
      have hnb2 : lb.length = l.length - hd := HNB.out
      have HZZ := Lib.hid hZZ
      obtain ⟨ba, oa, rfl, hj1, hj2⟩ := ov_at HVA.out (k := 0) (by omega)
      clear hj1 hj2
      obtain ⟨bb, ob, rfl, hj1, hj2⟩ := ov_at HVB.out (k := 0) (by omega)
      clear hj1 hj2
      have HM0 := Lib.hid (show MgW w wb wb la lb [] (.slice (some ⟨ba, oa, none⟩) la.length ca) (.slice (some ⟨bb, ob, none⟩) lb.length cb) (.slice none 0 0) Z from ⟨HBc.out, Below.refl _ _, HVA.out.keep elOv_good (Same.of_below HBB.out) fun b hb => Nat.lt_of_lt_of_le hb HBB.out.size, HVB.out, OwnSl.nil _, by rw [hZ]; rfl⟩)
      have hsum : 0 + la.length + lb.length = l.length := by omega
      have hpos : 0 < la.length ∧ 0 < lb.length := by omega
      clear hZ hZZ hna2 hnb2 KA KB HFIN HPA HPB HNA HNB HVA HVB HBA HBB i1 i2 i3 i4 j1 j2 e0 e1 e2 e3 e4 q1 q2 q3
      go_wp2
      go_loopw [3, 4, 5] (fun va vb vo wr => ∃ (la lb out : List Ove) (ba oa bb ob : Nat) (Ao : Option Addr) (cca ccb no co : Nat), va = .slice (some ⟨ba, oa, none⟩) la.length cca ∧ vb = .slice (some ⟨bb, ob, none⟩) lb.length ccb ∧ vo = .slice Ao no co ∧ out.length + la.length + lb.length = l.length ∧ Hid (MgW w wb wr la lb out (.slice (some ⟨ba, oa, none⟩) la.length cca) (.slice (some ⟨bb, ob, none⟩) lb.length ccb) (.slice Ao no co) Z)) (fun va vb _ _ => lenV va + lenV vb)
      case atStart => exact ⟨la, lb, [], ba, oa, bb, ob, none, ca, cb, 0, 0, rfl, rfl, rfl, by simpa using hsum, HM0⟩
      case round =>
        clear HM0 hsum hpos HBc
        obtain ⟨la, lb, out, ba, oa, bb, ob, Ao, ca, cb, no, co, rfl, rfl, rfl, hsum, HM⟩ := hrel
        obtain ⟨HM, hka, hkb⟩ : Hid (MgW w wb wr la lb out (.slice (some ⟨ba, oa, none⟩) la.length ca) (.slice (some ⟨bb, ob, none⟩) lb.length cb) (.slice Ao no co) Z) ∧ la.length ≤ ca ∧ lb.length ≤ cb := by
          obtain ⟨_, c1, e1, g1, _⟩ := HM.out.a
          obtain ⟨_, c2, e2, g2, _⟩ := HM.out.b
          injection e1 with _ _ e1
          injection e2 with _ _ e2
          subst e1 e2
          exact ⟨HM, g1, g2⟩
        have hroom : (out.length + la.length + lb.length) * 48 ≤ 140737488355328 ∧ out.length + la.length + lb.length ≤ 1000000000000 := by omega
        rcases la with _ | ⟨xa, la⟩
        · have HZZ2 := Lib.hid HZZ.out
          have hr1 : out.length + (([] : List Ove)).length ≤ maxLen ∧ (out.length + (([] : List Ove)).length) * 48 ≤ 140737488355328 := by simp only [maxLen]; omega
          have hr2 : (out ++ ([] : List Ove)).length + (lb).length ≤ maxLen ∧ ((out ++ ([] : List Ove)).length + (lb).length) * 48 ≤ 140737488355328 := by simp only [List.length_append, maxLen]; omega
          have HR1 := Lib.hid hr1
          have HR2 := Lib.hid hr2
          have tok9 : True := trivial
          have g1 : True := trivial
          clear hr1 hr2 hroom hka hkb
          go_wp2_with (first
            | (clear tok9; at_builtin; refine wpList_append_sls _ rfl (.tmp 55) (.tmp 56) _ rfl E_ov elOv_good elOv_free elOv_one _ _ out rfl HM.out.o (· < wb.heap.size) ⟨ba, oa, none⟩ ca ([] : List Ove) rfl (HM.out.a.keep elOv_good (Same.of_below HM.out.bel) fun b h => h) HR1.out.1 HR1.out.2 HM.out.bel.size ?_; intro v6 w6 hown6 hg6 hat6; obtain ⟨o2, ho2⟩ : ∃ o2, o2 = out ++ ([] : List Ove) := ⟨_, rfl⟩; rw [← ho2] at hown6; have HZE := Lib.hid (show o2 ++ lb = Z by rw [ho2, ← HM.out.eq]; simp); have HR3 := Lib.hid (show o2.length + (lb).length ≤ maxLen ∧ (o2.length + (lb).length) * 48 ≤ 140737488355328 by rw [ho2]; exact HR2.out); clear ho2; have HO6 := Lib.hid hown6; have HB6 := Lib.hid (below_own HM.out.bel HM.out.o hg6 (Nat.le_refl _) HM.out.bel.size); obtain ⟨A6, c6, rfl, hc61, hc62⟩ := (hown6.sl elOv_good).shape; clear hown6 hg6 hat6; have tok10 : True := trivial)
            | (clear tok10; at_builtin; refine wpList_append_sls _ rfl (.tmp 57) (.tmp 58) _ rfl E_ov elOv_good elOv_free elOv_one _ _ o2 rfl HO6.out (· < wb.heap.size) ⟨bb, ob, none⟩ cb lb rfl (HM.out.b.keep elOv_good (Same.of_below HB6.out) fun b h => h) HR3.out.1 HR3.out.2 HB6.out.size ?_; intro v7 w7 hown7 hg7 hat7; rw [HZE.out] at hown7; have HO7 := Lib.hid hown7; have HB7 := Lib.hid (below_own HB6.out HO6.out hg7 (Nat.le_refl _) HB6.out.size); obtain ⟨A7, c7, rfl, hc71, hc72⟩ := (hown7.sl elOv_good).shape; clear hown7 hg7 hat7; have tok11 : True := trivial))
          go_ret
          exact ⟨A7, _, c7, Z, rfl, HM.out.base.trans (HB7.out.mono HM.out.base.size), HZZ2.out.1, HZZ2.out.2, .inr (own_base HM.out.base.size HO7.out)⟩
        · rcases lb with _ | ⟨xb, lb⟩
          · have HZZ2 := Lib.hid HZZ.out
            have hr1 : out.length + ((xa :: la)).length ≤ maxLen ∧ (out.length + ((xa :: la)).length) * 48 ≤ 140737488355328 := by simp only [maxLen]; omega
            have hr2 : (out ++ (xa :: la)).length + (([] : List Ove)).length ≤ maxLen ∧ ((out ++ (xa :: la)).length + (([] : List Ove)).length) * 48 ≤ 140737488355328 := by simp only [List.length_append, maxLen]; omega
            have HR1 := Lib.hid hr1
            have HR2 := Lib.hid hr2
            have tok9 : True := trivial
            have g1 : (0 : Int) < ((xa :: la).length : Int) := by simp
            clear hr1 hr2 hroom hka hkb
            go_wp2_with (first
              | (clear tok9; at_builtin; refine wpList_append_sls _ rfl (.tmp 55) (.tmp 56) _ rfl E_ov elOv_good elOv_free elOv_one _ _ out rfl HM.out.o (· < wb.heap.size) ⟨ba, oa, none⟩ ca (xa :: la) rfl (HM.out.a.keep elOv_good (Same.of_below HM.out.bel) fun b h => h) HR1.out.1 HR1.out.2 HM.out.bel.size ?_; intro v6 w6 hown6 hg6 hat6; obtain ⟨o2, ho2⟩ : ∃ o2, o2 = out ++ (xa :: la) := ⟨_, rfl⟩; rw [← ho2] at hown6; have HZE := Lib.hid (show o2 ++ ([] : List Ove) = Z by rw [ho2, ← HM.out.eq]; simp); have HR3 := Lib.hid (show o2.length + (([] : List Ove)).length ≤ maxLen ∧ (o2.length + (([] : List Ove)).length) * 48 ≤ 140737488355328 by rw [ho2]; exact HR2.out); clear ho2; have HO6 := Lib.hid hown6; have HB6 := Lib.hid (below_own HM.out.bel HM.out.o hg6 (Nat.le_refl _) HM.out.bel.size); obtain ⟨A6, c6, rfl, hc61, hc62⟩ := (hown6.sl elOv_good).shape; clear hown6 hg6 hat6; have tok10 : True := trivial)
              | (clear tok10; at_builtin; refine wpList_append_sls _ rfl (.tmp 57) (.tmp 58) _ rfl E_ov elOv_good elOv_free elOv_one _ _ o2 rfl HO6.out (· < wb.heap.size) ⟨bb, ob, none⟩ cb ([] : List Ove) rfl (HM.out.b.keep elOv_good (Same.of_below HB6.out) fun b h => h) HR3.out.1 HR3.out.2 HB6.out.size ?_; intro v7 w7 hown7 hg7 hat7; rw [HZE.out] at hown7; have HO7 := Lib.hid hown7; have HB7 := Lib.hid (below_own HB6.out HO6.out hg7 (Nat.le_refl _) HB6.out.size); obtain ⟨A7, c7, rfl, hc71, hc72⟩ := (hown7.sl elOv_good).shape; clear hown7 hg7 hat7; have tok11 : True := trivial))
            go_ret
            exact ⟨A7, _, c7, Z, rfl, HM.out.base.trans (HB7.out.mono HM.out.base.size), HZZ2.out.1, HZZ2.out.2, .inr (own_base HM.out.base.size HO7.out)⟩
          · obtain ⟨_, _, ea, hba, ya⟩ := ov_head HM.out.a
            obtain ⟨_, _, eb, hbb, yb⟩ := ov_head HM.out.b
            obtain ⟨rfl, rfl⟩ : ba = _ ∧ oa = _ := by injection ea with h9; injection h9 with h8 h7; exact ⟨h8, h7⟩
            obtain ⟨rfl, rfl⟩ : bb = _ ∧ ob = _ := by injection eb with h9; injection h9 with h8 h7; exact ⟨h8, h7⟩
            have HYA := Lib.hid ya
            have HYB := Lib.hid yb
            have kL := fun W => r45_Less xb.st xa.st W
            have hle : leO xa xb = !(lessO xb.st xa.st) := rfl
            have ta := tailV HM.out.a
            have tb := tailV HM.out.b
            obtain ⟨bl, hbl⟩ : ∃ bl, bl = lessO xb.st xa.st := ⟨_, rfl⟩
            rw [← hbl] at hle
            simp only [← hbl] at kL
            have ya := six_below HM.out.bel hba ya
            have yb := six_below HM.out.bel hbb yb
            obtain ⟨⟨p0, p1, p2, p3, p4⟩, pv⟩ := xa
            obtain ⟨⟨r0, r1, r2, r3, r4⟩, rv⟩ := xb
            unfold osV at kL
            dsimp only at ya yb kL HYA HYB
            have KL := Lib.hid kL
            have HTA := Lib.hid ta
            have HTB := Lib.hid tb
            have HLE := Lib.hid hle
            have HMD := Lib.hid (HM.out.below (Below.drew (Below.refl _ _)))
            have HBA := Lib.hid hba
            have HBB := Lib.hid hbb
            obtain ⟨ya0, ya1, ya2, ya3, ya4, ya5⟩ := ya
            obtain ⟨yb0, yb1, yb2, yb3, yb4, yb5⟩ := yb
            have hlo : out.length + 1 ≤ maxLen ∧ (out.length + 1) * 48 ≤ 140737488355328 := by simp only [List.length_cons] at hroom; simp only [maxLen]; omega
            have HLO := Lib.hid hlo
            have hm1 : (1 : Int) ≤ ((la.length : Int) + 1) := by omega
            have hm2 : (1 : Int) ≤ ((lb.length : Int) + 1) := by omega
            have hm3 : la.length + 1 ≤ ca := by simpa using hka
            have hm4 : lb.length + 1 ≤ cb := by simpa using hkb
            have hm5 : (la.length : Int) + 1 ≤ (ca : Int) := by omega
            have hm6 : (lb.length : Int) + 1 ≤ (cb : Int) := by omega
            clear kL hle hbl ta tb hba hbb HM ea eb hlo hka hkb hroom
            have tok5 : True := trivial
            go_wp2
            go_region_held3 (fun w' => w'.cell? ⟨bb, ob, none⟩ = some (.int .i64 r0) ∧ w'.cell? ⟨bb, ob + 1, none⟩ = some (.int .i64 r1) ∧ w'.cell? ⟨bb, ob + 2, none⟩ = some (.int .i64 r2) ∧ w'.cell? ⟨bb, ob + 3, none⟩ = some (.int .i64 r3) ∧ w'.cell? ⟨bb, ob + 4, none⟩ = some (.int .u16 r4) ∧ w'.cell? ⟨ba, oa, none⟩ = some (.int .i64 p0) ∧ w'.cell? ⟨ba, oa + 1, none⟩ = some (.int .i64 p1) ∧ w'.cell? ⟨ba, oa + 2, none⟩ = some (.int .i64 p2) ∧ w'.cell? ⟨ba, oa + 3, none⟩ = some (.int .i64 p3) ∧ w'.cell? ⟨ba, oa + 4, none⟩ = some (.int .u16 p4)) (first | exact ⟨yb0, yb1, yb2, yb3, yb4, ya0, ya1, ya2, ya3, ya4⟩ | go_keep) (first
              | (clear tok5; go_at_call 47; refine (KL.out _).mono ?_; rintro e w2 ⟨rfl, hb2⟩; have HM2 := Lib.hid (HMD.out.below hb2); clear ya0 ya1 ya2 ya3 ya4 ya5 yb0 yb1 yb2 yb3 yb4 yb5; obtain ⟨ya0, ya1, ya2, ya3, ya4, ya5⟩ := six_below HM2.out.bel HBA.out HYA.out; obtain ⟨yb0, yb1, yb2, yb3, yb4, yb5⟩ := six_below HM2.out.bel HBB.out HYB.out; clear hb2; have tok6 : True := trivial))
            all_goals cases bl
            · all_goals go_wp2_with (clear tok6; at_builtin; refine wpList_append_sl _ rfl (.tmp 47) (.tmp 51) _ rfl E_ov elOv_good _ _ out rfl (HM2.out.o.alloc elOv_good _) ⟨w2.heap.size, 0, none⟩ 1 [.int .i64 p0, .int .i64 p1, .int .i64 p2, .int .i64 p3, .int .u16 p4, .int .i64 pv] rfl ⟨⟨p0, p1, p2, p3, p4⟩, pv⟩ rfl (cells_new _ _ _ _) (oneCells rfl) rfl HLO.out.1 HLO.out.2 (base2 HM2.out.bel.size _) ?_; intro v6 w6 hown6 hg6 hat6; obtain ⟨A6, c6, rfl, hc61, hc62⟩ := (hown6.sl elOv_good).shape; have HN := Lib.hid ((HM2.out.below (Below.alloc (Below.refl w2.heap.size w2) (Nat.le_refl _) (.cells #[.int .i64 p0, .int .i64 p1, .int .i64 p2, .int .i64 p3, .int .u16 p4, .int .i64 pv] 47))).app_a (fun _ y t e => by injection e with e1 e2; subst e1; rw [HLE.out]; rfl) hown6 hg6 HTA.out); clear hown6 hg6 hat6; have tok7 : True := trivial)
              all_goals go_roundw
              case rel => exact ⟨la, ⟨⟨r0, r1, r2, r3, r4⟩, rv⟩ :: lb, out ++ [⟨⟨p0, p1, p2, p3, p4⟩, pv⟩], ba, if ca = 1 then oa else oa + 6, bb, ob, A6, ca - 1, _, _, _, by by_cases hc9 : ca = 1 <;> simp [hc9], rfl, rfl, by simp at hsum ⊢; omega, by rw [show out.length + 1 = (out ++ [(⟨⟨p0, p1, p2, p3, p4⟩, pv⟩ : Ove)]).length by simp]; exact HN⟩
              case measure => simp [lenV]
            · all_goals go_wp2_with (clear tok6; at_builtin; refine wpList_append_sl _ rfl (.tmp 39) (.tmp 43) _ rfl E_ov elOv_good _ _ out rfl (HM2.out.o.alloc elOv_good _) ⟨w2.heap.size, 0, none⟩ 1 [.int .i64 r0, .int .i64 r1, .int .i64 r2, .int .i64 r3, .int .u16 r4, .int .i64 rv] rfl ⟨⟨r0, r1, r2, r3, r4⟩, rv⟩ rfl (cells_new _ _ _ _) (oneCells rfl) rfl HLO.out.1 HLO.out.2 (base2 HM2.out.bel.size _) ?_; intro v6 w6 hown6 hg6 hat6; obtain ⟨A6, c6, rfl, hc61, hc62⟩ := (hown6.sl elOv_good).shape; have HN := Lib.hid ((HM2.out.below (Below.alloc (Below.refl w2.heap.size w2) (Nat.le_refl _) (.cells #[.int .i64 r0, .int .i64 r1, .int .i64 r2, .int .i64 r3, .int .u16 r4, .int .i64 rv] 47))).app_b (by rw [HLE.out]; decide) hown6 hg6 HTB.out); clear hown6 hg6 hat6; have tok7 : True := trivial)
              all_goals go_roundw
              case rel => exact ⟨⟨⟨p0, p1, p2, p3, p4⟩, pv⟩ :: la, lb, out ++ [⟨⟨r0, r1, r2, r3, r4⟩, rv⟩], ba, oa, bb, if cb = 1 then ob else ob + 6, A6, _, cb - 1, _, _, rfl, by by_cases hc9 : cb = 1 <;> simp [hc9], rfl, by simp at hsum ⊢; omega, by rw [show out.length + 1 = (out ++ [(⟨⟨r0, r1, r2, r3, r4⟩, rv⟩ : Ove)]).length by simp]; exact HN⟩
              case measure => simp [lenV]
theorem r45_merge : ∀ (m : Nat) (l : List Ove), l.length = m → ∀ (v : Value) (F : Nat → Prop) (w : World), Sl 6 elOv w F v l → (∀ b, F b → b < w.heap.size) → l.length ≤ 1000000000000 → Calls Tryz.prog 38 #[v] w (MrgPost w v l) := fun m =>
  Nat.strongRecOn m fun m ih l hm v F w h hF hn => r45_merge_at m ih l hm v F w h hF hn
end Go.Proofs.YtdlmmbfnmnglaaaGreatDoor

namespace Go.Proofs.YtdlmmbfnmnglaaaGreatDoor
open Go.RowKit Go.Maps

theorem cntR16 : cntR 16 ≤ 20000000000000000 := by decide
theorem rank16 {c : Chs} {s : Ost} (ht : OkT c) (h : OkOs c s) (hv : vacO s = false) : rankO c s ≤ 16 := by
  have := ht.nb; have := h.ball
  unfold rankO leftO
  rw [hv]; simp; omega
/-- A valuing function, with one bound for all states in which both ends are taken. -/
def SolveK (f : FuncId) (c : Chs) : Prop := ∀ (s : Ost), OkOs c s → ReachO c s → vacO s = false → ∀ (bv wv pv ov : Value) (F : Nat → Prop) (b N : Nat) (D : DataW Unit) (w : World), ChAt w F bv wv pv ov c → (∀ x, F x → x < w.heap.size ∧ x ≠ b) → ValsO w b N D → KnownO c D → N + cntR 16 ≤ 2000000000000000000 →
  Calls Tryz.prog f #[chV c bv wv pv ov, osV s, .map (some b)] w fun e w' => e = .returned (.int .i64 (vO c s)) ∧ Only b w w' ∧ ∃ D', ValsO w' b (N + cntR 16) D' ∧ KnownO c D' ∧ GrewO D D' ∧ Maps.has D' (keyOs s) = true
theorem solveK_of {f : FuncId} {c : Chs} (ht : OkT c) (h : ∀ m, SolveO f c m) : SolveK f c := fun s hs hre hv bv wv pv ov F b N D w h1 h2 h3 h4 h5 => by
  have hr := cntR_mono (rank16 ht hs hv)
  refine (h _ s rfl hs hre bv wv pv ov F b N D w h1 h2 h3 h4 (by omega)).mono ?_
  rintro e w2 ⟨a1, a2, D7, a3, a4, a5, a6⟩
  exact ⟨a1, a2, D7, a3.mono (by omega), a4, a5, a6⟩
/-- A task boxed, the result's cells behind it. -/
structure Bs0 (w W : World) (c : Chs) (bv wv pv ov : Value) : Prop where
  bel : Below w.heap.size w W
  box : Blk W w.heap.size 42 #[bv, wv, pv, .int .i64 c.over, .int .i64 c.done, .int .i64 c.need, ov]
  res : Blk W (w.heap.size + 1) 77 #[.int .i64 0, .int .i64 0]
section
variable {w W W' : World} {c : Chs} {bv wv pv ov : Value}
theorem Bs0.below (h : Bs0 w W c bv wv pv ov) (hb : Below W.heap.size W W') : Bs0 w W' c bv wv pv ov := ⟨h.bel.trans (hb.mono h.bel.size), h.box.below hb h.box.lt, h.res.below hb h.res.lt⟩
theorem Bs0.cell7 (h : Bs0 w W c bv wv pv ov) : W.cell? ⟨w.heap.size, 0, none⟩ = some bv ∧ W.cell? ⟨w.heap.size, 1, none⟩ = some wv ∧ W.cell? ⟨w.heap.size, 2, none⟩ = some pv ∧ W.cell? ⟨w.heap.size, 3, none⟩ = some (.int .i64 c.over) ∧ W.cell? ⟨w.heap.size, 4, none⟩ = some (.int .i64 c.done) ∧ W.cell? ⟨w.heap.size, 5, none⟩ = some (.int .i64 c.need) ∧ W.cell? ⟨w.heap.size, 6, none⟩ = some ov :=
  ⟨h.box.cell 0, h.box.cell 1, h.box.cell 2, h.box.cell 3, h.box.cell 4, h.box.cell 5, h.box.cell 6⟩
theorem Bs0.rcell (h : Bs0 w W c bv wv pv ov) : W.cell? ⟨w.heap.size + 1, 0, none⟩ = some (.int .i64 0) ∧ W.cell? ⟨w.heap.size + 1, 1, none⟩ = some (.int .i64 0) ∧ W.frozen? ⟨w.heap.size + 1, 0, none⟩ = false ∧ W.frozen? ⟨w.heap.size + 1, 1, none⟩ = false := ⟨h.res.cell 0, h.res.cell 1, h.res.frozen 0, h.res.frozen 1⟩
theorem Bs0.new (w : World) (c : Chs) (bv wv pv ov : Value) : Bs0 w ((w.alloc (.cells #[bv, wv, pv, .int .i64 c.over, .int .i64 c.done, .int .i64 c.need, ov] 42)).alloc (.cells #[.int .i64 0, .int .i64 0] 77)) c bv wv pv ov := by
  have h1 := Blk.new w 42 #[bv, wv, pv, .int .i64 c.over, .int .i64 c.done, .int .i64 c.need, ov]
  exact ⟨below_two w _ _, h1.alloc _, blk_two w _ _ _⟩
theorem Blk.put2 {w : World} {g : Nat} {t : TypeId} {a b : Value} (h : Blk w g t #[a, b]) (x0 x1 : Value) : Blk ((w.setCell ⟨g, 0, none⟩ x0).setCell ⟨g, 1, none⟩ x1) g t #[x0, x1] := (h.set_ 0 x0).set_ 1 x1
theorem below_put2 {B : Nat} {a w : World} (h : Below B a w) {g : Nat} (hg : B ≤ g) (x0 x1 : Value) : Below B a ((w.setCell ⟨g, 0, none⟩ x0).setCell ⟨g, 1, none⟩ x1) := Below.setCell (Below.setCell h hg x0) hg x1
end
/-- Besides: a map in block b, the pair in block b + 1. -/
structure BstO (w W : World) (b N : Nat) (c : Chs) (bv wv pv ov : Value) (p q : Int) : Prop where
  base : Bs0 w W c bv wv pv ov
  hb : w.heap.size + 1 < b
  pair : Blk W (b + 1) 77 #[.int .i64 p, .int .i64 q]
  vals : ∃ D, ValsO W b N D ∧ KnownO c D
section
variable {w W W' : World} {b N N' : Nat} {c : Chs} {bv wv pv ov : Value} {p q : Int}
theorem BstO.below (h : BstO w W b N c bv wv pv ov p q) (hb : Below W.heap.size W W') : BstO w W' b N c bv wv pv ov p q := ⟨h.base.below hb, h.hb, h.pair.below hb h.pair.lt, let ⟨D, h1, h2⟩ := h.vals; ⟨D, ovals_below h1 hb, h2⟩⟩
theorem BstO.drew (h : BstO w W b N c bv wv pv ov p q) : BstO w W.drew b N c bv wv pv ov p q := h.below (Below.drew (Below.refl _ _))
theorem BstO.into (h : BstO w W b N c bv wv pv ov p q) (ho : Only b W W') (hv : ∃ D, ValsO W' b N' D ∧ KnownO c D) : BstO w W' b N' c bv wv pv ov p q := by
  have hbb := h.hb
  exact ⟨⟨h.base.bel.trans (ho.below (by omega) h.base.bel.size), h.base.box.grown ho (by intro e; injection e with e; omega), h.base.res.grown ho (by intro e; injection e with e; omega)⟩, h.hb, h.pair.grown ho (by intro e; injection e with e; omega), hv⟩
theorem BstO.cell7 (h : BstO w W b N c bv wv pv ov p q) : W.cell? ⟨w.heap.size, 0, none⟩ = some bv ∧ W.cell? ⟨w.heap.size, 1, none⟩ = some wv ∧ W.cell? ⟨w.heap.size, 2, none⟩ = some pv ∧ W.cell? ⟨w.heap.size, 3, none⟩ = some (.int .i64 c.over) ∧ W.cell? ⟨w.heap.size, 4, none⟩ = some (.int .i64 c.done) ∧ W.cell? ⟨w.heap.size, 5, none⟩ = some (.int .i64 c.need) ∧ W.cell? ⟨w.heap.size, 6, none⟩ = some ov := h.base.cell7
theorem BstO.pcell (h : BstO w W b N c bv wv pv ov p q) : W.cell? ⟨b + 1, 0, none⟩ = some (.int .i64 p) ∧ W.cell? ⟨b + 1, 1, none⟩ = some (.int .i64 q) ∧ W.frozen? ⟨b + 1, 0, none⟩ = false ∧ W.frozen? ⟨b + 1, 1, none⟩ = false := ⟨h.pair.cell 0, h.pair.cell 1, h.pair.frozen 0, h.pair.frozen 1⟩
theorem BstO.stored (h : BstO w W b N c bv wv pv ov p q) (p' q' : Int) : BstO w ((W.setCell ⟨b + 1, 0, none⟩ (.int .i64 p')).setCell ⟨b + 1, 1, none⟩ (.int .i64 q')) b N c bv wv pv ov p' q' := by
  have hbb := h.hb
  have n1 : w.heap.size ≠ b + 1 := by omega
  have n2 : w.heap.size + 1 ≠ b + 1 := by omega
  have hle : Below (b + 1) W ((W.setCell ⟨b + 1, 0, none⟩ (.int .i64 p')).setCell ⟨b + 1, 1, none⟩ (.int .i64 q')) := below_put2 (Below.refl _ _) (Nat.le_refl _) _ _
  exact ⟨⟨below_put2 h.base.bel (by omega) _ _, (h.base.box.far (p := ⟨b + 1, 0, none⟩) n1 _).far (p := ⟨b + 1, 1, none⟩) n1 _, (h.base.res.far (p := ⟨b + 1, 0, none⟩) n2 _).far (p := ⟨b + 1, 1, none⟩) n2 _⟩, h.hb, h.pair.put2 _ _, let ⟨D, h1, h2⟩ := h.vals; ⟨D, h1.kept (Only.setCell (Only.setCell (Only.refl (b + 1) W) (.inl rfl) _) (.inl rfl) _) (by simp), h2⟩⟩
theorem BstO.le (h : BstO w W b N c bv wv pv ov p q) (hN : N ≤ N') : BstO w W b N' c bv wv pv ov p q := ⟨h.base, h.hb, h.pair, let ⟨D, h1, h2⟩ := h.vals; ⟨D, h1.mono hN, h2⟩⟩
theorem BstO.new (h : Bs0 w W c bv wv pv ov) (p q : Int) : BstO w ((W.alloc (.map #[] 0)).alloc (.cells #[.int .i64 p, .int .i64 q] 77)) W.heap.size 0 c bv wv pv ov p q := by
  have hm : ValsO (W.alloc (.map #[] 0)) W.heap.size 0 (.map []) := World.ownsMap_made W _ _ _
  exact ⟨h.below (below_two W _ _), h.res.lt, blk_two W _ _ _, _, ovals_below hm (Below.alloc (Below.refl _ _) (Nat.le_refl _) _), KnownO.none c⟩
end
theorem or_Best_ret {R' : Ending → World → Prop} {a : Act} {w : World} {x0 x1 v3 v4 : Value} {g : Nat} (h2 : a.tmps[2]? = some (.pointer (some ⟨g, 0, none⟩))) (h3 : a.tmps[3]? = some v3) (h4 : a.tmps[4]? = some v4) (hb : Blk w g 77 #[x0, x1])
    (hd : a.defers = []) (hR : R' (.returned (.tuple #[.agg #[x0, x1], v3, v4])) w) : bodyPost Tryz.prog Tryz.f34 R' .ret a w := by
  have r0 := hb.cell 0
  have r1 := hb.cell 1
  simp only [List.getElem?_toArray, List.getElem?_cons_zero, List.getElem?_cons_succ] at r0 r1
  refine bodyPost_ret (v := .tuple #[.agg #[x0, x1], v3, v4]) (by simp [results, Tryz.results34, go_sem, h2, h3, h4, r0, r1]) hd hR
set_option maxRecDepth 100000 in
set_option maxHeartbeats 6000000 in
theorem or_Best (c : Chs) (bv wv pv ov : Value) (w : World) (h : ChAt w (· < w.heap.size) bv wv pv ov c) :
    Calls Tryz.prog 34 #[chV c bv wv pv ov] w fun e w' => e = .returned (.tuple #[.agg #[.int .i64 (bestOS c).1.1, .int .i64 (bestOS c).1.2], .int .i64 (bestOS c).2.1, .int .i64 (bestOS c).2.2]) ∧ Below w.heap.size w w' := by
  unfold chV
  obtain ⟨A, ca, rfl, hc1, hc2⟩ := h.mdl.bat.shape
  obtain ⟨A1, ca1, rfl, hc3, hc4⟩ := h.mdl.bow.shape
  obtain ⟨A2, ca2, rfl, hc5, hc6⟩ := h.bow.shape
  obtain ⟨A3, ca3, rfl, hc7, hc8⟩ := h.ord.shape
  have HX := Lib.hid (Bs0.new w c (.slice A c.mdl.bats.length ca) (.slice A1 c.mdl.bows.length ca1) (.slice A2 c.bows.length ca2) (.slice A3 c.ord.length ca3))
  have HM := Lib.hid h
  obtain ⟨z, hz⟩ : ∃ z, z = bestOS c := ⟨_, rfl⟩
  rw [← hz]
  unfold bestOS at hz
  have k1 := fun W (hW : Below w.heap.size w W) => or_Check c _ _ _ _ W (HM.out.below hW)
  skip
  unfold chV at k1
  obtain ⟨u, hu⟩ : ∃ u, u = checkO c := ⟨_, rfl⟩
  rw [← hu] at k1 hz
  have K1 := Lib.hid k1
  have tok0 : True := trivial
  have hmm := @run_makeMap Tryz.prog
  by_cases h0 : u = 0
  case neg =>
    rw [if_pos h0] at hz
    have HZ := Lib.hid hz
    have eu : (u != 0) = true := by simp [h0]
    clear hz h0 k1 hu h
    go_enter Tryz.func34, Tryz.ntmps34
    go_wp2_with (clear tok0; go_at_call 39; refine (K1.out _ HX.out.bel).mono ?_; rintro e w2 ⟨rfl, hb2⟩; have HX2 := Lib.hid (HX.out.below hb2); obtain ⟨x0, x1, x2, x3, x4, x5, x6⟩ := HX2.out.cell7; obtain ⟨z0, z1, zf0, zf1⟩ := HX2.out.rcell; have hl1 := HX2.out.box.lt; have hl2 := HX2.out.res.lt; clear hb2; have tok1 : True := trivial)
    refine or_Best_ret rfl rfl rfl (HX2.out.res.put2 _ _) rfl ⟨by rw [HZ.out] <;> rfl, ?_⟩
    exact below_put2 HX2.out.bel (by omega) _ _
  rw [if_neg (by omega)] at hz
  have eu : (u != 0) = false := by simp [h0]
  have ht := okT_of (c := c) (by omega)
  rw [bestS_same ht (0, 0) (0, 0)] at hz
  have hnp := ht.np
  have kop := fun (a b : Nat) (ha : a < c.ord.length) (hb : b < c.ord.length) W (hW : Below w.heap.size w W) => or_opened c a b _ _ _ _ W (HM.out.below hW) ht ha hb
  have ksol : ∀ (i j : Nat) (hi : i < c.ord.length) (hj : j < c.ord.length) (hne : i ≠ j) (W : World) (b N : Nat) (p q : Int) (hW : BstO w W b N c (.slice A c.mdl.bats.length ca) (.slice A1 c.mdl.bows.length ca1) (.slice A2 c.bows.length ca2) (.slice A3 c.ord.length ca3) p q) (hN : N + cntR 16 ≤ 2000000000000000000), Calls Tryz.prog 52 #[chV c (.slice A c.mdl.bats.length ca) (.slice A1 c.mdl.bows.length ca1) (.slice A2 c.bows.length ca2) (.slice A3 c.ord.length ca3), osV (openO c i j), .map (some b)] W fun e W' => e = .returned (.int .i64 (vO c (openO c i j))) ∧ BstO w W' b (N + cntR 16) c (.slice A c.mdl.bats.length ca) (.slice A1 c.mdl.bows.length ca1) (.slice A2 c.bows.length ca2) (.slice A3 c.ord.length ca3) p q ∧ Only b W W' := fun i j hi hj hne W b N p q hW hN => by
    obtain ⟨q1, q2, _⟩ := openO_ok ht hi hj hne
    obtain ⟨D, d1, d2⟩ := hW.vals
    have hbb := hW.hb
    refine (solveK_of ht (or_solve c ht) (openO c i j) q1 (ReachO.op hi hj hne) q2 _ _ _ _ (· < w.heap.size) b N D W (HM.out.keep (Same.of_below hW.base.bel) fun _ h => h) (fun x hx => ⟨Nat.lt_of_lt_of_le hx hW.base.bel.size, by have : x < w.heap.size := hx; omega⟩) d1 d2 hN).mono ?_
    rintro e W' ⟨a1, a2, D7, a3, a4, _⟩
    exact ⟨a1, hW.into a2 ⟨D7, a3, a4⟩, a2⟩
  have hvb : ∀ (i j : Nat) (hi : i < c.ord.length) (hj : j < c.ord.length) (hne : i ≠ j), 0 ≤ vO c (openO c i j) ∧ vO c (openO c i j) ≤ 281474976710656 := fun i j hi hj hne => vO_48 ht (openO_ok ht hi hj hne).1
  unfold bestS at hz
  obtain ⟨f, hf⟩ : ∃ f : Int → Int → Int, f = fun a b => vO c (openO c a b) := ⟨_, rfl⟩
  have hfe : ∀ i j : Nat, vO c (openO c i j) = f i j := fun i j => by rw [hf]
  rw [← hf] at hz
  simp only [hfe] at ksol hvb
  have hrow : ∀ (a b : Nat) (r : (Int × Int) × Int), rowB f a (b + 1) r = if a = b then rowB f a b r else if (rowB f a b r).2 < f a b then (((a : Int), (b : Int)), f a b) else rowB f a b r := fun a b r => by rw [rowB]
  have hall : ∀ (a : Nat), allB f c.ord.length (a + 1) ((0, 0), -1) = rowB f a c.ord.length (allB f c.ord.length a ((0, 0), -1)) := fun a => by rw [allB]
  have hK := cntR16
  obtain ⟨K, hKe⟩ : ∃ K, K = cntR 16 := ⟨_, rfl⟩
  rw [← hKe] at ksol hK
  unfold chV at kop
  unfold chV at ksol
  have HROW := Lib.hid hrow
  have HALL := Lib.hid hall
  have HVB := Lib.hid hvb
  have KOP := Lib.hid kop
  have KSOL := Lib.hid ksol
  have HZ := Lib.hid hz
  obtain ⟨hnp1, hnp2⟩ := hnp
  clear hz h0 k1 hu h ht kop ksol hvb hrow hall hKe hfe hf
  go_enter Tryz.func34, Tryz.ntmps34
  go_wp2_with (clear tok0; go_at_call 39; refine (K1.out _ HX.out.bel).mono ?_; rintro e w2 ⟨rfl, hb2⟩; have HX2 := Lib.hid (HX.out.below hb2); obtain ⟨x0, x1, x2, x3, x4, x5, x6⟩ := HX2.out.cell7; obtain ⟨z0, z1, zf0, zf1⟩ := HX2.out.rcell; have hl1 := HX2.out.box.lt; have hl2 := HX2.out.res.lt; clear hb2; have tok1 : True := trivial)
  go_loopw [8, 23] (fun mo i wr => ∃ (a : Nat) (p q m : Int), a ≤ c.ord.length ∧ i = .int .i64 a ∧ mo = .int .i64 m ∧ -1 ≤ m ∧ m ≤ 281474976710656 ∧ Hid (BstO w wr w2.heap.size (a * 6 * K) c (.slice A c.mdl.bats.length ca) (.slice A1 c.mdl.bows.length ca1) (.slice A2 c.bows.length ca2) (.slice A3 c.ord.length ca3) p q) ∧ Hid (((p, q), m) = allB f c.ord.length a ((0, 0), -1))) (fun _ i _ => c.ord.length - (intOf i).toNat)
  case atStart => exact ⟨0, 0, 0, -1, Nat.zero_le _, rfl, rfl, by omega, by omega, Lib.hid (by first | (rw [Nat.zero_mul]; exact BstO.new HX2.out 0 0) | (rw [Nat.zero_mul, Nat.zero_mul]; exact BstO.new HX2.out 0 0)), Lib.hid rfl⟩
  case round =>
    clear x0 x1 x2 x3 x4 x5 x6 z0 z1 zf0 zf1 hl1 hl2
    obtain ⟨a, p, q, m, ha, rfl, rfl, hm0, hm1, HS, hss⟩ := hrel
    obtain ⟨x0, x1, x2, x3, x4, x5, x6⟩ := HS.out.cell7; 
    obtain ⟨wo, hwo⟩ : ∃ wo : World, wo = wr := ⟨_, rfl⟩
    subst hwo
    by_cases hat : a < c.ord.length
    · have hA := HALL.out a
      rw [← hss.out] at hA
      obtain ⟨R, hR⟩ : ∃ R : (Int × Int) × Int, R = ((p, q), m) := ⟨_, rfl⟩
      rw [← hR] at hA
      have HA := Lib.hid hA
      have HR := Lib.hid (show ((p, q), m) = rowB f a 0 R by rw [hR]; rfl)
      clear hA hR hss
      go_wp2
      go_loopw [8, 29] (fun mo i wr => ∃ (b : Nat) (p q m : Int), b ≤ c.ord.length ∧ i = .int .i64 b ∧ mo = .int .i64 m ∧ -1 ≤ m ∧ m ≤ 281474976710656 ∧ Hid (BstO w wr w2.heap.size ((a * 6 + b) * K) c (.slice A c.mdl.bats.length ca) (.slice A1 c.mdl.bows.length ca1) (.slice A2 c.bows.length ca2) (.slice A3 c.ord.length ca3) p q) ∧ Hid (((p, q), m) = rowB f a b R)) (fun _ i _ => c.ord.length - (intOf i).toNat)
      case atStart => exact ⟨0, p, q, m, Nat.zero_le _, rfl, rfl, hm0, hm1, HS, HR⟩
      case round =>
        clear x0 x1 x2 x3 x4 x5 x6 HS HR
        obtain ⟨b, p, q, m, hb, rfl, rfl, hm0, hm1, HS, hss⟩ := hrel
        obtain ⟨x0, x1, x2, x3, x4, x5, x6⟩ := HS.out.cell7; 
        by_cases hbt : b < c.ord.length
        · have hst := HROW.out a b R
          rw [← hss.out] at hst
          by_cases hab : a = b
          · rw [if_pos hab] at hst
            have HST := Lib.hid hst.symm
            have e1 : ((a : Int) == (b : Int)) = true := by rw [hab]; simp
            clear hst hss hab
            go_wp2
            go_roundw
            case rel => exact ⟨b + 1, p, q, m, by omega, by go_num, rfl, hm0, hm1, Lib.hid (HS.out.le (Nat.mul_le_mul_right K (by omega))), HST⟩
            case measure => simp [intOf]; omega
          · rw [if_neg hab] at hst
            have e1 : ((a : Int) == (b : Int)) = false := by simp; omega
            have kO := KOP.out a b hat hbt
            have kR := KSOL.out a b hat hbt hab
            have hp := HVB.out a b hat hbt hab
            obtain ⟨⟨t0, t1, t2, t3, t4⟩, hs'⟩ : ∃ x, x = openO c a b := ⟨_, rfl⟩
            simp only [← hs'] at kO kR
            obtain ⟨vv, hvv'⟩ : ∃ x, x = f a b := ⟨_, rfl⟩
            rw [← hvv'] at hp hst
            simp only [← hvv'] at kR
            unfold osV at kO kR
            dsimp only at hst kO kR
            obtain ⟨hp0, hp1⟩ := hp
            have hkK : (a * 6 + b) * K + K ≤ 2000000000000000000 := by have := Nat.mul_le_mul_right K (show (a * 6 + b) + 1 ≤ 36 by omega); rw [Nat.add_mul, Nat.one_mul] at this; omega
            have hkk : (a * 6 + (b + 1)) * K = (a * 6 + b) * K + K := by rw [show a * 6 + (b + 1) = (a * 6 + b) + 1 by omega, Nat.add_mul (a * 6 + b), Nat.one_mul]
            have KO := Lib.hid kO
            have KR := Lib.hid kR
            have HKK := Lib.hid hkk
            have HHK := Lib.hid hkK
            clear kO kR hs' hvv' hss hkk hkK hab
            go_wp2
            have HSD := Lib.hid HS.out.drew
            clear x0 x1 x2 x3 x4 x5 x6
            obtain ⟨x0, x1, x2, x3, x4, x5, x6⟩ := HSD.out.cell7; 
            have tok9 : True := trivial
            go_region_held3 (fun w' => w'.cell? ⟨w.heap.size, 0, none⟩ = some (.slice A c.mdl.bats.length ca) ∧ w'.cell? ⟨w.heap.size, 1, none⟩ = some (.slice A1 c.mdl.bows.length ca1) ∧ w'.cell? ⟨w.heap.size, 2, none⟩ = some (.slice A2 c.bows.length ca2) ∧ w'.cell? ⟨w.heap.size, 3, none⟩ = some (.int .i64 c.over) ∧ w'.cell? ⟨w.heap.size, 4, none⟩ = some (.int .i64 c.done) ∧ w'.cell? ⟨w.heap.size, 5, none⟩ = some (.int .i64 c.need) ∧ w'.cell? ⟨w.heap.size, 6, none⟩ = some (.slice A3 c.ord.length ca3)) (first | exact ⟨x0, x1, x2, x3, x4, x5, x6⟩ | go_keep) (first
              | (clear tok9; go_at_call 43; refine (KO.out _ HSD.out.base.bel).mono ?_; rintro e w6 ⟨rfl, hb6⟩; have HS6 := Lib.hid (HSD.out.below hb6); clear x0 x1 x2 x3 x4 x5 x6; obtain ⟨x0, x1, x2, x3, x4, x5, x6⟩ := HS6.out.cell7; clear hb6; have tok10 : True := trivial)
              | (clear tok10; go_at_call 52; refine (KR.out _ _ _ _ _ HS6.out HHK.out).mono ?_; rintro e w7 ⟨rfl, hs7, ho7⟩; have HS7 := Lib.hid hs7; clear x0 x1 x2 x3 x4 x5 x6; obtain ⟨x0, x1, x2, x3, x4, x5, x6⟩ := HS7.out.cell7; obtain ⟨p0, p1, pf0, pf1⟩ := HS7.out.pcell; clear hs7 ho7; have tok11 : True := trivial))
            by_cases hgt : m < vv
            · rw [if_pos hgt] at hst
              have HST := Lib.hid hst.symm
              clear hst
              all_goals go_wp2
              go_roundw
              case rel => exact ⟨b + 1, a, b, vv, by omega, by go_num, rfl, by omega, by omega, Lib.hid (by rw [HKK.out]; exact HS7.out.stored a b), HST⟩
              case measure => simp [intOf]; omega
            · rw [if_neg hgt] at hst
              have HST := Lib.hid hst.symm
              clear hst
              all_goals go_wp2
              go_roundw
              case rel => exact ⟨b + 1, p, q, m, by omega, by go_num, rfl, by omega, by omega, Lib.hid (by rw [HKK.out]; exact HS7.out), HST⟩
              case measure => simp [intOf]; omega
        · obtain rfl : b = c.ord.length := by omega
          have HF := Lib.hid (show ((p, q), m) = allB f c.ord.length (a + 1) ((0, 0), -1) by rw [HA.out, hss.out])
          clear hss
          go_wp2
          go_roundw
          case rel => exact ⟨a + 1, p, q, m, by omega, by go_num, rfl, hm0, hm1, Lib.hid (HS.out.le (Nat.mul_le_mul_right K (by omega))), HF⟩
          case measure => simp [intOf]; omega
    · obtain rfl : a = c.ord.length := by omega
      have HF := Lib.hid (show z = ((p, q), m, 0) by rw [HZ.out, ← hss.out])
      obtain ⟨p0, p1, pf0, pf1⟩ := HS.out.pcell
      obtain ⟨z0, z1, zf0, zf1⟩ := HS.out.base.rcell
      clear hss
      go_wp2
      refine or_Best_ret rfl rfl rfl (HS.out.base.res.put2 _ _) rfl ⟨by rw [HF.out] <;> rfl, ?_⟩
      exact below_put2 HS.out.base.bel (by omega) _ _
end Go.Proofs.YtdlmmbfnmnglaaaGreatDoor

namespace Go.Proofs.YtdlmmbfnmnglaaaGreatDoor
open Go.RowKit Go.Maps

theorem cntR8 : cntR 8 ≤ 1000000000 := by decide
/-- The openings below (a, b) are laid in. -/
def OpTo (c : Chs) (a b : Nat) (D : DataW Unit) : Prop := ∀ i j : Nat, (i < a ∨ (i = a ∧ j < b)) → i < c.ord.length → j < c.ord.length → i ≠ j → Maps.has D (keyOs (openO c i j)) = true
theorem OpTo.row {c : Chs} {a : Nat} {D : DataW Unit} (h : OpTo c a c.ord.length D) : OpTo c (a + 1) 0 D := fun i j hh hi hj hne => h i j (by omega) hi hj hne
theorem OpTo.same {c : Chs} {a : Nat} {D : DataW Unit} (h : OpTo c a a D) : OpTo c a (a + 1) D := fun i j hh hi hj hne => h i j (by omega) hi hj hne
theorem OpTo.step {c : Chs} {a b : Nat} {D D' : DataW Unit} (h : OpTo c a b D) (hg : GrewO D D') (hh : Maps.has D' (keyOs (openO c a b)) = true) : OpTo c a (b + 1) D' := fun i j h1 hi hj hne => by
  by_cases e : i = a ∧ j = b
  · obtain ⟨rfl, rfl⟩ := e; exact hh
  · exact hg _ (h i j (by omega) hi hj hne)
/-- A task boxed, a map in block b, of which P holds. -/
structure TbO (w W : World) (b N : Nat) (P : DataW Unit → Prop) (c : Chs) (bv wv pv ov : Value) : Prop where
  base : OTB w W w.heap.size c bv wv pv ov
  hb : w.heap.size < b
  vals : ∃ D, ValsO W b N D ∧ KnownO c D ∧ P D
section
variable {w W W' : World} {b N N' : Nat} {P P' : DataW Unit → Prop} {c : Chs} {bv wv pv ov : Value}
theorem TbO.below (h : TbO w W b N P c bv wv pv ov) (hb : Below W.heap.size W W') : TbO w W' b N P c bv wv pv ov := ⟨h.base.below hb, h.hb, let ⟨D, h1, h2⟩ := h.vals; ⟨D, ovals_below h1 hb, h2⟩⟩
theorem TbO.drew (h : TbO w W b N P c bv wv pv ov) : TbO w W.drew b N P c bv wv pv ov := h.below (Below.drew (Below.refl _ _))
theorem TbO.into (h : TbO w W b N P c bv wv pv ov) (ho : Only b W W') (hv : ∃ D, ValsO W' b N' D ∧ KnownO c D ∧ P' D) : TbO w W' b N' P' c bv wv pv ov := by
  have hbb := h.hb
  exact ⟨⟨h.base.bel.trans (ho.below (by omega) h.base.bel.size), h.base.box.grown ho (by intro e; injection e with e; omega)⟩, h.hb, hv⟩
theorem TbO.cells (h : TbO w W b N P c bv wv pv ov) : W.cell? ⟨w.heap.size, 0, none⟩ = some bv ∧ W.cell? ⟨w.heap.size, 1, none⟩ = some wv ∧ W.cell? ⟨w.heap.size, 2, none⟩ = some pv ∧ W.cell? ⟨w.heap.size, 3, none⟩ = some (.int .i64 c.over) ∧ W.cell? ⟨w.heap.size, 4, none⟩ = some (.int .i64 c.done) ∧ W.cell? ⟨w.heap.size, 5, none⟩ = some (.int .i64 c.need) ∧ W.cell? ⟨w.heap.size, 6, none⟩ = some ov := h.base.cells
theorem TbO.le (h : TbO w W b N P c bv wv pv ov) (hN : N ≤ N') (hP : ∀ D, P D → P' D) : TbO w W b N' P' c bv wv pv ov := ⟨h.base, h.hb, let ⟨D, h1, h2, h3⟩ := h.vals; ⟨D, h1.mono hN, h2, hP D h3⟩⟩
theorem TbO.new (h : OTB w W w.heap.size c bv wv pv ov) : TbO w (W.alloc (.map #[] 0)) W.heap.size 0 (OpTo c 0 0) c bv wv pv ov := ⟨h.alloc _, h.box.lt, _, World.ownsMap_made W _ _ _, KnownO.none c, fun i j hh => by omega⟩
end
/-- Collecting: the map ranged over, the row that is built. -/
structure RgO (w wB W : World) (b r N : Nat) (D : DataW Unit) (left : Lit → Bool) (cnt : Nat) (lc : List Ove) (v : Value) : Prop where
  rg : W.ranges Tryz.prog 45 (plainElem Tryz.prog 2) b r N D left cnt
  coll : CollO D left lc
  own : OwnSl 6 elOv 47 wB.heap.size W v lc
  bel : Below w.heap.size w W
  hr : w.heap.size ≤ r ∧ r < wB.heap.size
  hb : b < wB.heap.size
  sz : wB.heap.size ≤ W.heap.size
  hn : lc.length + cnt ≤ N
section
variable {w wB W W' : World} {b r N cnt cnt' : Nat} {D : DataW Unit} {left left' : Lit → Bool} {lc : List Ove} {v v' : Value} {e : Ove}
theorem RgO.alloc (h : RgO w wB W b r N D left cnt lc v) (o : Obj) : RgO w wB (W.alloc o) b r N D left cnt lc v :=
  ⟨h.rg.alloc o, h.coll, h.own.alloc elOv_good o, h.bel.alloc h.bel.size _, h.hr, h.hb, by simp; have := h.sz; omega, h.hn⟩
theorem RgO.next (h : RgO w wB W b r N D left cnt lc v) (hr' : W'.ranges Tryz.prog 45 (plainElem Tryz.prog 2) b r N D left' cnt') (hg : W.grownBy W' (some r)) (hc : CollO D left' (lc ++ [e])) (hlt : cnt' < cnt) :
    W'.ranges Tryz.prog 45 (plainElem Tryz.prog 2) b r N D left' cnt' ∧ CollO D left' (lc ++ [e]) ∧ OwnSl 6 elOv 47 wB.heap.size W' v lc ∧ Below w.heap.size w W' ∧ wB.heap.size ≤ W'.heap.size ∧ (lc ++ [e]).length + cnt' ≤ N := by
  have h1 := h.hr
  have h2 := h.sz
  refine ⟨hr', hc, h.own.grown elOv_good hg fun k hk e => ?_, h.bel.grown hg h.bel.size fun k hk => by injection hk with hk; omega, Nat.le_trans h.sz hg.size, by have := h.hn; simp; omega⟩
  have h3 := (OwnSl.block h.own k hk).1
  injection e with e
  omega
end
/-- What is collected while an entry is on its way into the row. -/
structure RgP (w wB W : World) (b r N : Nat) (D : DataW Unit) (left : Lit → Bool) (cnt : Nat) (lc : List Ove) (e : Ove) (v : Value) : Prop where
  rg : W.ranges Tryz.prog 45 (plainElem Tryz.prog 2) b r N D left cnt
  coll : CollO D left (lc ++ [e])
  own : OwnSl 6 elOv 47 wB.heap.size W v lc
  bel : Below w.heap.size w W
  hr : w.heap.size ≤ r ∧ r < wB.heap.size
  hb : b < wB.heap.size
  sz : wB.heap.size ≤ W.heap.size
  hn : (lc ++ [e]).length + cnt ≤ N
section
variable {w wB W W' : World} {b r N cnt : Nat} {D : DataW Unit} {left : Lit → Bool} {lc : List Ove} {v v' : Value} {e : Ove}
theorem RgP.alloc (h : RgP w wB W b r N D left cnt lc e v) (o : Obj) : RgP w wB (W.alloc o) b r N D left cnt lc e v :=
  ⟨h.rg.alloc o, h.coll, h.own.alloc elOv_good o, h.bel.alloc h.bel.size _, h.hr, h.hb, by simp; have := h.sz; omega, h.hn⟩
theorem RgP.app (h : RgP w wB W b r N D left cnt lc e v) (ho : OwnSl 6 elOv 47 wB.heap.size W' v' (lc ++ [e])) (hg : W.grownBy W' v.ownBlock) : RgO w wB W' b r N D left cnt (lc ++ [e]) v' := by
  have h1 := h.hr
  have h2 := h.hb
  have h3 := h.sz
  have h4 := h.bel.size
  refine ⟨h.rg.kept hg (fun e => ?_) (fun e => ?_), h.coll, ho, h.bel.grown hg h.bel.size fun k hk => by have := (OwnSl.block h.own k hk).1; omega, h.hr, h.hb, Nat.le_trans h.sz hg.size, h.hn⟩
  · have := (OwnSl.block h.own _ e.symm).1; omega
  · have := (OwnSl.block h.own _ e.symm).1; omega
end
theorem RgO.done {w wB W w' : World} {b r N cnt : Nat} {D : DataW Unit} {left : Lit → Bool} {lc : List Ove} {v : Value} {e : Ending} (h : RgO w wB W b r N D left cnt lc v) (hp : MrgPost W v lc e w') : ∃ A cp l', e = .returned (.slice A l'.length cp) ∧ Below w.heap.size w w' ∧ l'.Perm lc ∧ (l'.Pairwise fun x y => leO x y = true) ∧ l'.length ≤ N ∧ OwnSl 6 elOv 47 w.heap.size w' (.slice A l'.length cp) l' := by
  obtain ⟨A, n, cp, l', rfl, hb, hpm, hs, hv⟩ := hp
  have hown : OwnSl 6 elOv 47 w.heap.size w' (.slice A n cp) l' := by
    have h1 := h.hr
    rcases hv with ⟨rfl, e2⟩ | hv
    · rw [e2]; exact own_base (by omega) (h.own.below elOv_good hb)
    · exact own_base h.bel.size hv
  obtain ⟨A', cp', e1, _, _⟩ := (OwnSl.sl elOv_good hown).shape
  injection e1 with e2 e3 e4
  subst e3
  exact ⟨A, cp, l', rfl, h.bel.trans (hb.mono h.bel.size), hpm, hs, by have := hpm.length_eq; have := h.hn; omega, hown⟩
@[go_sem] theorem build_ov (q0 q1 q2 q3 q4 cc : Int) (w : World) : (Instr.build 47 #[(0, .agg #[.int .i64 q0, .int .i64 q1, .int .i64 q2, .int .i64 q3, .int .u16 q4]), (1, .int .i64 cc)]).run Tryz.prog w = .ok (.agg #[.int .i64 q0, .int .i64 q1, .int .i64 q2, .int .i64 q3, .int .u16 q4, .int .i64 cc]) w := run_build w 47 _ _ (by kernel_rfl)
theorem cells_new2 (w : World) (o : Obj) (cs : List Value) (e : TypeId) (z : Nat × Nat) (j : Nat) (u : Value) (h : cs[j]? = some u) : ((w.alloc o).alloc (.cells cs.toArray e z)).cell? (Addr.add ⟨w.heap.size + 1, 0, none⟩ j) = some u := by
  have := cells_new (w.alloc o) cs e z j u h
  rw [World.size_alloc] at this
  exact this
/-- What Table hands back. -/
def TabPost (c : Chs) (w : World) (e : Ending) (w' : World) : Prop :=
  (checkO c ≠ 0 ∧ e = .returned (.tuple #[.slice none 0 0, .int .i64 (checkO c)]) ∧ Below w.heap.size w w') ∨
  (checkO c = 0 ∧ ∃ A cp l, e = .returned (.tuple #[.slice A l.length cp, .int .i64 0]) ∧ Below w.heap.size w w' ∧ TabIs c l ∧ l.length ≤ 36000000000 ∧ OwnSl 6 elOv 47 w.heap.size w' (.slice A l.length cp) l)
theorem keyO_inv {c : Chs} (ht : OkT c) {D : DataW Unit} (hk : KnownO c D) {v : Value} {kl : Lit} (h1 : keyOf Tryz.prog 45 v = some kl) (h2 : Maps.has D kl = true) : ∃ s, v = osV s ∧ kl = keyOs s ∧ OkOs c s := by
  obtain ⟨s, rfl, hs, _⟩ := hk.sub kl h2
  have e := keyOf_inj_deep (P := Tryz.prog) (m := Tryz.prog.types.size + 1) (k := 45) (by kernel_rfl) (by kernel_rfl) h1 (okey_of (hs.smol ht))
  exact ⟨s, e, rfl, hs⟩
set_option maxRecDepth 100000 in
set_option maxHeartbeats 8000000 in
theorem r45_Table (c : Chs) (bv wv pv ov : Value) (w : World) (h : ChAt w (· < w.heap.size) bv wv pv ov c) (h4 : c.bows.length ≤ 4) :
    Calls Tryz.prog 14 #[chV c bv wv pv ov] w (TabPost c w) := by
  obtain ⟨A, ca, rfl, hc1, hc2⟩ := h.mdl.bat.shape
  obtain ⟨A1, ca1, rfl, hc3, hc4⟩ := h.mdl.bow.shape
  obtain ⟨A2, ca2, rfl, hc5, hc6⟩ := h.bow.shape
  obtain ⟨A3, ca3, rfl, hc7, hc8⟩ := h.ord.shape
  have HX := Lib.hid (OTB.new w c (.slice A c.mdl.bats.length ca) (.slice A1 c.mdl.bows.length ca1) (.slice A2 c.bows.length ca2) (.slice A3 c.ord.length ca3))
  have HM := Lib.hid h
  have k1 := fun W (hW : Below w.heap.size w W) => r45_Check c _ _ _ _ W (HM.out.below hW)
  simp only [checkO_ref] at k1
  unfold chV at k1 ⊢
  obtain ⟨u, hu⟩ : ∃ u, u = checkO c := ⟨_, rfl⟩
  rw [← hu] at k1
  have K1 := Lib.hid k1
  have tok0 : True := trivial
  have hmm := @run_makeMap Tryz.prog
  by_cases h0 : u = 0
  case neg =>
    have HU := Lib.hid hu
    have H0 := Lib.hid h0
    have eu : (u != 0) = true := by simp [h0]
    clear h0 k1 hu h
    go_enter Tryz.func14, Tryz.ntmps14
    go_wp2_with (clear tok0; go_at_call 35; refine (K1.out _ HX.out.bel).mono ?_; rintro e w2 ⟨rfl, hb2⟩; have HX2 := Lib.hid (HX.out.below hb2); clear hb2; have tok1 : True := trivial)
    go_ret2
    exact .inl ⟨by rw [← HU.out]; exact H0.out, by rw [← HU.out] <;> rfl, HX2.out.bel⟩
  have hc0 : checkO c = 0 := by omega
  have ht := okT_of hc0
  have eu : (u != 0) = false := by simp [h0]
  have hnp := ht.np
  have kop := fun (a b : Nat) (ha : a < c.ord.length) (hb : b < c.ord.length) W (hW : Below w.heap.size w W) => r45_opening c a b _ _ _ _ W (HM.out.below hW) ht ha hb
  have ksol : ∀ (i j : Nat) (hi : i < c.ord.length) (hj : j < c.ord.length) (hne : i ≠ j) (W : World) (b N : Nat) (hW : TbO w W b N (OpTo c i j) c (.slice A c.mdl.bats.length ca) (.slice A1 c.mdl.bows.length ca1) (.slice A2 c.bows.length ca2) (.slice A3 c.ord.length ca3)) (hN : N + cntR 8 ≤ 2000000000000000000), Calls Tryz.prog 36 #[chV c (.slice A c.mdl.bats.length ca) (.slice A1 c.mdl.bows.length ca1) (.slice A2 c.bows.length ca2) (.slice A3 c.ord.length ca3), osV (openO c i j), .map (some b)] W fun e W' => e = .returned (.int .i64 (vO c (openO c i j))) ∧ TbO w W' b (N + cntR 8) (OpTo c i (j + 1)) c (.slice A c.mdl.bats.length ca) (.slice A1 c.mdl.bows.length ca1) (.slice A2 c.bows.length ca2) (.slice A3 c.ord.length ca3) := fun i j hi hj hne W b N hW hN => by
    obtain ⟨q1, q2, q3⟩ := openO_ok ht hi hj hne
    obtain ⟨D, d1, d2, d3⟩ := hW.vals
    have hbb := hW.hb
    have hr8 : rankO c (openO c i j) ≤ 8 := by unfold rankO; rw [q2, q3]; simp; omega
    have hc8 := cntR_mono hr8
    refine (r45_fill c ht _ (openO c i j) rfl q1 (ReachO.op hi hj hne) _ _ _ _ (· < w.heap.size) b N D W (HM.out.keep (Same.of_below hW.base.bel) fun _ h => h) (fun x hx => ⟨Nat.lt_of_lt_of_le hx hW.base.bel.size, by have : x < w.heap.size := hx; omega⟩) d1 d2 (by omega)).mono ?_
    rintro e W' ⟨a1, a2, D7, a3, a4, a5, a6⟩
    exact ⟨a1, hW.into a2 ⟨D7, a3.mono (by omega), a4, d3.step a5 a6⟩⟩
  have hK := cntR8
  obtain ⟨K, hKe⟩ : ∃ K, K = cntR 8 := ⟨_, rfl⟩
  rw [← hKe] at ksol hK
  unfold chV at kop ksol
  have HINV := Lib.hid (fun (D : DataW Unit) (hk : KnownO c D) (v : Value) (kl : Lit) (h1 : keyOf Tryz.prog 45 v = some kl) (h2 : Maps.has D kl = true) => keyO_inv ht hk h1 h2)
  have HFIN := Lib.hid (fun (D : DataW Unit) (left : Lit → Bool) (l l' : List Ove) (h1 : CollO D left l) (h2 : ∀ kl, left kl = false) (h3 : KnownO c D) (h4 : OpTo c c.ord.length 0 D) (h5 : l'.Perm l) (h6 : l'.Pairwise fun x y => leO x y = true) => coll_tab ht h1 h2 h3 (fun a b ha hb hne => h4 a b (.inl ha) ha hb hne) h5 h6)
  have HSM := Lib.hid (fun (s : Ost) (hs : OkOs c s) => hs.smol ht)
  have KOP := Lib.hid kop
  have KSOL := Lib.hid ksol
  have HC0 := Lib.hid hc0
  obtain ⟨hnp1, hnp2⟩ := hnp
  clear h0 k1 hu h ht kop ksol hKe h4 hc0
  go_enter Tryz.func14, Tryz.ntmps14
  go_wp2_with (clear tok0; go_at_call 35; refine (K1.out _ HX.out.bel).mono ?_; rintro e w2 ⟨rfl, hb2⟩; have HX2 := Lib.hid (HX.out.below hb2); obtain ⟨x0, x1, x2, x3, x4, x5, x6⟩ := HX2.out.cells; have hl1 := HX2.out.box.lt; clear hb2; have tok1 : True := trivial)
  go_loopw [20] (fun i wr => ∃ (a : Nat), a ≤ c.ord.length ∧ i = .int .i64 a ∧ Hid (TbO w wr w2.heap.size (a * 6 * K) (OpTo c a 0) c (.slice A c.mdl.bats.length ca) (.slice A1 c.mdl.bows.length ca1) (.slice A2 c.bows.length ca2) (.slice A3 c.ord.length ca3))) (fun i _ => c.ord.length - (intOf i).toNat)
  case atStart => exact ⟨0, Nat.zero_le _, rfl, Lib.hid (by first | (rw [Nat.zero_mul]; exact TbO.new HX2.out) | (rw [Nat.zero_mul, Nat.zero_mul]; exact TbO.new HX2.out))⟩
  case round =>
    clear x0 x1 x2 x3 x4 x5 x6 hl1
    obtain ⟨a, ha, rfl, HS⟩ := hrel
    obtain ⟨x0, x1, x2, x3, x4, x5, x6⟩ := HS.out.cells
    obtain ⟨wo, hwo⟩ : ∃ wo : World, wo = wr := ⟨_, rfl⟩
    subst hwo
    by_cases hat : a < c.ord.length
    · go_wp2
      go_loopw [26] (fun i wr => ∃ (b : Nat), b ≤ c.ord.length ∧ i = .int .i64 b ∧ Hid (TbO w wr w2.heap.size ((a * 6 + b) * K) (OpTo c a b) c (.slice A c.mdl.bats.length ca) (.slice A1 c.mdl.bows.length ca1) (.slice A2 c.bows.length ca2) (.slice A3 c.ord.length ca3))) (fun i _ => c.ord.length - (intOf i).toNat)
      case atStart => exact ⟨0, Nat.zero_le _, rfl, HS⟩
      case round =>
        clear x0 x1 x2 x3 x4 x5 x6 HS
        obtain ⟨b, hb, rfl, HS⟩ := hrel
        obtain ⟨x0, x1, x2, x3, x4, x5, x6⟩ := HS.out.cells
        by_cases hbt : b < c.ord.length
        · by_cases hab : a = b
          · have e1 : ((a : Int) != (b : Int)) = false := by rw [hab]; simp
            have HS2 := Lib.hid (show TbO w wr w2.heap.size ((a * 6 + (b + 1)) * K) (OpTo c a (b + 1)) c (.slice A c.mdl.bats.length ca) (.slice A1 c.mdl.bows.length ca1) (.slice A2 c.bows.length ca2) (.slice A3 c.ord.length ca3) from HS.out.le (Nat.mul_le_mul_right K (by omega)) (fun D h => by subst hab; exact h.same))
            clear hab
            go_wp2
            go_roundw
            case rel => exact ⟨b + 1, by omega, by go_num, HS2⟩
            case measure => simp [intOf]; omega
          · have e1 : ((a : Int) != (b : Int)) = true := by simp; omega
            have kO := KOP.out a b hat hbt
            have kR := KSOL.out a b hat hbt hab
            obtain ⟨⟨t0, t1, t2, t3, t4⟩, hs'⟩ : ∃ x, x = openO c a b := ⟨_, rfl⟩
            simp only [← hs'] at kO kR
            obtain ⟨vv, hvv'⟩ : ∃ x, x = vO c ⟨t0, t1, t2, t3, t4⟩ := ⟨_, rfl⟩
            simp only [← hvv'] at kR
            unfold osV at kO kR
            dsimp only at kO kR
            have hkK : (a * 6 + b) * K + K ≤ 2000000000000000000 := by have := Nat.mul_le_mul_right K (show (a * 6 + b) + 1 ≤ 36 by omega); rw [Nat.add_mul, Nat.one_mul] at this; omega
            have hkk : (a * 6 + (b + 1)) * K = (a * 6 + b) * K + K := by rw [show a * 6 + (b + 1) = (a * 6 + b) + 1 by omega, Nat.add_mul (a * 6 + b), Nat.one_mul]
            have KO := Lib.hid kO
            have KR := Lib.hid kR
            have HKK := Lib.hid hkk
            have HHK := Lib.hid hkK
            clear kO kR hs' hvv' hkk hkK hab
            go_wp2
            have HSD := Lib.hid HS.out.drew
            clear x0 x1 x2 x3 x4 x5 x6
            obtain ⟨x0, x1, x2, x3, x4, x5, x6⟩ := HSD.out.cells
            have tok9 : True := trivial
            go_region_held3 (fun w' => w'.cell? ⟨w.heap.size, 0, none⟩ = some (.slice A c.mdl.bats.length ca) ∧ w'.cell? ⟨w.heap.size, 1, none⟩ = some (.slice A1 c.mdl.bows.length ca1) ∧ w'.cell? ⟨w.heap.size, 2, none⟩ = some (.slice A2 c.bows.length ca2) ∧ w'.cell? ⟨w.heap.size, 3, none⟩ = some (.int .i64 c.over) ∧ w'.cell? ⟨w.heap.size, 4, none⟩ = some (.int .i64 c.done) ∧ w'.cell? ⟨w.heap.size, 5, none⟩ = some (.int .i64 c.need) ∧ w'.cell? ⟨w.heap.size, 6, none⟩ = some (.slice A3 c.ord.length ca3)) (first | exact ⟨x0, x1, x2, x3, x4, x5, x6⟩ | go_keep) (first
              | (clear tok9; go_at_call 37; refine (KO.out _ HSD.out.base.bel).mono ?_; rintro e w6 ⟨rfl, hb6⟩; have HS6 := Lib.hid (HSD.out.below hb6); clear x0 x1 x2 x3 x4 x5 x6; obtain ⟨x0, x1, x2, x3, x4, x5, x6⟩ := HS6.out.cells; clear hb6; have tok10 : True := trivial)
              | (clear tok10; go_at_call 36; refine (KR.out _ _ _ HS6.out HHK.out).mono ?_; rintro e w7 ⟨rfl, hs7⟩; have HS7 := Lib.hid hs7; clear x0 x1 x2 x3 x4 x5 x6; obtain ⟨x0, x1, x2, x3, x4, x5, x6⟩ := HS7.out.cells; clear hs7; have tok11 : True := trivial))
            all_goals go_wp2
            all_goals go_roundw
            case rel => exact ⟨b + 1, by omega, by go_num, Lib.hid (by rw [HKK.out]; exact HS7.out)⟩
            case measure => simp [intOf]; omega
        · obtain rfl : b = c.ord.length := by omega
          have HS2 := Lib.hid (show TbO w wr w2.heap.size ((a + 1) * 6 * K) (OpTo c (a + 1) 0) c (.slice A c.mdl.bats.length ca) (.slice A1 c.mdl.bows.length ca1) (.slice A2 c.bows.length ca2) (.slice A3 c.ord.length ca3) from HS.out.le (Nat.mul_le_mul_right K (by omega)) (fun D h => h.row))
          clear HS
          go_wp2
          go_roundw
          case rel => exact ⟨a + 1, by omega, by go_num, HS2⟩
          case measure => simp [intOf]; omega
    · obtain rfl : a = c.ord.length := by omega
      obtain ⟨D, hv, hk, hp⟩ := HS.out.vals
      have hv := hv.mono (show c.ord.length * 6 * K ≤ 36000000000 from by have := Nat.mul_le_mul_right K (show c.ord.length * 6 ≤ 36 by omega); omega)
      have HV := Lib.hid hv
      have HKN := Lib.hid hk
      have HP := Lib.hid hp
      have HBL := Lib.hid HS.out.base.bel
      have HSIZE := Lib.hid hv.size_le
      clear hv hk hp hmm
      go_wp2_with (at_range; refine wpList_range_own _ rfl _ 81 rfl 45 2 law45 Tryz.underlying81 (plainElem Tryz.prog 2) w2.heap.size 36000000000 D rfl HV.out ?_; intro w0 hrg0 hg0 hs0)
      go_frame
      have HR0 := Lib.hid (show RgO w w0 w0 w2.heap.size wo.heap.size 36000000000 D (Maps.has D) (Maps.size D) [] (.slice none 0 0) from ⟨hrg0, CollO.start D, OwnSl.nil _, HBL.out.grown hg0 HBL.out.size (fun k hk => by cases hk), ⟨HBL.out.size, by omega⟩, by have := hrg0.ne; have := HV.out.lt; omega, Nat.le_refl _, by simp; exact HSIZE.out⟩)
      clear hrg0 hg0 x0 x1 x2 x3 x4 x5 x6
      go_loopw [8] (fun v wr2 => ∃ (lc : List Ove) (left : Lit → Bool) (cnt : Nat) (Ao : Option Addr) (no co : Nat), v = .slice Ao no co ∧ Hid (RgO w w0 wr2 w2.heap.size wo.heap.size 36000000000 D left cnt lc (.slice Ao no co))) (fun _ wr2 => wr2.rangeLeft w2.heap.size wo.heap.size)
      case atStart => exact ⟨[], _, _, none, 0, 0, rfl, HR0⟩
      case round =>
        clear HR0
        obtain ⟨lc, left, cnt, Ao, no, co, rfl, HR⟩ := hrel
        have hrg := HR.out.rg
        go_wp2_with (at_next; refine wpList_next_ranges _ rfl _ rfl 45 law45 (plainElem Tryz.prog 2) (fun v : Value => v) (Value.int .i64) (fun key kl _ => ⟨key, rfl⟩) (fun v y hv => by obtain ⟨c9, rfl, _⟩ := plainElem_int_inv Tryz.underlying2 hv; exact ⟨c9, rfl⟩) w2.heap.size wo.heap.size 36000000000 _ _ _ rfl hrg ?_ ?_)
        · intro hcn hl0
          have hlen : lc.length ≤ 1000000000000 := by have := HR.out.hn; omega
          have KMG := Lib.hid ((r45_merge _ lc rfl (.slice Ao no co) _ wr (OwnSl.sl elOv_good HR.out.own) (fun b h => h.2) hlen).mono fun e w' hp => HR.out.done hp)
          have HL0 := Lib.hid hl0
          clear hcn hl0 hlen hrg
          have tok5 : True := trivial
          go_wp2_with (clear tok5; go_at_call 38; refine KMG.out.mono ?_; rintro e w9 ⟨A9, c9, l9, rfl, hb9, hp9, hs9, hn9, ho9⟩; have HB9 := Lib.hid hb9; have HP9 := Lib.hid (And.intro hp9 hs9); have HN9 := Lib.hid hn9; have HO9 := Lib.hid ho9; clear hb9 hp9 hs9 hn9 ho9; have tok6 : True := trivial)
          go_ret2
          exact .inr ⟨HC0.out, A9, c9, l9, rfl, HB9.out, HFIN.out D left lc l9 HR.out.coll HL0.out HKN.out HP.out HP9.out.1 HP9.out.2, HN9.out, HO9.out⟩
        · intro x cc kl y1 y2 w1 cnt1 hkey hlk hRv hat hrg1 hlt hg1 hs1 hen
          obtain ⟨c9, e9, e10, hwf⟩ := plainElem_int_inv Tryz.underlying2 hRv
          injection e10 with e11 e12
          subst e11 e12
          injection e9 with _ e9
          subst e9
          have hhas := has_true_of_atKey hat
          obtain ⟨s, rfl, rfl, hs⟩ := HINV.out D HKN.out x kl hkey hhas
          have hP1 := HR.out.next (e := ⟨s, cc⟩) hrg1 hg1 (HR.out.coll.step (e := ⟨s, cc⟩) hhas hlk (HSM.out s hs) (hat _)) hlt
          have HP1 := Lib.hid (show RgP w w0 w1 w2.heap.size wo.heap.size 36000000000 D _ cnt1 lc ⟨s, cc⟩ (.slice Ao no co) from ⟨hP1.1, hP1.2.1, hP1.2.2.1, hP1.2.2.2.1, HR.out.hr, HR.out.hb, hP1.2.2.2.2.1, hP1.2.2.2.2.2⟩)
          have HLT := Lib.hid hlt
          have hroom : lc.length + 1 ≤ maxLen ∧ (lc.length + 1) * 48 ≤ 140737488355328 := by have := HR.out.hn; simp only [maxLen]; omega
          have HROOM := Lib.hid hroom
          have HEN := Lib.hid hen
          clear hkey hlk hRv hat hrg1 hlt hg1 hs1 hwf hhas hs hP1 hroom
          obtain ⟨q0, q1, q2, q3, q4⟩ := s
          unfold osV at hen
          dsimp only at hen
          have HPA := Lib.hid (HP1.out.alloc (.cells #[.int .i64 q0, .int .i64 q1, .int .i64 q2, .int .i64 q3, .int .u16 q4] 45))
          have tok5 : True := trivial
          go_wp2_with (clear tok5; at_builtin; refine wpList_append_sl _ rfl (.tmp 48) (.tmp 52) _ rfl E_ov elOv_good _ _ lc rfl (HPA.out.own.alloc elOv_good _) ⟨w1.heap.size + 1, 0, none⟩ 1 [.int .i64 q0, .int .i64 q1, .int .i64 q2, .int .i64 q3, .int .u16 q4, .int .i64 cc] rfl ⟨⟨q0, q1, q2, q3, q4⟩, cc⟩ rfl (cells_new2 _ _ _ _ _) (oneCells rfl) rfl HROOM.out.1 HROOM.out.2 (base2 HPA.out.sz _) ?_; intro v6 w6 hown6 hg6 hat6; obtain ⟨A6, c6, rfl, hc61, hc62⟩ := (hown6.sl elOv_good).shape; have HN := Lib.hid ((HPA.out.alloc (.cells #[.int .i64 q0, .int .i64 q1, .int .i64 q2, .int .i64 q3, .int .u16 q4, .int .i64 cc] 47)).app hown6 hg6); clear hown6 hg6 hat6; have tok6 : True := trivial)
          go_roundw
          case rel => exact ⟨lc ++ [⟨⟨q0, q1, q2, q3, q4⟩, cc⟩], _, cnt1, A6, _, c6, rfl, by rw [show lc.length + 1 = (lc ++ [(⟨⟨q0, q1, q2, q3, q4⟩, cc⟩ : Ove)]).length by simp]; exact HN⟩
          case measure => rw [HN.out.rg.left_eq, HR.out.rg.left_eq]; exact HLT.out
end Go.Proofs.YtdlmmbfnmnglaaaGreatDoor

namespace Go.Proofs.YtdlmmbfnmnglaaaGreatDoor
open Go.RowKit Go.Maps

end Go.Proofs.YtdlmmbfnmnglaaaGreatDoor
