/- The contracts of convolve (at accepted spreads of at most 12 balls together) and of Convolve, of the program and of the reference. -/
import Derived.Test.YtdnjcgokcjlkiaaGreatDoorH5
set_option linter.unusedSimpArgs false
set_option linter.unusedVariables false
namespace Go.Proofs.YtdnjcgokcjlkiaaGreatDoor
open Go.RowKit

/-- A product under way: its row in block gr reads as f; the boxes of both spreads and of the result; the spread under way in gs, if there is one. -/
structure Cv (w W : World) (gr : Nat) (gs : Option Nat) (a b : Spr) (va vb : Value) (N : Nat) (f : Nat → Int) : Prop where
  bel : Below w.heap.size w W
  row : W.rowIs gr 2 N (fun i => .int .i64 (f i))
  ba : Blk W w.heap.size 90 #[.int .i64 a.balls, va]
  bb : Blk W (w.heap.size + 1) 90 #[.int .i64 b.balls, vb]
  br : Blk W (w.heap.size + 2) 90 #[.int .i64 0, .slice none 0 0]
  gr3 : w.heap.size + 3 ≤ gr
  spr : ∀ g, gs = some g → Blk W g 90 #[.int .i64 (a.balls + b.balls), .slice (some ⟨gr, 0, none⟩) N N] ∧ w.heap.size + 3 ≤ g ∧ g ≠ gr
section
variable {w W : World} {gr : Nat} {gs : Option Nat} {a b : Spr} {va vb : Value} {N : Nat} {f f' : Nat → Int}
theorem Cv.set (h : Cv w W gr gs a b va vb N f) (i : Nat) (v : Int) (e : ∀ j, j < N → (if j = i then v else f j) = f' j) : Cv w (W.setCell ⟨gr, i, none⟩ (.int .i64 v)) gr gs a b va vb N f' :=
  ⟨Below.setCell h.bel (by have := h.gr3; show w.heap.size ≤ gr; omega) _, (h.row.set i (.int .i64 v)).congr fun j hj => by
      have := e j hj
      by_cases hji : j = i
      · rw [if_pos hji] at this ⊢; rw [this]
      · rw [if_neg hji] at this ⊢; rw [this],
    h.ba.far (by have := h.gr3; show w.heap.size ≠ gr; omega) _, h.bb.far (by have := h.gr3; show w.heap.size + 1 ≠ gr; omega) _, h.br.far (by have := h.gr3; show w.heap.size + 2 ≠ gr; omega) _, h.gr3,
    fun g hg => ⟨(h.spr g hg).1.far (h.spr g hg).2.2 _, (h.spr g hg).2.1, (h.spr g hg).2.2⟩⟩
theorem Cv.congr (h : Cv w W gr gs a b va vb N f) (e : ∀ j, j < N → f j = f' j) : Cv w W gr gs a b va vb N f' :=
  ⟨h.bel, h.row.congr fun j hj => by rw [e j hj], h.ba, h.bb, h.br, h.gr3, h.spr⟩
end
def ConvPost (w : World) (r : Spr) (e : Ending) (w' : World) : Prop :=
  ∃ v, e = .returned (sprV r v) ∧ Sl 1 elInt w' (fun b => w.heap.size ≤ b ∧ b < w'.heap.size) v r.ws ∧ Below w.heap.size w w'
theorem Cv.new1 {w W : World} {a b : Spr} {va vb : Value} {N : Nat} (bel : Below w.heap.size w W) (ba : Blk W w.heap.size 90 #[.int .i64 a.balls, va]) (bb : Blk W (w.heap.size + 1) 90 #[.int .i64 b.balls, vb]) (br : Blk W (w.heap.size + 2) 90 #[.int .i64 0, .slice none 0 0]) (hz : w.heap.size + 3 ≤ W.heap.size) :
    Cv w ((W.alloc (.cells (madeCells #[.int .i64 0] N) 2)).alloc (.cells #[.int .i64 (a.balls + b.balls), .slice (some ⟨W.heap.size, 0, none⟩) N N] 90)).drew W.heap.size (some (W.heap.size + 1)) a b va vb N (fun _ => 0) := by
  have hz1 : (W.alloc (.cells (madeCells #[.int .i64 0] N) 2)).heap.size = W.heap.size + 1 := by simp
  refine ⟨Below.drew (Below.alloc (Below.alloc bel (by omega) _) (by omega) _), ((World.rowIs_made W (.int .i64 0) N _).alloc _).drew, ((ba.alloc _).alloc _).drew, ((bb.alloc _).alloc _).drew, ((br.alloc _).alloc _).drew, hz, fun g hg => ?_⟩
  injection hg with hg
  subst hg
  refine ⟨?_, by omega, by omega⟩
  rw [← hz1]
  exact Blk.drew (Blk.new _ _ _)
theorem Cv.new2 {w W : World} {a b : Spr} {va vb : Value} {N : Nat} (bel : Below w.heap.size w W) (ba : Blk W w.heap.size 90 #[.int .i64 a.balls, va]) (bb : Blk W (w.heap.size + 1) 90 #[.int .i64 b.balls, vb]) (br : Blk W (w.heap.size + 2) 90 #[.int .i64 0, .slice none 0 0]) (hz : w.heap.size + 3 ≤ W.heap.size) :
    Cv w ((W.alloc (.cells #[.int .i64 (a.balls + b.balls), .slice (some ⟨W.heap.size + 1, 0, none⟩) N N] 90)).alloc (.cells (madeCells #[.int .i64 0] N) 2)).drew (W.heap.size + 1) (some W.heap.size) a b va vb N (fun _ => 0) := by
  have hz1 : (W.alloc (.cells #[.int .i64 (a.balls + b.balls), .slice (some ⟨W.heap.size + 1, 0, none⟩) N N] 90)).heap.size = W.heap.size + 1 := by simp
  refine ⟨Below.drew (Below.alloc (Below.alloc bel (by omega) _) (by omega) _), ?_, ((ba.alloc _).alloc _).drew, ((bb.alloc _).alloc _).drew, ((br.alloc _).alloc _).drew, by omega, fun g hg => ?_⟩
  · have := World.rowIs_made (W.alloc (.cells #[.int .i64 (a.balls + b.balls), .slice (some ⟨W.heap.size + 1, 0, none⟩) N N] 90)) (.int .i64 0) N 2
    rw [hz1] at this
    exact this.drew
  · injection hg with hg
    subst hg
    exact ⟨Blk.drew (Blk.alloc (Blk.new _ _ _) _), by omega, by omega⟩
theorem conv_step {a b : List Int} {n m : Nat} (ha : Fine a (unitV n)) (hb : Fine b (unitV m)) (h : n + m ≤ 12) (i j : Nat) : 0 ≤ partC a b i j (i + j) ∧ partC a b i j (i + j) + cf a i * cf b j ≤ 281474976710656 ∧ 0 ≤ cf a i * cf b j := by
  have h1 := partC_bound ha hb i j (i + j)
  have h2 := partC_bound ha hb i (j + 1) (i + j)
  rw [partC_hit] at h2
  rw [← unitV_add] at h1 h2
  have := unitV_le h
  have := Int.mul_nonneg (cf_pos ha.pos i) (cf_pos hb.pos j)
  omega
theorem ch_conv_ret {R' : Ending → World → Prop} {a : Act} {w : World} {x0 x1 : Value} {g : Nat} (h2 : a.tmps[4]? = some (.pointer (some ⟨g, 0, none⟩))) (hb : Blk w g 90 #[x0, x1])
    (hd : a.defers = []) (hR : R' (.returned (.agg #[x0, x1])) w) : bodyPost Tryz.prog Tryz.f101 R' .ret a w := by
  obtain ⟨r0, r1, _⟩ := hb.two
  refine bodyPost_ret (v := .agg #[x0, x1]) (by simp [results, Tryz.results101, go_sem, h2, r0, r1]) hd hR
set_option maxRecDepth 100000 in
set_option maxHeartbeats 1000000 in
theorem ch_convolve (n m : Nat) (aw bw : List Int) (va vb : Value) (w : World) (ha : OkP n aw) (hb : OkP m bw) (hnm : n + m ≤ 12) (h1 : Sl 1 elInt w (· < w.heap.size) va aw) (h2 : Sl 1 elInt w (· < w.heap.size) vb bw) :
    Calls Tryz.prog 101 #[sprV ⟨n, aw⟩ va, sprV ⟨m, bw⟩ vb] w (ConvPost w (convS ⟨n, aw⟩ ⟨m, bw⟩)) := by
  obtain ⟨A, ca, rfl, hca, hca2⟩ := h1.shape
  obtain ⟨B, cb, rfl, hcb, hcb2⟩ := h2.shape
  have hla := ha.len
  have hlb := hb.len
  have hn12 := ha.n12
  have hm12 := hb.n12
  have HA := Lib.hid h1
  have HBB := Lib.hid h2
  have HFA := Lib.hid ha.fine
  have HFB := Lib.hid hb.fine
  have HNM := Lib.hid hnm
  obtain ⟨la, hlae⟩ : ∃ la, la = aw.length := ⟨_, rfl⟩
  obtain ⟨lb, hlbe⟩ : ∃ lb, lb = bw.length := ⟨_, rfl⟩
  rw [← hlae] at HA hca hla
  rw [← hlbe] at HBB hcb hlb
  obtain ⟨hla1, hla2⟩ := hla
  obtain ⟨hlb1, hlb2⟩ := hlb
  have HLA := Lib.hid hlae
  have HLB := Lib.hid hlbe
  obtain ⟨N, hN⟩ : ∃ N, N = la + lb - 1 := ⟨_, rfl⟩
  have HN := Lib.hid hN
  have hN2 : (la : Int) + (lb : Int) - 1 = (N : Int) := by omega
  have hN3 : N + 1 = la + lb := by omega
  have hN4 : N ≤ 200 := by omega
  have hmk := fun W => make_ints N (by omega) W
  unfold sprV
  dsimp only
  rw [← hlae, ← hlbe]
  have hz1 : (w.alloc (.cells #[.int .i64 (n : Int), .slice A la ca] 90)).heap.size = w.heap.size + 1 := by simp
  have hz2 : ((w.alloc (.cells #[.int .i64 (n : Int), .slice A la ca] 90)).alloc (.cells #[.int .i64 (m : Int), .slice B lb cb] 90)).heap.size = w.heap.size + 2 := by simp
  obtain ⟨W3, hW3⟩ : ∃ W3, W3 = ((w.alloc (.cells #[.int .i64 (n : Int), .slice A la ca] 90)).alloc (.cells #[.int .i64 (m : Int), .slice B lb cb] 90)).alloc (.cells #[.int .i64 0, .slice none 0 0] 90) := ⟨_, rfl⟩
  have b1 : Blk W3 w.heap.size 90 #[.int .i64 (n : Int), .slice A la ca] := by rw [hW3]; exact ((Blk.new w _ _).alloc _).alloc _
  have b2 : Blk W3 (w.heap.size + 1) 90 #[.int .i64 (m : Int), .slice B lb cb] := by rw [hW3, ← hz1]; exact (Blk.new _ _ _).alloc _
  have b3 : Blk W3 (w.heap.size + 2) 90 #[.int .i64 0, .slice none 0 0] := by rw [hW3, ← hz2]; exact Blk.new _ _ _
  have bl : Below w.heap.size w W3 := by rw [hW3]; exact Below.alloc (Below.alloc (Below.alloc (Below.refl _ _) (Nat.le_refl _) _) (by omega) _) (by omega) _
  have hz3 : W3.heap.size = w.heap.size + 3 := by rw [hW3]; simp
  have HW3 := Lib.hid hW3
  have HB1 := Lib.hid b1
  have HB2 := Lib.hid b2
  have HB3 := Lib.hid b3
  have HBL := Lib.hid bl
  have HZ3 := Lib.hid hz3
  clear ha hb hnm h1 h2 hlae hlbe hN hz1 hz2 hW3 b1 b2 b3 bl hz3
  go_enter Tryz.func101, Tryz.ntmps101
  go_wp2
  rw [← HW3.out]
  obtain ⟨u0, u1, _⟩ := HB1.out.two
  obtain ⟨v0, v1, _⟩ := HB2.out.two
  have gl0 := HB1.out.lt
  have gl1 := HB2.out.lt
  have HC1 := Lib.hid (Cv.new1 (a := ⟨n, aw⟩) (b := ⟨m, bw⟩) (N := N) HBL.out HB1.out HB2.out HB3.out (by rw [HZ3.out]; omega))
  have HC2 := Lib.hid (Cv.new2 (a := ⟨n, aw⟩) (b := ⟨m, bw⟩) (N := N) HBL.out HB1.out HB2.out HB3.out (by rw [HZ3.out]; omega))
  go_cut [5] (fun s5 wx => ∃ gr gs, s5 = .pointer (some ⟨gs, 0, none⟩) ∧ Cv w wx gr (some gs) ⟨n, aw⟩ ⟨m, bw⟩ (.slice A la ca) (.slice B lb cb) N (accC aw bw 0))
  case first =>
    go_region
    · go_wp2
      go_meet
      exact ⟨_, _, rfl, HC1.out⟩
    · go_wp2
      go_meet
      exact ⟨_, _, rfl, HC2.out⟩
  case rest =>
    obtain ⟨gr, gs, rfl, hcut⟩ := hcut
    obtain ⟨_, u1, _⟩ := hcut.ba.two
    have gl0 := hcut.ba.lt
    have HCV := Lib.hid hcut
    clear hcut v0 v1 gl1 u0
    go_wp2
    go_loopw [28] (fun i wr => ∃ k : Nat, k ≤ la ∧ i = .int .i64 k ∧ Cv w wr gr (some gs) ⟨n, aw⟩ ⟨m, bw⟩ (.slice A la ca) (.slice B lb cb) N (accC aw bw k)) (fun i _ => la - (intOf i).toNat)
    case atStart => exact ⟨0, Nat.zero_le _, rfl, HCV.out⟩
    case round =>
      obtain ⟨i, hi, rfl, hcv⟩ := hrel
      have HC := Lib.hid hcv
      have hcv0 := hcv
      clear hcv
      by_cases hlt : i < la
      · obtain ⟨xb, xo, rfl, hxl, x0'⟩ := int_at HA.out (k := i) (by rw [← HLA.out]; exact hlt)
        have x0 := (hcv0.bel.cell (p := ⟨xb, xo + i, none⟩) hxl).trans x0'
        have hxcf : cf aw i = aw[i]'(by rw [← HLA.out]; exact hlt) := cf_lt _
        rw [← hxcf] at x0
        obtain ⟨_, p1, _⟩ := hcv0.bb.two
        have hpl := hcv0.bb.lt
        obtain ⟨x, hx⟩ : ∃ x, x = cf aw i := ⟨_, rfl⟩
        rw [← hx] at x0
        have HX := Lib.hid hx
        clear hcv0 hxcf x0' hx
        go_wp2
        obtain ⟨wo, rfl⟩ : ∃ wo : World, wo = wr := ⟨_, rfl⟩
        go_loopw [36] (fun jv wr => ∃ j : Nat, j ≤ lb ∧ jv = .int .i64 j ∧ Cv w wr gr (some gs) ⟨n, aw⟩ ⟨m, bw⟩ (.slice (some ⟨xb, xo, none⟩) la ca) (.slice B lb cb) N (partC aw bw i j)) (fun jv _ => lb - (intOf jv).toNat)
        case atStart => exact ⟨0, Nat.zero_le _, rfl, HC.out.congr fun j _ => (partC_zero _ _ _ _).symm⟩
        case round =>
          obtain ⟨j, hj, rfl, hcw⟩ := hrel
          have HW := Lib.hid hcw
          by_cases hjl : j < lb
          · obtain ⟨yb, yo, rfl, hyl, y0'⟩ := int_at HBB.out (k := j) (by rw [← HLB.out]; exact hjl)
            have y0 := (hcw.bel.cell (p := ⟨yb, yo + j, none⟩) hyl).trans y0'
            have hycf : cf bw j = bw[j]'(by rw [← HLB.out]; exact hjl) := cf_lt _
            rw [← hycf] at y0
            obtain ⟨t0, t1, t2⟩ := conv_step HFA.out HFB.out HNM.out i j
            have hN : i + j < N := by omega
            have q0 := hcw.row.cell hN
            have qf := hcw.row.frozen (i + j)
            have hql := hcw.row.lt
            obtain ⟨⟨_, sp1, _⟩, hs3, hsne⟩ := (⟨(hcw.spr gs rfl).1.two, (hcw.spr gs rfl).2⟩ : _ ∧ _ ∧ _)
            have hsl := (hcw.spr gs rfl).1.lt
            have hhit := partC_hit aw bw i j
            rw [← HX.out] at t1 t2 hhit
            have HMISS := Lib.hid fun k (hk : k ≠ i + j) => partC_miss aw bw i j k hk
            obtain ⟨y, hy⟩ : ∃ y, y = cf bw j := ⟨_, rfl⟩
            obtain ⟨q, hq⟩ : ∃ q, q = partC aw bw i j (i + j) := ⟨_, rfl⟩
            rw [← hy] at y0 t1 t2 hhit
            rw [← hq] at q0 t0 t1 hhit
            have e1 : (i : Int) + (j : Int) = ((i + j : Nat) : Int) := by push_cast; rfl
            have HHIT := Lib.hid hhit
            have hxy : x * y ≤ 281474976710656 := by omega
            clear hcw hycf y0' hy hq hhit e1
            go_wp2
            go_roundw
            case rel => exact ⟨j + 1, by omega, by go_num, HW.out.set (i + j) (q + x * y) fun k hk => by
              by_cases e : k = i + j
              · rw [if_pos e, e, HHIT.out]
              · rw [if_neg e, HMISS.out k e]⟩
            case measure => simp [intOf]; omega
          · obtain rfl : j = lb := by omega
            have HW2 := Lib.hid (HW.out.congr (f' := accC aw bw (i + 1)) fun k _ => by have := partC_end aw bw i k; rw [← HLB.out] at this; exact this)
            clear hcw
            go_wp2
            go_roundw
            case rel => exact ⟨i + 1, by omega, by go_num, HW2.out⟩
            case measure => simp [intOf]; omega
      · obtain rfl : i = la := by omega
        have hsl := rowI_sl hcv0.row (by simp [maxLen]; omega)
        have hfin : (List.range N).map (accC aw bw i) = convL aw bw := by unfold convL; rw [← HLA.out, ← HLB.out, HN.out]
        rw [hfin] at hsl
        obtain ⟨r0, r1, f0, f1⟩ := hcv0.br.two
        have hrl := hcv0.br.lt
        have hgrl := hcv0.row.lt
        have hg3 := hcv0.gr3
        have hbel := hcv0.bel
        have HBR := Lib.hid (blk_put2 hcv0.br (.int .i64 ((n : Int) + (m : Int))) (.slice (some ⟨gr, 0, none⟩) N N))
        have HSL := Lib.hid hsl
        have HEND := Lib.hid (spr_end (s := ⟨(n : Int) + (m : Int), convL aw bw⟩) (e := 0) hbel (R := w.heap.size + 2) (by omega) hrl hsl (fun x hx => by subst hx; exact ⟨by omega, hgrl, by omega⟩))
        obtain ⟨⟨sp0, sp1, _⟩, hs3, hsne⟩ := (⟨(hcv0.spr gs rfl).1.two, (hcv0.spr gs rfl).2⟩ : _ ∧ _ ∧ _)
        clear hcv0 hsl hfin hbel
        go_wp2
        refine ch_conv_ret rfl HBR.out rfl ?_
        obtain ⟨v, h1, h2, h3⟩ := HEND.out
        injection h1 with h1
        injection h1 with h1
        simp only [Array.mk.injEq, List.cons.injEq, and_true] at h1
        exact ⟨v, by rw [show sprV (convS ⟨(n : Int), aw⟩ ⟨(m : Int), bw⟩) v = _ from h1.symm], h2, h3⟩
end Go.Proofs.YtdnjcgokcjlkiaaGreatDoor
