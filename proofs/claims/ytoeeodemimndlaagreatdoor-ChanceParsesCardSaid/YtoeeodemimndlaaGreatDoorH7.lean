/- The contracts of both and of Convolve, of the program and of the reference. No conditions but that the spreads can be read. -/
import Derived.Test.YtoeeodemimndlaaGreatDoorH6
set_option linter.unusedSimpArgs false
set_option linter.unusedVariables false
namespace Go.Proofs.YtoeeodemimndlaaGreatDoor
open Go.RowKit

/-- Two boxed spreads, and the result's box, if there is one. -/
structure Th (w W : World) (a b : Spr) (va vb : Value) (r : Bool) : Prop where
  bel : Below w.heap.size w W
  ba : Blk W w.heap.size 26 #[.int .i64 a.balls, va]
  bb : Blk W (w.heap.size + 1) 26 #[.int .i64 b.balls, vb]
  br : r = true → Blk W (w.heap.size + 2) 26 #[.int .i64 0, .slice none 0 0]
theorem Th.below {w W W' : World} {a b : Spr} {va vb : Value} {r : Bool} (h : Th w W a b va vb r) (hb : Below W.heap.size W W') : Th w W' a b va vb r :=
  ⟨h.bel.trans (hb.mono h.bel.size), h.ba.below hb h.ba.lt, h.bb.below hb h.bb.lt, fun e => (h.br e).below hb (h.br e).lt⟩
theorem Th.new2 (w : World) (a b : Spr) (va vb : Value) : Th w ((w.alloc (.cells #[.int .i64 a.balls, va] 26)).alloc (.cells #[.int .i64 b.balls, vb] 26)) a b va vb false := by
  have hz1 : (w.alloc (.cells #[.int .i64 a.balls, va] 26)).heap.size = w.heap.size + 1 := by simp
  exact ⟨Below.alloc (Below.alloc (Below.refl _ _) (Nat.le_refl _) _) (by omega) _, (Blk.new w _ _).alloc _, by rw [← hz1]; exact Blk.new _ _ _, fun e => by cases e⟩
theorem Th.new3 (w : World) (a b : Spr) (va vb : Value) : Th w (((w.alloc (.cells #[.int .i64 a.balls, va] 26)).alloc (.cells #[.int .i64 b.balls, vb] 26)).alloc (.cells #[.int .i64 0, .slice none 0 0] 26)) a b va vb true := by
  have hz1 : (w.alloc (.cells #[.int .i64 a.balls, va] 26)).heap.size = w.heap.size + 1 := by simp
  have hz2 : ((w.alloc (.cells #[.int .i64 a.balls, va] 26)).alloc (.cells #[.int .i64 b.balls, vb] 26)).heap.size = w.heap.size + 2 := by simp
  exact ⟨Below.alloc (Below.alloc (Below.alloc (Below.refl _ _) (Nat.le_refl _) _) (by omega) _) (by omega) _, ((Blk.new w _ _).alloc _).alloc _, by rw [← hz1]; exact (Blk.new _ _ _).alloc _, fun _ => by rw [← hz2]; exact Blk.new _ _ _⟩
def bothS (a b : Spr) : Int := if checkP a ≠ 0 then checkP a else checkP b
theorem Cv.new0 {w W : World} {a b : Spr} {va vb : Value} {N : Nat} (h : Th w W a b va vb true) (hz : w.heap.size + 3 ≤ W.heap.size) :
    Cv w (W.alloc (.cells (madeCells #[.int .i64 0] N) 2)) W.heap.size none a b va vb N (fun _ => 0) :=
  ⟨Below.alloc h.bel h.bel.size _, World.rowIs_made W (.int .i64 0) N _, h.ba.alloc _, h.bb.alloc _, (h.br rfl).alloc _, hz, fun g hg => by cases hg⟩

set_option maxRecDepth 100000 in
set_option maxHeartbeats 1000000 in
theorem ch_both (a b : Spr) (va vb : Value) (w : World) (h1 : Sl 1 elInt w (· < w.heap.size) va a.ws) (h2 : Sl 1 elInt w (· < w.heap.size) vb b.ws) :
    Calls Tryz.prog 55 #[sprV a va, sprV b vb] w fun e w' => e = .returned (.int .i64 (bothS a b)) ∧ Below w.heap.size w w' := by
  obtain ⟨A, ca, rfl, hca, hca2⟩ := h1.shape
  obtain ⟨B, cb, rfl, hcb, hcb2⟩ := h2.shape
  obtain ⟨W0, hW0⟩ : ∃ W0, W0 = (w.alloc (.cells #[.int .i64 a.balls, .slice A a.ws.length ca] 26)).alloc (.cells #[.int .i64 b.balls, .slice B b.ws.length cb] 26) := ⟨_, rfl⟩
  have t0 : Th w W0 a b (.slice A a.ws.length ca) (.slice B b.ws.length cb) false := by rw [hW0]; exact Th.new2 _ _ _ _ _
  have kca : ∀ W, Th w W a b (.slice A a.ws.length ca) (.slice B b.ws.length cb) false → Calls Tryz.prog 25 #[.agg #[.int .i64 a.balls, .slice A a.ws.length ca]] W fun e w' => e = .returned (.int .i64 (checkP a)) ∧ Th w w' a b (.slice A a.ws.length ca) (.slice B b.ws.length cb) false := fun W hW => by
    refine (ch_CheckP a _ W (h1.keep elInt_good (Same.of_below hW.bel) fun b hb => Nat.lt_of_lt_of_le hb hW.bel.size)).mono ?_
    rintro e w' ⟨rfl, hb⟩
    exact ⟨rfl, hW.below hb⟩
  have kcb : ∀ W, Th w W a b (.slice A a.ws.length ca) (.slice B b.ws.length cb) false → Calls Tryz.prog 25 #[.agg #[.int .i64 b.balls, .slice B b.ws.length cb]] W fun e w' => e = .returned (.int .i64 (checkP b)) ∧ Th w w' a b (.slice A a.ws.length ca) (.slice B b.ws.length cb) false := fun W hW => by
    refine (ch_CheckP b _ W (h2.keep elInt_good (Same.of_below hW.bel) fun b hb => Nat.lt_of_lt_of_le hb hW.bel.size)).mono ?_
    rintro e w' ⟨rfl, hb⟩
    exact ⟨rfl, hW.below hb⟩
  obtain ⟨z, hz⟩ : ∃ z, z = bothS a b := ⟨_, rfl⟩
  rw [← hz]
  unfold bothS at hz
  unfold sprV
  obtain ⟨x, hx⟩ : ∃ x, x = checkP a := ⟨_, rfl⟩
  obtain ⟨y, hy⟩ : ∃ y, y = checkP b := ⟨_, rfl⟩
  rw [← hx] at hz kca
  rw [← hy] at hz kcb
  rw [hW0] at t0
  obtain ⟨⟨u0, u1, _⟩, ⟨v0, v1, _⟩⟩ := (⟨t0.ba.two, t0.bb.two⟩ : _ ∧ _)
  have T0 := Lib.hid t0
  have KCA := Lib.hid kca
  have KCB := Lib.hid kcb
  clear kca kcb t0 h1 h2 hx hy hW0
  by_cases h0 : x = 0
  · rw [if_neg (fun k => k h0)] at hz
    have g1 : (x != 0) = false := by rw [h0]; rfl
    have HZ := Lib.hid hz
    clear hz h0
    go_enter Tryz.func55, Tryz.ntmps55
    go_wp2_with (first
      | (go_at_call 25; ((with_reducible refine (KCA.out _ T0.out).mono ?_); rintro e w2 ⟨rfl, t2⟩; obtain ⟨⟨u0, u1, _⟩, ⟨v0, v1, _⟩⟩ := (⟨t2.ba.two, t2.bb.two⟩ : _ ∧ _); have T2 := Lib.hid t2; clear t2))
      | (go_at_call 25; refine (KCB.out _ T2.out).mono ?_; rintro e w3 ⟨rfl, t3⟩; have T3 := Lib.hid t3; clear t3))
    go_ret
    exact ⟨ret_i HZ.out.symm, T3.out.bel⟩
  · rw [if_pos h0] at hz
    have g1 : (x != 0) = true := by rw [bne_iff_ne]; exact h0
    have HZ := Lib.hid hz
    clear hz h0
    go_enter Tryz.func55, Tryz.ntmps55
    go_wp2_with (go_at_call 25; ((with_reducible refine (KCA.out _ T0.out).mono ?_); rintro e w2 ⟨rfl, t2⟩; have T2 := Lib.hid t2; clear t2))
    go_ret
    exact ⟨ret_i HZ.out.symm, T2.out.bel⟩

set_option maxRecDepth 100000 in
set_option maxHeartbeats 2000000 in
theorem ref_Convolve (a b : Spr) (va vb : Value) (w : World) (h1 : Sl 1 elInt w (· < w.heap.size) va a.ws) (h2 : Sl 1 elInt w (· < w.heap.size) vb b.ws) :
    Calls Tryz.prog 29 #[sprV a va, sprV b vb] w (SprPost w (convolveS a b)) := by
  obtain ⟨A, ca, rfl, hca, hca2⟩ := h1.shape
  obtain ⟨B, cb, rfl, hcb, hcb2⟩ := h2.shape
  obtain ⟨W0, hW0⟩ : ∃ W0, W0 = ((w.alloc (.cells #[.int .i64 a.balls, .slice A a.ws.length ca] 26)).alloc (.cells #[.int .i64 b.balls, .slice B b.ws.length cb] 26)).alloc (.cells #[.int .i64 0, .slice none 0 0] 26) := ⟨_, rfl⟩
  have t0 : Th w W0 a b (.slice A a.ws.length ca) (.slice B b.ws.length cb) true := by rw [hW0]; exact Th.new3 _ _ _ _ _
  have kca : ∀ W, Th w W a b (.slice A a.ws.length ca) (.slice B b.ws.length cb) true → Calls Tryz.prog 35 #[.agg #[.int .i64 a.balls, .slice A a.ws.length ca]] W fun e w' => e = .returned (.int .i64 (checkP a)) ∧ Th w w' a b (.slice A a.ws.length ca) (.slice B b.ws.length cb) true := fun W hW => by
    refine (ref_CheckP a _ W (h1.keep elInt_good (Same.of_below hW.bel) fun b hb => Nat.lt_of_lt_of_le hb hW.bel.size)).mono ?_
    rintro e w' ⟨rfl, hb⟩
    exact ⟨rfl, hW.below hb⟩
  have kcb : ∀ W, Th w W a b (.slice A a.ws.length ca) (.slice B b.ws.length cb) true → Calls Tryz.prog 35 #[.agg #[.int .i64 b.balls, .slice B b.ws.length cb]] W fun e w' => e = .returned (.int .i64 (checkP b)) ∧ Th w w' a b (.slice A a.ws.length ca) (.slice B b.ws.length cb) true := fun W hW => by
    refine (ref_CheckP b _ W (h2.keep elInt_good (Same.of_below hW.bel) fun b hb => Nat.lt_of_lt_of_le hb hW.bel.size)).mono ?_
    rintro e w' ⟨rfl, hb⟩
    exact ⟨rfl, hW.below hb⟩
  obtain ⟨z, hz⟩ : ∃ z, z = convolveS a b := ⟨_, rfl⟩
  rw [← hz]
  unfold convolveS at hz
  unfold sprV
  have H1 := Lib.hid h1
  have H2 := Lib.hid h2
  clear h1 h2
  by_cases h0 : checkP a = 0
  · rw [if_neg (fun k => k h0)] at hz
    rw [h0] at kca
    obtain ⟨n, hn, hoa⟩ := checkP_ok h0
    obtain ⟨ab, aw⟩ := a
    dsimp only at hn hoa hca
    subst hn
    by_cases h00 : checkP b = 0
    · rw [if_neg (fun k => k h00)] at hz
      rw [h00] at kcb
      obtain ⟨m, hm, hob⟩ := checkP_ok h00
      obtain ⟨bb, bw⟩ := b
      dsimp only at hm hob hcb
      subst hm
      dsimp only at hz kca kcb t0 hW0 ⊢
      have hla := hoa.len
      have hlb := hob.len
      have hn12 := hoa.n12
      have hm12 := hob.n12
      rw [hW0] at t0
      obtain ⟨⟨u0, u1, _⟩, ⟨v0, v1, _⟩, ⟨r0, r1, f0, f1⟩⟩ := (⟨t0.ba.two, t0.bb.two, (t0.br rfl).two⟩ : _ ∧ _ ∧ _)
      have T0 := Lib.hid t0
      have KCA := Lib.hid kca
      have KCB := Lib.hid kcb
      by_cases h12 : 12 < (n : Int) + (m : Int)
      · rw [if_pos h12] at hz
        have HZ := Lib.hid hz
        clear kca kcb t0 hW0 h0 h00 hoa hob hz hla hlb
        go_enter Tryz.func29, Tryz.ntmps29
        go_wp2_with (first
          | (go_at_call 35; ((with_reducible refine (KCA.out _ T0.out).mono ?_); rintro e w2 ⟨rfl, t2⟩; obtain ⟨⟨u0, u1, _⟩, ⟨v0, v1, _⟩, ⟨r0, r1, f0, f1⟩⟩ := (⟨t2.ba.two, t2.bb.two, (t2.br rfl).two⟩ : _ ∧ _ ∧ _); have T2 := Lib.hid t2; clear t2))
          | (go_at_call 35; refine (KCB.out _ T2.out).mono ?_; rintro e w3 ⟨rfl, t3⟩; obtain ⟨⟨u0, u1, _⟩, ⟨v0, v1, _⟩, ⟨r0, r1, f0, f1⟩⟩ := (⟨t3.ba.two, t3.bb.two, (t3.br rfl).two⟩ : _ ∧ _ ∧ _); have hz3 := (t3.br rfl).lt; have gl0 := t3.ba.lt; have gl1 := t3.bb.lt; have T3 := Lib.hid t3; clear t3))
        have HK3 := Lib.hid (blk_put2 (T3.out.br rfl) (.int .i64 0) (.slice none 0 0))
        have hend := spr_end (s := noSpr) (e := 9) (F := fun _ => False) T3.out.bel (R := w.heap.size + 2) (by omega) (T3.out.br rfl).lt (Sl.nil _ _) (fun _ h => h.elim)
        refine ref_conv_ret rfl rfl HK3.out rfl ?_
        rw [HZ.out]
        exact hend
      · rw [if_neg h12] at hz
        have HZ := Lib.hid (show z = (⟨(n : Int) + (m : Int), convL aw bw⟩, 0) from hz)
        obtain ⟨la, hlae⟩ : ∃ la, la = aw.length := ⟨_, rfl⟩
        obtain ⟨lb, hlbe⟩ : ∃ lb, lb = bw.length := ⟨_, rfl⟩
        have HFA := Lib.hid hoa.fine
        have HFB := Lib.hid hob.fine
        have HNM := Lib.hid (show n + m ≤ 12 by omega)
        dsimp only at H1 H2 KCA KCB T0 u0 u1 v0 v1
        rw [← hlae] at H1 hca hla KCA KCB T0 u1 ⊢
        rw [← hlbe] at H2 hcb hlb KCA KCB T0 v1 ⊢
        obtain ⟨hla1, hla2⟩ := hla
        obtain ⟨hlb1, hlb2⟩ := hlb
        have HLA := Lib.hid hlae
        have HLB := Lib.hid hlbe
        obtain ⟨N, hN⟩ : ∃ N, N = la + lb - 1 := ⟨_, rfl⟩
        have HN := Lib.hid hN
        have hN2 : (la : Int) + (lb : Int) - 1 = (N : Int) := by omega
        have hN3 : N + 1 = la + lb := by omega
        have hN4 : N ≤ 200 := by omega
        have hmk := fun W => make_ints N (by omega) W
        have HA := H1
        have HBB := H2
        have HL1 := Lib.hid hlae
        rw [← hlae, ← hlbe] at u0 v0 r0 r1 f0 f1
        clear kca kcb t0 hW0 h0 h00 hoa hob hz hlae hlbe hN
        go_enter Tryz.func29, Tryz.ntmps29
        go_wp2_with (first
          | (go_at_call 35; ((with_reducible refine (KCA.out _ T0.out).mono ?_); rintro e w2 ⟨rfl, t2⟩; obtain ⟨⟨u0, u1, _⟩, ⟨v0, v1, _⟩, ⟨r0, r1, f0, f1⟩⟩ := (⟨t2.ba.two, t2.bb.two, (t2.br rfl).two⟩ : _ ∧ _ ∧ _); have T2 := Lib.hid t2; clear t2))
          | (go_at_call 35; refine (KCB.out _ T2.out).mono ?_; rintro e w3 ⟨rfl, t3⟩; obtain ⟨⟨u0, u1, _⟩, ⟨v0, v1, _⟩, ⟨r0, r1, f0, f1⟩⟩ := (⟨t3.ba.two, t3.bb.two, (t3.br rfl).two⟩ : _ ∧ _ ∧ _); have hz3 := (t3.br rfl).lt; have gl0 := t3.ba.lt; have gl1 := t3.bb.lt; have T3 := Lib.hid t3; clear t3))
        have hcut := Cv.new0 (N := N) T3.out (by omega)
        obtain ⟨gr, hgr⟩ : ∃ gr, gr = w3.heap.size := ⟨_, rfl⟩
        rw [← hgr] at hcut ⊢
        obtain ⟨_, u1, _⟩ := hcut.ba.two
        have gl0 := hcut.ba.lt
        have HCV := Lib.hid hcut
        clear hcut hgr v0 v1 u0 r0 r1 f0 f1 hz3 gl1
        go_loopw [44] (fun i wr => ∃ k : Nat, k ≤ la ∧ i = .int .i64 k ∧ Cv w wr gr none ⟨n, aw⟩ ⟨m, bw⟩ (.slice A la ca) (.slice B lb cb) N (accC aw bw k)) (fun i _ => la - (intOf i).toNat)
        case atStart => exact ⟨0, Nat.zero_le _, rfl, HCV.out⟩
        case round =>
          obtain ⟨i, hi, rfl, hcv⟩ := hrel
          have HC := Lib.hid hcv
          have hcv0 := hcv
          clear hcv
          by_cases hlt : i < la
          · obtain ⟨xb, xo, rfl, hxl, x0'⟩ := int_at HA.out (k := i) (by rw [← HLA.out]; exact hlt)
            have x0 := (hcv0.bel.cell (p := ⟨xb, xo + i, none⟩) hxl).trans x0'
            have hxcf : cf aw i = aw[i]'(by rw [← HLA.out]; exact hlt) := cf_lt _
            rw [← hxcf] at x0
            obtain ⟨_, p1, _⟩ := hcv0.bb.two
            have hpl := hcv0.bb.lt
            obtain ⟨x, hx⟩ : ∃ x, x = cf aw i := ⟨_, rfl⟩
            rw [← hx] at x0
            have HX := Lib.hid hx
            clear hcv0 hxcf x0' hx
            go_wp2
            obtain ⟨wo, rfl⟩ : ∃ wo : World, wo = wr := ⟨_, rfl⟩
            go_loopw [52] (fun jv wr => ∃ j : Nat, j ≤ lb ∧ jv = .int .i64 j ∧ Cv w wr gr none ⟨n, aw⟩ ⟨m, bw⟩ (.slice (some ⟨xb, xo, none⟩) la ca) (.slice B lb cb) N (partC aw bw i j)) (fun jv _ => lb - (intOf jv).toNat)
            case atStart => exact ⟨0, Nat.zero_le _, rfl, HC.out.congr fun j _ => (partC_zero _ _ _ _).symm⟩
            case round =>
              obtain ⟨j, hj, rfl, hcw⟩ := hrel
              have HW := Lib.hid hcw
              by_cases hjl : j < lb
              · obtain ⟨yb, yo, rfl, hyl, y0'⟩ := int_at HBB.out (k := j) (by rw [← HLB.out]; exact hjl)
                have y0 := (hcw.bel.cell (p := ⟨yb, yo + j, none⟩) hyl).trans y0'
                have hycf : cf bw j = bw[j]'(by rw [← HLB.out]; exact hjl) := cf_lt _
                rw [← hycf] at y0
                obtain ⟨t0, t1, t2⟩ := conv_step HFA.out HFB.out HNM.out i j
                have hN : i + j < N := by omega
                have q0 := hcw.row.cell hN
                have qf := hcw.row.frozen (i + j)
                have hql := hcw.row.lt
                skip
                have hhit := partC_hit aw bw i j
                rw [← HX.out] at t1 t2 hhit
                have HMISS := Lib.hid fun k (hk : k ≠ i + j) => partC_miss aw bw i j k hk
                obtain ⟨y, hy⟩ : ∃ y, y = cf bw j := ⟨_, rfl⟩
                obtain ⟨q, hq⟩ : ∃ q, q = partC aw bw i j (i + j) := ⟨_, rfl⟩
                rw [← hy] at y0 t1 t2 hhit
                rw [← hq] at q0 t0 t1 hhit
                have e1 : (i : Int) + (j : Int) = ((i + j : Nat) : Int) := by push_cast; rfl
                have HHIT := Lib.hid hhit
                have hxy : x * y ≤ 281474976710656 := by omega
                clear hcw hycf y0' hy hq hhit e1
                go_wp2
                go_roundw
                case rel => exact ⟨j + 1, by omega, by go_num, HW.out.set (i + j) (q + x * y) fun k hk => by
                  by_cases e : k = i + j
                  · rw [if_pos e, e, HHIT.out]
                  · rw [if_neg e, HMISS.out k e]⟩
                case measure => simp [intOf]; omega
              · obtain rfl : j = lb := by omega
                have HW2 := Lib.hid (HW.out.congr (f' := accC aw bw (i + 1)) fun k _ => by have := partC_end aw bw i k; rw [← HLB.out] at this; exact this)
                clear hcw
                go_wp2
                go_roundw
                case rel => exact ⟨i + 1, by omega, by go_num, HW2.out⟩
                case measure => simp [intOf]; omega
          · obtain rfl : i = la := by omega
            have hsl := rowI_sl hcv0.row (by simp [maxLen]; omega)
            have hfin : (List.range N).map (accC aw bw i) = convL aw bw := by unfold convL; rw [← HLA.out, ← HLB.out, HN.out]
            rw [hfin] at hsl
            obtain ⟨r0, r1, f0, f1⟩ := hcv0.br.two
            have hrl := hcv0.br.lt
            have hgrl := hcv0.row.lt
            have hg3 := hcv0.gr3
            have hbel := hcv0.bel
            have HBR := Lib.hid (blk_put2 hcv0.br (.int .i64 ((n : Int) + (m : Int))) (.slice (some ⟨gr, 0, none⟩) N N))
            have HSL := Lib.hid hsl
            have HEND := Lib.hid (spr_end (s := ⟨(n : Int) + (m : Int), convL aw bw⟩) (e := 0) hbel (R := w.heap.size + 2) (by omega) hrl hsl (fun x hx => by subst hx; exact ⟨by omega, hgrl, by omega⟩))
            have w0 := hcv0.ba.two
            have w1 := hcv0.bb.two
            obtain ⟨a0, a1, _⟩ := w0
            obtain ⟨c0, c1, _⟩ := w1
            have al0 := hcv0.ba.lt
            have al1 := hcv0.bb.lt
            clear hcv0 hsl hfin hbel
            go_wp2
            refine ref_conv_ret rfl rfl HBR.out rfl ?_
            rw [HZ.out]
            exact HEND.out
    · rw [if_pos h00] at hz
      obtain ⟨y, hy⟩ : ∃ y, y = checkP b := ⟨_, rfl⟩
      rw [← hy] at kcb hz h00
      have g1 : (y != 0) = true := by rw [bne_iff_ne]; exact h00
      dsimp only at kca kcb t0 hW0 ⊢
      rw [hW0] at t0
      obtain ⟨⟨u0, u1, _⟩, ⟨v0, v1, _⟩, ⟨r0, r1, f0, f1⟩⟩ := (⟨t0.ba.two, t0.bb.two, (t0.br rfl).two⟩ : _ ∧ _ ∧ _)
      have T0 := Lib.hid t0
      have KCA := Lib.hid kca
      have KCB := Lib.hid kcb
      have HZ := Lib.hid hz
      clear kca kcb t0 hW0 h0 h00 hoa hz hy
      go_enter Tryz.func29, Tryz.ntmps29
      go_wp2_with (first
        | (go_at_call 35; ((with_reducible refine (KCA.out _ T0.out).mono ?_); rintro e w2 ⟨rfl, t2⟩; obtain ⟨⟨u0, u1, _⟩, ⟨v0, v1, _⟩, ⟨r0, r1, f0, f1⟩⟩ := (⟨t2.ba.two, t2.bb.two, (t2.br rfl).two⟩ : _ ∧ _ ∧ _); have T2 := Lib.hid t2; clear t2))
        | (go_at_call 35; refine (KCB.out _ T2.out).mono ?_; rintro e w3 ⟨rfl, t3⟩; obtain ⟨⟨u0, u1, _⟩, ⟨v0, v1, _⟩, ⟨r0, r1, f0, f1⟩⟩ := (⟨t3.ba.two, t3.bb.two, (t3.br rfl).two⟩ : _ ∧ _ ∧ _); have hz3 := (t3.br rfl).lt; have gl0 := t3.ba.lt; have gl1 := t3.bb.lt; have T3 := Lib.hid t3; clear t3))
      have HK3 := Lib.hid (blk_put2 (T3.out.br rfl) (.int .i64 0) (.slice none 0 0))
      have hend := spr_end (s := noSpr) (e := y) (F := fun _ => False) T3.out.bel (R := w.heap.size + 2) (by omega) (T3.out.br rfl).lt (Sl.nil _ _) (fun _ h => h.elim)
      refine ref_conv_ret rfl rfl HK3.out rfl ?_
      rw [HZ.out]
      exact hend
  · rw [if_pos h0] at hz
    obtain ⟨y, hy⟩ : ∃ y, y = checkP a := ⟨_, rfl⟩
    rw [← hy] at kca hz h0
    have g1 : (y != 0) = true := by rw [bne_iff_ne]; exact h0
    rw [hW0] at t0
    obtain ⟨⟨u0, u1, _⟩, ⟨v0, v1, _⟩, ⟨r0, r1, f0, f1⟩⟩ := (⟨t0.ba.two, t0.bb.two, (t0.br rfl).two⟩ : _ ∧ _ ∧ _)
    have T0 := Lib.hid t0
    have KCA := Lib.hid kca
    have HZ := Lib.hid hz
    clear kca kcb t0 hW0 h0 hz hy
    go_enter Tryz.func29, Tryz.ntmps29
    go_wp2_with (go_at_call 35; ((with_reducible refine (KCA.out _ T0.out).mono ?_); rintro e w2 ⟨rfl, t2⟩; obtain ⟨⟨u0, u1, _⟩, ⟨v0, v1, _⟩, ⟨r0, r1, f0, f1⟩⟩ := (⟨t2.ba.two, t2.bb.two, (t2.br rfl).two⟩ : _ ∧ _ ∧ _); have T2 := Lib.hid t2; clear t2))
    have HK3 := Lib.hid (blk_put2 (T2.out.br rfl) (.int .i64 0) (.slice none 0 0))
    have hend := spr_end (s := noSpr) (e := y) (F := fun _ => False) T2.out.bel (R := w.heap.size + 2) (by omega) (T2.out.br rfl).lt (Sl.nil _ _) (fun _ h => h.elim)
    refine ref_conv_ret rfl rfl HK3.out rfl ?_
    rw [HZ.out]
    exact hend

end Go.Proofs.YtoeeodemimndlaaGreatDoor
