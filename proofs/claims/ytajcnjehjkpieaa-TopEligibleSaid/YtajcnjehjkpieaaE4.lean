/- register.Check: its closure, slices.IndexFunc and ContainsFunc at it, the whole. -/
import Derived.Test.YtajcnjehjkpieaaE2
import Derived.Test.YtajcnjehjkpieaaE3
import Derived.Laws.EntriesVeiled
set_option linter.unusedSimpArgs false
set_option linter.unusedVariables false
namespace Go.Proofs.Ytajcnjehjkpieaa
open Go.RowKit

def ixF {α : Type} (q : α → Bool) : List α → Nat → Int
  | [], _ => -1
  | x :: l, k => if q x then (k : Int) else ixF q l (k + 1)
theorem ixF_any {α : Type} (q : α → Bool) : ∀ (l : List α) (k : Nat), decide (0 ≤ ixF q l k) = l.any q
  | [], k => by simp [ixF]
  | x :: l, k => by
    rw [ixF, List.any_cons]
    cases h : q x
    · rw [if_neg (by simp), ixF_any q l]; rfl
    · rw [if_pos rfl]; simp
def inW (d : Int) (x : Win) : Bool := decide (x.fr ≤ d) && decide (d ≤ x.til)
/-- The entry in its box. -/
structure TI (w W : World) (g : Nat) (x : Tra) : Prop where
  bel : Below w.heap.size w W
  blk : Blk W g 40 #[.string (S x.player), .string (S x.team), .int .i64 x.day]
theorem TI.step {w W W' : World} {g : Nat} {x : Tra} (h : TI w W g x) (hb : Below W.heap.size W W') : TI w W' g x := ⟨h.bel.trans (hb.mono h.bel.size), h.blk.below hb h.blk.lt⟩
theorem TI.cells {w W : World} {g : Nat} {x : Tra} (h : TI w W g x) : W.cell? ⟨g, 0, none⟩ = some (.string (S x.player)) ∧ W.cell? ⟨g, 1, none⟩ = some (.string (S x.team)) ∧ W.cell? ⟨g, 2, none⟩ = some (.int .i64 x.day) := ⟨h.blk.cell 0, h.blk.cell 1, h.blk.cell 2⟩
set_option maxRecDepth 100000 in
theorem reg_clo (f t d : Int) (u v : Value) (g : Nat) (w : World) (y2 : w.cell? ⟨g, 2, none⟩ = some (.int .i64 d)) (hg : g < w.heap.size) :
    Calls Try.prog 21 #[.agg #[.int .i64 f, .int .i64 t], .pointer (some ⟨g, 0, none⟩)] w fun e w' => e = .returned (.bool (inW d ⟨f, t⟩)) ∧ Below w.heap.size w w' := by
  have HB := Lib.hid (Below.alloc (Below.refl w.heap.size w) (Nat.le_refl _) (.cells #[.int .i64 f, .int .i64 t] 48))
  unfold inW
  dsimp only
  cases d1 : decide (f ≤ d)
  · go_enter Try.func21, Try.ntmps21
    go_wp2
    go_ret
    exact ⟨rfl, HB.out⟩
  · go_enter Try.func21, Try.ntmps21
    go_wp2
    go_ret
    exact ⟨rfl, HB.out⟩
set_option maxRecDepth 100000 in
set_option maxHeartbeats 2000000 in
theorem reg_IndexFunc (l : List Win) (lv : Value) (x : Tra) (g : Nat) (w0 w : World) (hl : Sl 2 elWin w (· < w.heap.size) lv l) (h : TI w0 w g x) :
    Calls Try.prog 33 #[lv, .func (.func 21) #[] #[.pointer (some ⟨g, 0, none⟩)]] w fun e w' => e = .returned (.int .i64 (ixF (inW x.day) l 0)) ∧ Below w.heap.size w w' := by
  obtain ⟨z, hz⟩ : ∃ z, z = ixF (inW x.day) l 0 := ⟨_, rfl⟩
  rw [← hz]
  obtain ⟨A, c, rfl, hc, hc2⟩ := hl.shape
  have HZ : Hid (z = ixF (inW x.day) (l.drop 0) 0) := hz
  have HL := Lib.hid hl
  have H := Lib.hid h
  have HB := Lib.hid (Below.refl w.heap.size w)
  clear hz hl h
  go_enter Try.func33, Try.ntmps33
  go_wp2
  go_loopw [8] (fun i wr => ∃ k : Nat, k ≤ l.length ∧ i = .int .i64 k ∧ Hid (Below w.heap.size w wr) ∧ Hid (z = ixF (inW x.day) (l.drop k) k)) (fun i _ => l.length - (intOf i).toNat)
  case atStart => exact ⟨0, Nat.zero_le _, rfl, HB, HZ⟩
  case round =>
    obtain ⟨k, hk, rfl, hb, hzz⟩ := hrel
    clear HB HZ
    have HX := Lib.hid (H.out.step hb.out)
    by_cases hlt : k < l.length
    · obtain ⟨b0, o, rfl, hbl, t0, t1⟩ := win_at HL.out hlt
      have y0 := (hb.out.cell (p := ⟨b0, o + k * 2, none⟩) hbl).trans t0
      have y1 := (hb.out.cell (p := ⟨b0, o + k * 2 + 1, none⟩) hbl).trans t1
      have hz2 := hzz.out
      rw [drop_get hlt, ixF, wi_at hlt] at hz2
      obtain ⟨⟨f, t⟩, hp⟩ : ∃ p, p = wi l k := ⟨_, rfl⟩
      rw [← hp] at y0 y1 hz2
      dsimp only at y0 y1 hz2
      have kc := reg_clo f t x.day (.int .i64 0) (.int .i64 0) g wr HX.out.cells.2.2 HX.out.blk.lt
      clear hzz hp t0 t1
      cases d1 : inW x.day ⟨f, t⟩
      · rw [d1] at kc hz2
        rw [if_neg (by simp)] at hz2
        have KC := Lib.hid kc
        have HZZ := Lib.hid hz2
        clear hz2 kc d1
        go_wp2_with (go_at_call 21; refine KC.out.mono ?_; rintro e w2 ⟨rfl, hb2⟩; have HB2 := Lib.hid (hb.out.trans (hb2.mono hb.out.size)); clear hb2)
        go_roundw
        case rel => exact ⟨k + 1, by omega, by go_num, HB2, HZZ⟩
        case measure => simp [intOf]; omega
      · rw [d1] at kc hz2
        rw [if_pos rfl] at hz2
        have KC := Lib.hid kc
        have HZZ := Lib.hid hz2
        clear hz2 kc d1
        go_wp2_with (go_at_call 21; refine KC.out.mono ?_; rintro e w2 ⟨rfl, hb2⟩; have HB2 := Lib.hid (hb.out.trans (hb2.mono hb.out.size)); clear hb2)
        go_ret
        exact ⟨ret_i HZZ.out.symm, HB2.out⟩
    · obtain rfl : k = l.length := by omega
      have hz2 := hzz.out
      rw [List.drop_of_length_le (Nat.le_refl _), ixF] at hz2
      have HZZ := Lib.hid hz2
      clear hzz hz2
      go_wp2
      go_ret
      exact ⟨ret_i HZZ.out.symm, hb.out⟩
set_option maxRecDepth 100000 in
theorem reg_ContainsFunc (l : List Win) (lv : Value) (x : Tra) (g : Nat) (w0 w : World) (hl : Sl 2 elWin w (· < w.heap.size) lv l) (h : TI w0 w g x) :
    Calls Try.prog 20 #[lv, .func (.func 21) #[] #[.pointer (some ⟨g, 0, none⟩)]] w fun e w' => e = .returned (.bool (openW l x.day)) ∧ Below w.heap.size w w' := by
  have hm := ixF_any (inW x.day) l 0
  have hi := reg_IndexFunc l lv x g w0 w hl h
  obtain ⟨i, hie⟩ : ∃ i, i = ixF (inW x.day) l 0 := ⟨_, rfl⟩
  rw [← hie] at hm hi
  have HM := Lib.hid (hm.trans (show l.any (inW x.day) = openW l x.day from rfl))
  have HI := Lib.hid hi
  obtain ⟨A, c, rfl, hc, hc2⟩ := hl.shape
  clear hm hi hie hl h
  go_enter Try.func20, Try.ntmps20
  go_wp2_with (go_at_call 33; refine HI.out.mono ?_; rintro e w2 ⟨rfl, hb2⟩)
  go_ret
  exact ⟨ret_b HM.out, hb2⟩
set_option maxRecDepth 100000 in
set_option maxHeartbeats 8000000 in
theorem reg_Check (ws : List Win) (l : List Tra) (wv v : Value) (w : World) (hw : Sl 2 elWin w (· < w.heap.size) wv ws) (h : Sl 3 elTra w (· < w.heap.size) v l) :
    Calls Try.prog 5 #[wv, v] w fun e w' => e = .returned (.tuple #[.int .i64 (regS ws l).1, .int .i64 (regS ws l).2]) ∧ Below w.heap.size w w' := by
  obtain ⟨B, cw, rfl, hcw, hcw2⟩ := hw.shape
  obtain ⟨A, c, rfl, hc, hc2⟩ := h.shape
  have kw := reg_checkWindows ws _ w hw
  obtain ⟨z, hz⟩ : ∃ z, z = regS ws l := ⟨_, rfl⟩
  rw [← hz]
  unfold regS at hz
  have HW := Lib.hid hw
  have H := Lib.hid h
  clear hw h
  have toks : True := trivial
  by_cases h0 : winS ws = 0
  case neg =>
    rw [if_pos h0] at hz
    have e0 : (winS ws != 0) = true := by simp [h0]
    obtain ⟨u, hu⟩ : ∃ u, u = winS ws := ⟨_, rfl⟩
    rw [← hu] at hz kw e0
    have KW := Lib.hid kw
    have HZ := Lib.hid hz
    clear h0 hz kw hu
    go_enter Try.func5, Try.ntmps5
    go_wp2_with (go_at_call 15; refine KW.out.mono ?_; rintro e w2 ⟨rfl, hb⟩; have HB := Lib.hid hb; clear hb)
    go_ret2
    exact ⟨by rw [HZ.out]; rfl, HB.out⟩
  rw [if_neg (by simp [h0])] at hz
  rw [h0] at kw
  have KW := Lib.hid kw
  clear h0 kw
  by_cases hbig : 2000 < l.length
  · rw [if_pos hbig] at hz
    have HZ := Lib.hid hz
    have g1 : (2000 : Int) < (l.length : Int) := by omega
    clear hz
    go_enter Try.func5, Try.ntmps5
    go_wp2_with (go_at_call 15; refine KW.out.mono ?_; rintro e w2 ⟨rfl, hb⟩; have HB := Lib.hid hb; clear hb)
    go_ret2
    exact ⟨by rw [HZ.out]; rfl, HB.out⟩
  rw [if_neg hbig] at hz
  have g1 : ¬ (2000 : Int) < (l.length : Int) := by omega
  have HZ : Hid (z = fstI (traE ws l) (l.length - 0) 0) := Lib.hid hz
  clear hz
  go_enter Try.func5, Try.ntmps5
  go_wp2_with (go_at_call 15; refine KW.out.mono ?_; rintro e w2 ⟨rfl, hb⟩; have HB := Lib.hid hb; clear hb)
  go_loopw [21] (fun i wr => ∃ k : Nat, k ≤ l.length ∧ i = .int .i64 k ∧ Hid (Below w.heap.size w wr) ∧ Hid (z = fstI (traE ws l) (l.length - k) k)) (fun i _ => l.length - (intOf i).toNat)
  case atStart => exact ⟨0, Nat.zero_le _, rfl, HB, HZ⟩
  case round =>
    obtain ⟨k, hk, rfl, hb, hzz⟩ := hrel
    clear HB HZ KW
    by_cases hlt : k < l.length
    case neg =>
      obtain rfl : k = l.length := by omega
      have hz2 := hzz.out
      rw [Nat.sub_self, fstI] at hz2
      have HZZ := Lib.hid hz2
      clear hz2 hzz
      go_wp2
      go_ret2
      exact ⟨by rw [HZZ.out]; rfl, hb.out⟩
    obtain ⟨b, o, rfl, hbl, t0, t1, t2, pl, tl⟩ := tra_at H.out hlt
    have x0 := (hb.out.cell (p := ⟨b, o + k * 3, none⟩) hbl).trans t0
    have x1 := (hb.out.cell (p := ⟨b, o + k * 3 + 1, none⟩) hbl).trans t1
    have x2 := (hb.out.cell (p := ⟨b, o + k * 3 + 2, none⟩) hbl).trans t2
    have hbw : b < wr.heap.size := Nat.lt_of_lt_of_le hbl hb.out.size
    have hpre : 0 < k → ∀ W, Below w.heap.size w W → W.cell? ⟨b, o + (k - 1) * 3, none⟩ = some (.string (S (tr l (k - 1)).player)) ∧ W.cell? ⟨b, o + (k - 1) * 3 + 1, none⟩ = some (.string (S (tr l (k - 1)).team)) ∧ W.cell? ⟨b, o + (k - 1) * 3 + 2, none⟩ = some (.int .i64 (tr l (k - 1)).day) := fun h0 W hW => by
      obtain ⟨b', o', e, _, s0, s1, s2, _⟩ := tra_at H.out (k := k - 1) (by omega)
      injection e with e; injection e with e1 e2; subst e1 e2
      exact ⟨(hW.cell (p := ⟨b, o + (k - 1) * 3, none⟩) hbl).trans s0, (hW.cell (p := ⟨b, o + (k - 1) * 3 + 1, none⟩) hbl).trans s1, (hW.cell (p := ⟨b, o + (k - 1) * 3 + 2, none⟩) hbl).trans s2⟩
    have ke : traE ws l k = traE ws l k := rfl
    conv at ke => rhs; unfold traE
    have kb := fun W (hW : Below w.heap.size w W) => reg_teamBefore l _ k hlt W (H.out.keep elTra_good (Same.of_below hW) fun _ h => Nat.lt_of_lt_of_le h hW.size)
    have kn1 := fun W => text_Name (S (tr l k).player) W (by rw [S_size]; exact pl)
    have kn2 := fun W => text_Name (S (tr l k).team) W (by rw [S_size]; exact tl)
    rw [S_data] at kn1 kn2
    have kd := fun W => reg_isDay (tr l k).day W
    have ko := fun W => reg_order (tr l (k - 1)) (tr l k) W
    have kc := fun W (hI : TI w W wr.heap.size (tr l k)) => reg_ContainsFunc ws _ (tr l k) wr.heap.size w W (HW.out.keep elWin_good (Same.of_below hI.bel) fun _ h => Nat.lt_of_lt_of_le h hI.bel.size) hI
    have hti : TI w (wr.alloc (.cells #[.string (S (tr l k).player), .string (S (tr l k).team), .int .i64 (tr l k).day] 40)) wr.heap.size (tr l k) := ⟨Below.alloc hb.out hb.out.size _, Blk.new wr _ _⟩
    have ez : ∀ e : Int, e ≠ 0 → traE ws l k = e → z = ((k : Int), e) := fun e he h => hzz.out.trans (fstI_err hlt h he)
    have en : traE ws l k = 0 → z = fstI (traE ws l) (l.length - (k + 1)) (k + 1) := fun h => hzz.out.trans (fstI_next hlt h)
    obtain ⟨tb, htb⟩ : ∃ t, t = befT l (tr l k).player k := ⟨_, rfl⟩
    obtain ⟨od, hod⟩ : ∃ t, t = ordT (tr l (k - 1)) (tr l k) := ⟨_, rfl⟩
    obtain ⟨ow, how⟩ : ∃ t, t = openW ws (tr l k).day := ⟨_, rfl⟩
    rw [← htb] at ke kb
    rw [← hod] at ke ko
    rw [← how] at ke kc
    obtain ⟨⟨p, t, d⟩, hx⟩ : ∃ x, x = tr l k := ⟨_, rfl⟩
    obtain ⟨⟨pp, pt, pd⟩, hy⟩ : ∃ x, x = tr l (k - 1) := ⟨_, rfl⟩
    rw [← hx] at x0 x1 x2 ke kn1 kn2 kd ko kc hti
    rw [← hy] at hpre ko
    obtain ⟨te, hte⟩ : ∃ e, e = traE ws l k := ⟨_, rfl⟩
    rw [← hte] at ke ez en
    dsimp only at x0 x1 x2 ke kn1 kn2 kd ko hti hpre
    obtain ⟨n1, hn1⟩ : ∃ e, e = nameS p := ⟨_, rfl⟩
    obtain ⟨n2, hn2⟩ : ∃ e, e = nameS t := ⟨_, rfl⟩
    obtain ⟨dd, hdd⟩ : ∃ e, e = isDayB d := ⟨_, rfl⟩
    rw [← hn1] at ke kn1
    rw [← hn2] at ke kn2
    rw [← hdd] at ke kd
    have ht : (t != []) = !(t == []) := rfl
    have htb2 : (tb != []) = !(tb == []) := rfl
    rw [ht, htb2] at ke
    have KN1 := Lib.hid kn1
    have KN2 := Lib.hid kn2
    have KD := Lib.hid kd
    have KO := Lib.hid ko
    have KB := Lib.hid kb
    have KC := Lib.hid kc
    have HTI := Lib.hid hti
    clear kn1 kn2 kd ko kb kc hti t0 t1 t2 pl tl htb hod how hx hy hte hn1 hn2 hdd ht htb2 hzz
    have tok0 : True := trivial
    cases n1
    · have HZZ := Lib.hid (ez 5 (by decide) (by rw [ke]; rfl))
      clear ke ez en hpre
      go_wp2_with (first
        | (clear tok0; go_at_call 16; refine (KN1.out _).mono ?_; rintro e w2 ⟨rfl, hb2⟩; have hi := HTI.out.step hb2; obtain ⟨y0, y1, y2⟩ := hi.cells; have HTI2 := Lib.hid hi; clear hi hb2; have HTI3 := HTI2; have tok2 : True := trivial))
      go_ret2
      exact ⟨by rw [HZZ.out]; rfl, HTI2.out.bel⟩
    cases t1 : (t == [])
    · cases n2
      · rw [t1] at ke
        have HZZ := Lib.hid (ez 5 (by decide) (by rw [ke]; rfl))
        clear ke ez en hpre
        go_wp2_with (first
          | (clear tok0; go_at_call 16; refine (KN1.out _).mono ?_; rintro e w2 ⟨rfl, hb2⟩; have hi := HTI.out.step hb2; obtain ⟨y0, y1, y2⟩ := hi.cells; have HTI2 := Lib.hid hi; clear hi hb2; have tok1 : True := trivial)
          | (clear tok1; go_at_call 16; refine (KN2.out _).mono ?_; rintro e w3 ⟨rfl, hb2⟩; clear y0 y1 y2; have hi := HTI2.out.step hb2; obtain ⟨y0, y1, y2⟩ := hi.cells; have HTI3 := Lib.hid hi; clear hi hb2; have tok2 : True := trivial))
        go_ret2
        exact ⟨by rw [HZZ.out]; rfl, HTI3.out.bel⟩
      rw [t1] at ke
      cases dd
      · have HZZ := Lib.hid (ez 2 (by decide) (by rw [ke]; rfl))
        clear ke ez en hpre
        go_wp2_with (first
          | (clear tok0; go_at_call 16; refine (KN1.out _).mono ?_; rintro e w2 ⟨rfl, hb2⟩; have hi := HTI.out.step hb2; obtain ⟨y0, y1, y2⟩ := hi.cells; have HTI2 := Lib.hid hi; clear hi hb2; have tok1 : True := trivial)
          | (clear tok1; go_at_call 16; refine (KN2.out _).mono ?_; rintro e w3 ⟨rfl, hb2⟩; clear y0 y1 y2; have hi := HTI2.out.step hb2; obtain ⟨y0, y1, y2⟩ := hi.cells; have HTI3 := Lib.hid hi; clear hi hb2; have tok2 : True := trivial)
          | (clear tok2; go_at_call 17; refine (KD.out _).mono ?_; rintro e w4 ⟨rfl, rfl⟩; have tok3 : True := trivial))
        go_ret2
        exact ⟨by rw [HZZ.out]; rfl, HTI3.out.bel⟩
      rcases Nat.eq_zero_or_pos k with hk0 | hk0
      · rw [decide_eq_false (show ¬ 0 < k by omega), Bool.false_and] at ke
        have g2 : decide (0 < k) = false := decide_eq_false (by omega)
        clear hk0
        cases c1 : (t == tb)
        · cases c2 : (tb == [])
          · cases ow
            · have HZZ := Lib.hid (ez 15 (by decide) (by rw [ke, c1, c2]; rfl))
              clear ke ez en hpre
              go_wp2_with (first
                | (clear tok0; go_at_call 16; refine (KN1.out _).mono ?_; rintro e w2 ⟨rfl, hb2⟩; have hi := HTI.out.step hb2; obtain ⟨y0, y1, y2⟩ := hi.cells; have HTI2 := Lib.hid hi; clear hi hb2; have tok1 : True := trivial)
                | (clear tok1; go_at_call 16; refine (KN2.out _).mono ?_; rintro e w3 ⟨rfl, hb2⟩; clear y0 y1 y2; have hi := HTI2.out.step hb2; obtain ⟨y0, y1, y2⟩ := hi.cells; have HTI3 := Lib.hid hi; clear hi hb2; have tok2 : True := trivial)
                | (clear tok2; go_at_call 17; refine (KD.out _).mono ?_; rintro e w4 ⟨rfl, rfl⟩; have tok3 : True := trivial))
              have HTI3d := Lib.hid (fun nq => HTI3.out.step (Below.drewN_ (Below.refl _ _) nq))
              go_quiet (fail)
              have hi := HTI3d.out nq
              clear y0 y1 y2
              obtain ⟨y0, y1, y2⟩ := hi.cells
              have HTI4 := Lib.hid hi
              clear hi
              go_wp2_with (first
                | (clear tok3; go_at_call 19; refine (KB.out _ HTI4.out.bel).mono ?_; rintro e w6 ⟨rfl, hb2⟩; clear y0 y1 y2; have hi := HTI4.out.step hb2; obtain ⟨y0, y1, y2⟩ := hi.cells; have HTI5 := Lib.hid hi; clear hi hb2; have tok4 : True := trivial)
                | (clear tok4; go_at_call 20; refine (KC.out _ HTI5.out).mono ?_; rintro e w7 ⟨rfl, hb2⟩; clear y0 y1 y2; have hi := HTI5.out.step hb2; obtain ⟨y0, y1, y2⟩ := hi.cells; have HTI6 := Lib.hid hi; clear hi hb2; have tok5 : True := trivial))
              go_ret2
              exact ⟨by rw [HZZ.out]; rfl, HTI6.out.bel⟩
            · have HZZ := Lib.hid (en (by rw [ke, c1, c2]; rfl))
              clear ke ez en hpre
              go_wp2_with (first
                | (clear tok0; go_at_call 16; refine (KN1.out _).mono ?_; rintro e w2 ⟨rfl, hb2⟩; have hi := HTI.out.step hb2; obtain ⟨y0, y1, y2⟩ := hi.cells; have HTI2 := Lib.hid hi; clear hi hb2; have tok1 : True := trivial)
                | (clear tok1; go_at_call 16; refine (KN2.out _).mono ?_; rintro e w3 ⟨rfl, hb2⟩; clear y0 y1 y2; have hi := HTI2.out.step hb2; obtain ⟨y0, y1, y2⟩ := hi.cells; have HTI3 := Lib.hid hi; clear hi hb2; have tok2 : True := trivial)
                | (clear tok2; go_at_call 17; refine (KD.out _).mono ?_; rintro e w4 ⟨rfl, rfl⟩; have tok3 : True := trivial))
              have HTI3d := Lib.hid (fun nq => HTI3.out.step (Below.drewN_ (Below.refl _ _) nq))
              go_quiet (fail)
              have hi := HTI3d.out nq
              clear y0 y1 y2
              obtain ⟨y0, y1, y2⟩ := hi.cells
              have HTI4 := Lib.hid hi
              clear hi
              go_wp2_with (first
                | (clear tok3; go_at_call 19; refine (KB.out _ HTI4.out.bel).mono ?_; rintro e w6 ⟨rfl, hb2⟩; clear y0 y1 y2; have hi := HTI4.out.step hb2; obtain ⟨y0, y1, y2⟩ := hi.cells; have HTI5 := Lib.hid hi; clear hi hb2; have tok4 : True := trivial)
                | (clear tok4; go_at_call 20; refine (KC.out _ HTI5.out).mono ?_; rintro e w7 ⟨rfl, hb2⟩; clear y0 y1 y2; have hi := HTI5.out.step hb2; obtain ⟨y0, y1, y2⟩ := hi.cells; have HTI6 := Lib.hid hi; clear hi hb2; have tok5 : True := trivial))
              go_roundw
              case rel => exact ⟨k + 1, by omega, by go_num, Lib.hid (HTI6.out.bel), HZZ⟩
              case measure => simp [intOf]; omega
          · have HZZ := Lib.hid (en (by rw [ke, c1, c2]; rfl))
            clear ke ez en hpre
            go_wp2_with (first
              | (clear tok0; go_at_call 16; refine (KN1.out _).mono ?_; rintro e w2 ⟨rfl, hb2⟩; have hi := HTI.out.step hb2; obtain ⟨y0, y1, y2⟩ := hi.cells; have HTI2 := Lib.hid hi; clear hi hb2; have tok1 : True := trivial)
              | (clear tok1; go_at_call 16; refine (KN2.out _).mono ?_; rintro e w3 ⟨rfl, hb2⟩; clear y0 y1 y2; have hi := HTI2.out.step hb2; obtain ⟨y0, y1, y2⟩ := hi.cells; have HTI3 := Lib.hid hi; clear hi hb2; have tok2 : True := trivial)
              | (clear tok2; go_at_call 17; refine (KD.out _).mono ?_; rintro e w4 ⟨rfl, rfl⟩; have tok3 : True := trivial))
            have HTI3d := Lib.hid (fun nq => HTI3.out.step (Below.drewN_ (Below.refl _ _) nq))
            go_quiet (fail)
            have hi := HTI3d.out nq
            clear y0 y1 y2
            obtain ⟨y0, y1, y2⟩ := hi.cells
            have HTI4 := Lib.hid hi
            clear hi
            go_wp2_with (first
              | (clear tok3; go_at_call 19; refine (KB.out _ HTI4.out.bel).mono ?_; rintro e w6 ⟨rfl, hb2⟩; clear y0 y1 y2; have hi := HTI4.out.step hb2; obtain ⟨y0, y1, y2⟩ := hi.cells; have HTI5 := Lib.hid hi; clear hi hb2; have tok4 : True := trivial)
              | (clear tok4; go_at_call 20; refine (KC.out _ HTI5.out).mono ?_; rintro e w7 ⟨rfl, hb2⟩; clear y0 y1 y2; have hi := HTI5.out.step hb2; obtain ⟨y0, y1, y2⟩ := hi.cells; have HTI6 := Lib.hid hi; clear hi hb2; have tok5 : True := trivial))
            go_roundw
            case rel => exact ⟨k + 1, by omega, by go_num, Lib.hid (HTI6.out.bel), HZZ⟩
            case measure => simp [intOf]; omega
        · have HZZ := Lib.hid (ez 1 (by decide) (by rw [ke, c1]; rfl))
          clear ke ez en hpre
          go_wp2_with (first
            | (clear tok0; go_at_call 16; refine (KN1.out _).mono ?_; rintro e w2 ⟨rfl, hb2⟩; have hi := HTI.out.step hb2; obtain ⟨y0, y1, y2⟩ := hi.cells; have HTI2 := Lib.hid hi; clear hi hb2; have tok1 : True := trivial)
            | (clear tok1; go_at_call 16; refine (KN2.out _).mono ?_; rintro e w3 ⟨rfl, hb2⟩; clear y0 y1 y2; have hi := HTI2.out.step hb2; obtain ⟨y0, y1, y2⟩ := hi.cells; have HTI3 := Lib.hid hi; clear hi hb2; have tok2 : True := trivial)
            | (clear tok2; go_at_call 17; refine (KD.out _).mono ?_; rintro e w4 ⟨rfl, rfl⟩; have tok3 : True := trivial))
          have HTI3d := Lib.hid (fun nq => HTI3.out.step (Below.drewN_ (Below.refl _ _) nq))
          go_quiet (fail)
          have hi := HTI3d.out nq
          clear y0 y1 y2
          obtain ⟨y0, y1, y2⟩ := hi.cells
          have HTI4 := Lib.hid hi
          clear hi
          go_wp2_with (first
            | (clear tok3; go_at_call 19; refine (KB.out _ HTI4.out.bel).mono ?_; rintro e w6 ⟨rfl, hb2⟩; clear y0 y1 y2; have hi := HTI4.out.step hb2; obtain ⟨y0, y1, y2⟩ := hi.cells; have HTI5 := Lib.hid hi; clear hi hb2; have tok4 : True := trivial)
            | (clear tok4; go_at_call 20; refine (KC.out _ HTI5.out).mono ?_; rintro e w7 ⟨rfl, hb2⟩; clear y0 y1 y2; have hi := HTI5.out.step hb2; obtain ⟨y0, y1, y2⟩ := hi.cells; have HTI6 := Lib.hid hi; clear hi hb2; have tok5 : True := trivial))
          go_ret2
          exact ⟨by rw [HZZ.out]; rfl, HTI6.out.bel⟩
      · rw [decide_eq_true hk0, Bool.true_and] at ke
        have g2 : (0 : Int) < (k : Int) := by omega
        have g3 : IntKind.i64.wrap ((k : Int) - 1) = ((k - 1 : Nat) : Int) := by rw [show ((k - 1 : Nat) : Int) = (k : Int) - 1 by omega]; exact IntWalk.i64_in _ (by omega)
        have g4 : ((k - 1 : Nat) : Int) < (l.length : Int) := by omega
        have g5 : k - 1 < l.length := by omega
        have HPRE := Lib.hid (hpre hk0)
        cases od1 : decide (0 ≤ od)
        · rw [od1] at ke
          cases c1 : (t == tb)
          · cases c2 : (tb == [])
            · cases ow
              · have HZZ := Lib.hid (ez 15 (by decide) (by rw [ke, c1, c2]; rfl))
                clear ke ez en hpre
                go_wp2_with (first
                  | (clear tok0; go_at_call 16; refine (KN1.out _).mono ?_; rintro e w2 ⟨rfl, hb2⟩; have hi := HTI.out.step hb2; obtain ⟨y0, y1, y2⟩ := hi.cells; have HTI2 := Lib.hid hi; clear hi hb2; have tok1 : True := trivial)
                  | (clear tok1; go_at_call 16; refine (KN2.out _).mono ?_; rintro e w3 ⟨rfl, hb2⟩; clear y0 y1 y2; have hi := HTI2.out.step hb2; obtain ⟨y0, y1, y2⟩ := hi.cells; have HTI3 := Lib.hid hi; clear hi hb2; have tok2 : True := trivial)
                  | (clear tok2; go_at_call 17; refine (KD.out _).mono ?_; rintro e w4 ⟨rfl, rfl⟩; have tok3 : True := trivial))
                have hi := HTI3.out.step (Below.drew (Below.refl _ _))
                clear y0 y1 y2
                obtain ⟨y0, y1, y2⟩ := hi.cells
                obtain ⟨z0, z1, z2⟩ := HPRE.out _ hi.bel
                have HTI3d := Lib.hid hi
                clear hi
                go_region_held3 (fun w' => w'.cell? ⟨wr.heap.size, 0, none⟩ = some (.string (S p)) ∧ w'.cell? ⟨wr.heap.size, 1, none⟩ = some (.string (S t)) ∧ w'.cell? ⟨wr.heap.size, 2, none⟩ = some (.int .i64 d) ∧ w'.cell? ⟨b, o + (k - 1) * 3, none⟩ = some (.string (S pp)) ∧ w'.cell? ⟨b, o + (k - 1) * 3 + 1, none⟩ = some (.string (S pt)) ∧ w'.cell? ⟨b, o + (k - 1) * 3 + 2, none⟩ = some (.int .i64 pd)) (first | exact ⟨y0, y1, y2, z0, z1, z2⟩ | go_keep) ((go_at_call 18; refine (KO.out _).mono ?_; rintro e w5 ⟨rfl, hb2⟩; clear y0 y1 y2 z0 z1 z2; have hi := HTI3d.out.step hb2; obtain ⟨y0, y1, y2⟩ := hi.cells; obtain ⟨z0, z1, z2⟩ := HPRE.out _ hi.bel; have HTI4 := Lib.hid hi; clear hi hb2))
                go_wp2_with (first
                  | (clear tok3; go_at_call 19; refine (KB.out _ HTI4.out.bel).mono ?_; rintro e w6 ⟨rfl, hb2⟩; clear y0 y1 y2; have hi := HTI4.out.step hb2; obtain ⟨y0, y1, y2⟩ := hi.cells; have HTI5 := Lib.hid hi; clear hi hb2; have tok4 : True := trivial)
                  | (clear tok4; go_at_call 20; refine (KC.out _ HTI5.out).mono ?_; rintro e w7 ⟨rfl, hb2⟩; clear y0 y1 y2; have hi := HTI5.out.step hb2; obtain ⟨y0, y1, y2⟩ := hi.cells; have HTI6 := Lib.hid hi; clear hi hb2; have tok5 : True := trivial))
                go_ret2
                exact ⟨by rw [HZZ.out]; rfl, HTI6.out.bel⟩
              · have HZZ := Lib.hid (en (by rw [ke, c1, c2]; rfl))
                clear ke ez en hpre
                go_wp2_with (first
                  | (clear tok0; go_at_call 16; refine (KN1.out _).mono ?_; rintro e w2 ⟨rfl, hb2⟩; have hi := HTI.out.step hb2; obtain ⟨y0, y1, y2⟩ := hi.cells; have HTI2 := Lib.hid hi; clear hi hb2; have tok1 : True := trivial)
                  | (clear tok1; go_at_call 16; refine (KN2.out _).mono ?_; rintro e w3 ⟨rfl, hb2⟩; clear y0 y1 y2; have hi := HTI2.out.step hb2; obtain ⟨y0, y1, y2⟩ := hi.cells; have HTI3 := Lib.hid hi; clear hi hb2; have tok2 : True := trivial)
                  | (clear tok2; go_at_call 17; refine (KD.out _).mono ?_; rintro e w4 ⟨rfl, rfl⟩; have tok3 : True := trivial))
                have hi := HTI3.out.step (Below.drew (Below.refl _ _))
                clear y0 y1 y2
                obtain ⟨y0, y1, y2⟩ := hi.cells
                obtain ⟨z0, z1, z2⟩ := HPRE.out _ hi.bel
                have HTI3d := Lib.hid hi
                clear hi
                go_region_held3 (fun w' => w'.cell? ⟨wr.heap.size, 0, none⟩ = some (.string (S p)) ∧ w'.cell? ⟨wr.heap.size, 1, none⟩ = some (.string (S t)) ∧ w'.cell? ⟨wr.heap.size, 2, none⟩ = some (.int .i64 d) ∧ w'.cell? ⟨b, o + (k - 1) * 3, none⟩ = some (.string (S pp)) ∧ w'.cell? ⟨b, o + (k - 1) * 3 + 1, none⟩ = some (.string (S pt)) ∧ w'.cell? ⟨b, o + (k - 1) * 3 + 2, none⟩ = some (.int .i64 pd)) (first | exact ⟨y0, y1, y2, z0, z1, z2⟩ | go_keep) ((go_at_call 18; refine (KO.out _).mono ?_; rintro e w5 ⟨rfl, hb2⟩; clear y0 y1 y2 z0 z1 z2; have hi := HTI3d.out.step hb2; obtain ⟨y0, y1, y2⟩ := hi.cells; obtain ⟨z0, z1, z2⟩ := HPRE.out _ hi.bel; have HTI4 := Lib.hid hi; clear hi hb2))
                go_wp2_with (first
                  | (clear tok3; go_at_call 19; refine (KB.out _ HTI4.out.bel).mono ?_; rintro e w6 ⟨rfl, hb2⟩; clear y0 y1 y2; have hi := HTI4.out.step hb2; obtain ⟨y0, y1, y2⟩ := hi.cells; have HTI5 := Lib.hid hi; clear hi hb2; have tok4 : True := trivial)
                  | (clear tok4; go_at_call 20; refine (KC.out _ HTI5.out).mono ?_; rintro e w7 ⟨rfl, hb2⟩; clear y0 y1 y2; have hi := HTI5.out.step hb2; obtain ⟨y0, y1, y2⟩ := hi.cells; have HTI6 := Lib.hid hi; clear hi hb2; have tok5 : True := trivial))
                go_roundw
                case rel => exact ⟨k + 1, by omega, by go_num, Lib.hid (HTI6.out.bel), HZZ⟩
                case measure => simp [intOf]; omega
            · have HZZ := Lib.hid (en (by rw [ke, c1, c2]; rfl))
              clear ke ez en hpre
              go_wp2_with (first
                | (clear tok0; go_at_call 16; refine (KN1.out _).mono ?_; rintro e w2 ⟨rfl, hb2⟩; have hi := HTI.out.step hb2; obtain ⟨y0, y1, y2⟩ := hi.cells; have HTI2 := Lib.hid hi; clear hi hb2; have tok1 : True := trivial)
                | (clear tok1; go_at_call 16; refine (KN2.out _).mono ?_; rintro e w3 ⟨rfl, hb2⟩; clear y0 y1 y2; have hi := HTI2.out.step hb2; obtain ⟨y0, y1, y2⟩ := hi.cells; have HTI3 := Lib.hid hi; clear hi hb2; have tok2 : True := trivial)
                | (clear tok2; go_at_call 17; refine (KD.out _).mono ?_; rintro e w4 ⟨rfl, rfl⟩; have tok3 : True := trivial))
              have hi := HTI3.out.step (Below.drew (Below.refl _ _))
              clear y0 y1 y2
              obtain ⟨y0, y1, y2⟩ := hi.cells
              obtain ⟨z0, z1, z2⟩ := HPRE.out _ hi.bel
              have HTI3d := Lib.hid hi
              clear hi
              go_region_held3 (fun w' => w'.cell? ⟨wr.heap.size, 0, none⟩ = some (.string (S p)) ∧ w'.cell? ⟨wr.heap.size, 1, none⟩ = some (.string (S t)) ∧ w'.cell? ⟨wr.heap.size, 2, none⟩ = some (.int .i64 d) ∧ w'.cell? ⟨b, o + (k - 1) * 3, none⟩ = some (.string (S pp)) ∧ w'.cell? ⟨b, o + (k - 1) * 3 + 1, none⟩ = some (.string (S pt)) ∧ w'.cell? ⟨b, o + (k - 1) * 3 + 2, none⟩ = some (.int .i64 pd)) (first | exact ⟨y0, y1, y2, z0, z1, z2⟩ | go_keep) ((go_at_call 18; refine (KO.out _).mono ?_; rintro e w5 ⟨rfl, hb2⟩; clear y0 y1 y2 z0 z1 z2; have hi := HTI3d.out.step hb2; obtain ⟨y0, y1, y2⟩ := hi.cells; obtain ⟨z0, z1, z2⟩ := HPRE.out _ hi.bel; have HTI4 := Lib.hid hi; clear hi hb2))
              go_wp2_with (first
                | (clear tok3; go_at_call 19; refine (KB.out _ HTI4.out.bel).mono ?_; rintro e w6 ⟨rfl, hb2⟩; clear y0 y1 y2; have hi := HTI4.out.step hb2; obtain ⟨y0, y1, y2⟩ := hi.cells; have HTI5 := Lib.hid hi; clear hi hb2; have tok4 : True := trivial)
                | (clear tok4; go_at_call 20; refine (KC.out _ HTI5.out).mono ?_; rintro e w7 ⟨rfl, hb2⟩; clear y0 y1 y2; have hi := HTI5.out.step hb2; obtain ⟨y0, y1, y2⟩ := hi.cells; have HTI6 := Lib.hid hi; clear hi hb2; have tok5 : True := trivial))
              go_roundw
              case rel => exact ⟨k + 1, by omega, by go_num, Lib.hid (HTI6.out.bel), HZZ⟩
              case measure => simp [intOf]; omega
          · have HZZ := Lib.hid (ez 1 (by decide) (by rw [ke, c1]; rfl))
            clear ke ez en hpre
            go_wp2_with (first
              | (clear tok0; go_at_call 16; refine (KN1.out _).mono ?_; rintro e w2 ⟨rfl, hb2⟩; have hi := HTI.out.step hb2; obtain ⟨y0, y1, y2⟩ := hi.cells; have HTI2 := Lib.hid hi; clear hi hb2; have tok1 : True := trivial)
              | (clear tok1; go_at_call 16; refine (KN2.out _).mono ?_; rintro e w3 ⟨rfl, hb2⟩; clear y0 y1 y2; have hi := HTI2.out.step hb2; obtain ⟨y0, y1, y2⟩ := hi.cells; have HTI3 := Lib.hid hi; clear hi hb2; have tok2 : True := trivial)
              | (clear tok2; go_at_call 17; refine (KD.out _).mono ?_; rintro e w4 ⟨rfl, rfl⟩; have tok3 : True := trivial))
            have hi := HTI3.out.step (Below.drew (Below.refl _ _))
            clear y0 y1 y2
            obtain ⟨y0, y1, y2⟩ := hi.cells
            obtain ⟨z0, z1, z2⟩ := HPRE.out _ hi.bel
            have HTI3d := Lib.hid hi
            clear hi
            go_region_held3 (fun w' => w'.cell? ⟨wr.heap.size, 0, none⟩ = some (.string (S p)) ∧ w'.cell? ⟨wr.heap.size, 1, none⟩ = some (.string (S t)) ∧ w'.cell? ⟨wr.heap.size, 2, none⟩ = some (.int .i64 d) ∧ w'.cell? ⟨b, o + (k - 1) * 3, none⟩ = some (.string (S pp)) ∧ w'.cell? ⟨b, o + (k - 1) * 3 + 1, none⟩ = some (.string (S pt)) ∧ w'.cell? ⟨b, o + (k - 1) * 3 + 2, none⟩ = some (.int .i64 pd)) (first | exact ⟨y0, y1, y2, z0, z1, z2⟩ | go_keep) ((go_at_call 18; refine (KO.out _).mono ?_; rintro e w5 ⟨rfl, hb2⟩; clear y0 y1 y2 z0 z1 z2; have hi := HTI3d.out.step hb2; obtain ⟨y0, y1, y2⟩ := hi.cells; obtain ⟨z0, z1, z2⟩ := HPRE.out _ hi.bel; have HTI4 := Lib.hid hi; clear hi hb2))
            go_wp2_with (first
              | (clear tok3; go_at_call 19; refine (KB.out _ HTI4.out.bel).mono ?_; rintro e w6 ⟨rfl, hb2⟩; clear y0 y1 y2; have hi := HTI4.out.step hb2; obtain ⟨y0, y1, y2⟩ := hi.cells; have HTI5 := Lib.hid hi; clear hi hb2; have tok4 : True := trivial)
              | (clear tok4; go_at_call 20; refine (KC.out _ HTI5.out).mono ?_; rintro e w7 ⟨rfl, hb2⟩; clear y0 y1 y2; have hi := HTI5.out.step hb2; obtain ⟨y0, y1, y2⟩ := hi.cells; have HTI6 := Lib.hid hi; clear hi hb2; have tok5 : True := trivial))
            go_ret2
            exact ⟨by rw [HZZ.out]; rfl, HTI6.out.bel⟩
        · rw [od1] at ke
          have HZZ := Lib.hid (ez 8 (by decide) (by rw [ke]; rfl))
          clear ke ez en hpre
          go_wp2_with (first
            | (clear tok0; go_at_call 16; refine (KN1.out _).mono ?_; rintro e w2 ⟨rfl, hb2⟩; have hi := HTI.out.step hb2; obtain ⟨y0, y1, y2⟩ := hi.cells; have HTI2 := Lib.hid hi; clear hi hb2; have tok1 : True := trivial)
            | (clear tok1; go_at_call 16; refine (KN2.out _).mono ?_; rintro e w3 ⟨rfl, hb2⟩; clear y0 y1 y2; have hi := HTI2.out.step hb2; obtain ⟨y0, y1, y2⟩ := hi.cells; have HTI3 := Lib.hid hi; clear hi hb2; have tok2 : True := trivial)
            | (clear tok2; go_at_call 17; refine (KD.out _).mono ?_; rintro e w4 ⟨rfl, rfl⟩; have tok3 : True := trivial))
          have hi := HTI3.out.step (Below.drew (Below.refl _ _))
          clear y0 y1 y2
          obtain ⟨y0, y1, y2⟩ := hi.cells
          obtain ⟨z0, z1, z2⟩ := HPRE.out _ hi.bel
          have HTI3d := Lib.hid hi
          clear hi
          go_region_held3 (fun w' => w'.cell? ⟨wr.heap.size, 0, none⟩ = some (.string (S p)) ∧ w'.cell? ⟨wr.heap.size, 1, none⟩ = some (.string (S t)) ∧ w'.cell? ⟨wr.heap.size, 2, none⟩ = some (.int .i64 d) ∧ w'.cell? ⟨b, o + (k - 1) * 3, none⟩ = some (.string (S pp)) ∧ w'.cell? ⟨b, o + (k - 1) * 3 + 1, none⟩ = some (.string (S pt)) ∧ w'.cell? ⟨b, o + (k - 1) * 3 + 2, none⟩ = some (.int .i64 pd)) (first | exact ⟨y0, y1, y2, z0, z1, z2⟩ | go_keep) ((go_at_call 18; refine (KO.out _).mono ?_; rintro e w5 ⟨rfl, hb2⟩; clear y0 y1 y2 z0 z1 z2; have hi := HTI3d.out.step hb2; obtain ⟨y0, y1, y2⟩ := hi.cells; obtain ⟨z0, z1, z2⟩ := HPRE.out _ hi.bel; have HTI4 := Lib.hid hi; clear hi hb2))
          go_wp2
          go_ret2
          exact ⟨by rw [HZZ.out]; rfl, HTI4.out.bel⟩
    · rw [t1] at ke
      cases dd
      · have HZZ := Lib.hid (ez 2 (by decide) (by rw [ke]; rfl))
        clear ke ez en hpre
        go_wp2_with (first
          | (clear tok0; go_at_call 16; refine (KN1.out _).mono ?_; rintro e w2 ⟨rfl, hb2⟩; have hi := HTI.out.step hb2; obtain ⟨y0, y1, y2⟩ := hi.cells; have HTI2 := Lib.hid hi; clear hi hb2; have HTI3 := HTI2; have tok2 : True := trivial)
          | (clear tok2; go_at_call 17; refine (KD.out _).mono ?_; rintro e w4 ⟨rfl, rfl⟩; have tok3 : True := trivial))
        go_ret2
        exact ⟨by rw [HZZ.out]; rfl, HTI3.out.bel⟩
      rcases Nat.eq_zero_or_pos k with hk0 | hk0
      · rw [decide_eq_false (show ¬ 0 < k by omega), Bool.false_and] at ke
        have g2 : decide (0 < k) = false := decide_eq_false (by omega)
        clear hk0
        cases c1 : (t == tb)
        · have HZZ := Lib.hid (en (by rw [ke, c1]; rfl))
          clear ke ez en hpre
          go_wp2_with (first
            | (clear tok0; go_at_call 16; refine (KN1.out _).mono ?_; rintro e w2 ⟨rfl, hb2⟩; have hi := HTI.out.step hb2; obtain ⟨y0, y1, y2⟩ := hi.cells; have HTI2 := Lib.hid hi; clear hi hb2; have HTI3 := HTI2; have tok2 : True := trivial)
            | (clear tok2; go_at_call 17; refine (KD.out _).mono ?_; rintro e w4 ⟨rfl, rfl⟩; have tok3 : True := trivial))
          have HTI3d := Lib.hid (fun nq => HTI3.out.step (Below.drewN_ (Below.refl _ _) nq))
          go_quiet (fail)
          have hi := HTI3d.out nq
          clear y0 y1 y2
          obtain ⟨y0, y1, y2⟩ := hi.cells
          have HTI4 := Lib.hid hi
          clear hi
          go_wp2_with (first
            | (clear tok3; go_at_call 19; refine (KB.out _ HTI4.out.bel).mono ?_; rintro e w6 ⟨rfl, hb2⟩; clear y0 y1 y2; have hi := HTI4.out.step hb2; obtain ⟨y0, y1, y2⟩ := hi.cells; have HTI5 := Lib.hid hi; clear hi hb2; have tok4 : True := trivial)
            | (clear tok4; go_at_call 20; refine (KC.out _ HTI5.out).mono ?_; rintro e w7 ⟨rfl, hb2⟩; clear y0 y1 y2; have hi := HTI5.out.step hb2; obtain ⟨y0, y1, y2⟩ := hi.cells; have HTI6 := Lib.hid hi; clear hi hb2; have tok5 : True := trivial))
          go_roundw
          case rel => exact ⟨k + 1, by omega, by go_num, Lib.hid (HTI6.out.bel), HZZ⟩
          case measure => simp [intOf]; omega
        · have HZZ := Lib.hid (ez 1 (by decide) (by rw [ke, c1]; rfl))
          clear ke ez en hpre
          go_wp2_with (first
            | (clear tok0; go_at_call 16; refine (KN1.out _).mono ?_; rintro e w2 ⟨rfl, hb2⟩; have hi := HTI.out.step hb2; obtain ⟨y0, y1, y2⟩ := hi.cells; have HTI2 := Lib.hid hi; clear hi hb2; have HTI3 := HTI2; have tok2 : True := trivial)
            | (clear tok2; go_at_call 17; refine (KD.out _).mono ?_; rintro e w4 ⟨rfl, rfl⟩; have tok3 : True := trivial))
          have HTI3d := Lib.hid (fun nq => HTI3.out.step (Below.drewN_ (Below.refl _ _) nq))
          go_quiet (fail)
          have hi := HTI3d.out nq
          clear y0 y1 y2
          obtain ⟨y0, y1, y2⟩ := hi.cells
          have HTI4 := Lib.hid hi
          clear hi
          go_wp2_with (first
            | (clear tok3; go_at_call 19; refine (KB.out _ HTI4.out.bel).mono ?_; rintro e w6 ⟨rfl, hb2⟩; clear y0 y1 y2; have hi := HTI4.out.step hb2; obtain ⟨y0, y1, y2⟩ := hi.cells; have HTI5 := Lib.hid hi; clear hi hb2; have tok4 : True := trivial)
            | (clear tok4; go_at_call 20; refine (KC.out _ HTI5.out).mono ?_; rintro e w7 ⟨rfl, hb2⟩; clear y0 y1 y2; have hi := HTI5.out.step hb2; obtain ⟨y0, y1, y2⟩ := hi.cells; have HTI6 := Lib.hid hi; clear hi hb2; have tok5 : True := trivial))
          go_ret2
          exact ⟨by rw [HZZ.out]; rfl, HTI6.out.bel⟩
      · rw [decide_eq_true hk0, Bool.true_and] at ke
        have g2 : (0 : Int) < (k : Int) := by omega
        have g3 : IntKind.i64.wrap ((k : Int) - 1) = ((k - 1 : Nat) : Int) := by rw [show ((k - 1 : Nat) : Int) = (k : Int) - 1 by omega]; exact IntWalk.i64_in _ (by omega)
        have g4 : ((k - 1 : Nat) : Int) < (l.length : Int) := by omega
        have g5 : k - 1 < l.length := by omega
        have HPRE := Lib.hid (hpre hk0)
        cases od1 : decide (0 ≤ od)
        · rw [od1] at ke
          cases c1 : (t == tb)
          · have HZZ := Lib.hid (en (by rw [ke, c1]; rfl))
            clear ke ez en hpre
            go_wp2_with (first
              | (clear tok0; go_at_call 16; refine (KN1.out _).mono ?_; rintro e w2 ⟨rfl, hb2⟩; have hi := HTI.out.step hb2; obtain ⟨y0, y1, y2⟩ := hi.cells; have HTI2 := Lib.hid hi; clear hi hb2; have HTI3 := HTI2; have tok2 : True := trivial)
              | (clear tok2; go_at_call 17; refine (KD.out _).mono ?_; rintro e w4 ⟨rfl, rfl⟩; have tok3 : True := trivial))
            have hi := HTI3.out.step (Below.drew (Below.refl _ _))
            clear y0 y1 y2
            obtain ⟨y0, y1, y2⟩ := hi.cells
            obtain ⟨z0, z1, z2⟩ := HPRE.out _ hi.bel
            have HTI3d := Lib.hid hi
            clear hi
            go_region_held3 (fun w' => w'.cell? ⟨wr.heap.size, 0, none⟩ = some (.string (S p)) ∧ w'.cell? ⟨wr.heap.size, 1, none⟩ = some (.string (S t)) ∧ w'.cell? ⟨wr.heap.size, 2, none⟩ = some (.int .i64 d) ∧ w'.cell? ⟨b, o + (k - 1) * 3, none⟩ = some (.string (S pp)) ∧ w'.cell? ⟨b, o + (k - 1) * 3 + 1, none⟩ = some (.string (S pt)) ∧ w'.cell? ⟨b, o + (k - 1) * 3 + 2, none⟩ = some (.int .i64 pd)) (first | exact ⟨y0, y1, y2, z0, z1, z2⟩ | go_keep) ((go_at_call 18; refine (KO.out _).mono ?_; rintro e w5 ⟨rfl, hb2⟩; clear y0 y1 y2 z0 z1 z2; have hi := HTI3d.out.step hb2; obtain ⟨y0, y1, y2⟩ := hi.cells; obtain ⟨z0, z1, z2⟩ := HPRE.out _ hi.bel; have HTI4 := Lib.hid hi; clear hi hb2))
            go_wp2_with (first
              | (clear tok3; go_at_call 19; refine (KB.out _ HTI4.out.bel).mono ?_; rintro e w6 ⟨rfl, hb2⟩; clear y0 y1 y2; have hi := HTI4.out.step hb2; obtain ⟨y0, y1, y2⟩ := hi.cells; have HTI5 := Lib.hid hi; clear hi hb2; have tok4 : True := trivial)
              | (clear tok4; go_at_call 20; refine (KC.out _ HTI5.out).mono ?_; rintro e w7 ⟨rfl, hb2⟩; clear y0 y1 y2; have hi := HTI5.out.step hb2; obtain ⟨y0, y1, y2⟩ := hi.cells; have HTI6 := Lib.hid hi; clear hi hb2; have tok5 : True := trivial))
            go_roundw
            case rel => exact ⟨k + 1, by omega, by go_num, Lib.hid (HTI6.out.bel), HZZ⟩
            case measure => simp [intOf]; omega
          · have HZZ := Lib.hid (ez 1 (by decide) (by rw [ke, c1]; rfl))
            clear ke ez en hpre
            go_wp2_with (first
              | (clear tok0; go_at_call 16; refine (KN1.out _).mono ?_; rintro e w2 ⟨rfl, hb2⟩; have hi := HTI.out.step hb2; obtain ⟨y0, y1, y2⟩ := hi.cells; have HTI2 := Lib.hid hi; clear hi hb2; have HTI3 := HTI2; have tok2 : True := trivial)
              | (clear tok2; go_at_call 17; refine (KD.out _).mono ?_; rintro e w4 ⟨rfl, rfl⟩; have tok3 : True := trivial))
            have hi := HTI3.out.step (Below.drew (Below.refl _ _))
            clear y0 y1 y2
            obtain ⟨y0, y1, y2⟩ := hi.cells
            obtain ⟨z0, z1, z2⟩ := HPRE.out _ hi.bel
            have HTI3d := Lib.hid hi
            clear hi
            go_region_held3 (fun w' => w'.cell? ⟨wr.heap.size, 0, none⟩ = some (.string (S p)) ∧ w'.cell? ⟨wr.heap.size, 1, none⟩ = some (.string (S t)) ∧ w'.cell? ⟨wr.heap.size, 2, none⟩ = some (.int .i64 d) ∧ w'.cell? ⟨b, o + (k - 1) * 3, none⟩ = some (.string (S pp)) ∧ w'.cell? ⟨b, o + (k - 1) * 3 + 1, none⟩ = some (.string (S pt)) ∧ w'.cell? ⟨b, o + (k - 1) * 3 + 2, none⟩ = some (.int .i64 pd)) (first | exact ⟨y0, y1, y2, z0, z1, z2⟩ | go_keep) ((go_at_call 18; refine (KO.out _).mono ?_; rintro e w5 ⟨rfl, hb2⟩; clear y0 y1 y2 z0 z1 z2; have hi := HTI3d.out.step hb2; obtain ⟨y0, y1, y2⟩ := hi.cells; obtain ⟨z0, z1, z2⟩ := HPRE.out _ hi.bel; have HTI4 := Lib.hid hi; clear hi hb2))
            go_wp2_with (first
              | (clear tok3; go_at_call 19; refine (KB.out _ HTI4.out.bel).mono ?_; rintro e w6 ⟨rfl, hb2⟩; clear y0 y1 y2; have hi := HTI4.out.step hb2; obtain ⟨y0, y1, y2⟩ := hi.cells; have HTI5 := Lib.hid hi; clear hi hb2; have tok4 : True := trivial)
              | (clear tok4; go_at_call 20; refine (KC.out _ HTI5.out).mono ?_; rintro e w7 ⟨rfl, hb2⟩; clear y0 y1 y2; have hi := HTI5.out.step hb2; obtain ⟨y0, y1, y2⟩ := hi.cells; have HTI6 := Lib.hid hi; clear hi hb2; have tok5 : True := trivial))
            go_ret2
            exact ⟨by rw [HZZ.out]; rfl, HTI6.out.bel⟩
        · rw [od1] at ke
          have HZZ := Lib.hid (ez 8 (by decide) (by rw [ke]; rfl))
          clear ke ez en hpre
          go_wp2_with (first
            | (clear tok0; go_at_call 16; refine (KN1.out _).mono ?_; rintro e w2 ⟨rfl, hb2⟩; have hi := HTI.out.step hb2; obtain ⟨y0, y1, y2⟩ := hi.cells; have HTI2 := Lib.hid hi; clear hi hb2; have HTI3 := HTI2; have tok2 : True := trivial)
            | (clear tok2; go_at_call 17; refine (KD.out _).mono ?_; rintro e w4 ⟨rfl, rfl⟩; have tok3 : True := trivial))
          have hi := HTI3.out.step (Below.drew (Below.refl _ _))
          clear y0 y1 y2
          obtain ⟨y0, y1, y2⟩ := hi.cells
          obtain ⟨z0, z1, z2⟩ := HPRE.out _ hi.bel
          have HTI3d := Lib.hid hi
          clear hi
          go_region_held3 (fun w' => w'.cell? ⟨wr.heap.size, 0, none⟩ = some (.string (S p)) ∧ w'.cell? ⟨wr.heap.size, 1, none⟩ = some (.string (S t)) ∧ w'.cell? ⟨wr.heap.size, 2, none⟩ = some (.int .i64 d) ∧ w'.cell? ⟨b, o + (k - 1) * 3, none⟩ = some (.string (S pp)) ∧ w'.cell? ⟨b, o + (k - 1) * 3 + 1, none⟩ = some (.string (S pt)) ∧ w'.cell? ⟨b, o + (k - 1) * 3 + 2, none⟩ = some (.int .i64 pd)) (first | exact ⟨y0, y1, y2, z0, z1, z2⟩ | go_keep) ((go_at_call 18; refine (KO.out _).mono ?_; rintro e w5 ⟨rfl, hb2⟩; clear y0 y1 y2 z0 z1 z2; have hi := HTI3d.out.step hb2; obtain ⟨y0, y1, y2⟩ := hi.cells; obtain ⟨z0, z1, z2⟩ := HPRE.out _ hi.bel; have HTI4 := Lib.hid hi; clear hi hb2))
          go_wp2
          go_ret2
          exact ⟨by rw [HZZ.out]; rfl, HTI4.out.bel⟩
end Go.Proofs.Ytajcnjehjkpieaa
