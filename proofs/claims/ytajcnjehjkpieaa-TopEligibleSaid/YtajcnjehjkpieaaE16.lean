/- The law's own walk. -/
import Derived.Test.YtajcnjehjkpieaaE17
set_option linter.unusedSimpArgs false
set_option linter.unusedVariables false
namespace Go.Proofs.Ytajcnjehjkpieaa
open Go.RowKit

set_option maxRecDepth 100000 in
set_option maxHeartbeats 4000000 in
theorem law_Eligible (ws : List Win) (l : List Tra) (os : List Off) (ms : List Int) (wv lv ov mv : Value) (p : List UInt8) (w : World)
    (hw : Sl 2 elWin w (· < w.heap.size) wv ws) (hl : Sl 3 elTra w (· < w.heap.size) lv l) (ho : Sl 4 elOff w (· < w.heap.size) ov os) (hm : Sl 1 elInt w (· < w.heap.size) mv ms) :
    Calls Try.prog 3 #[.agg #[wv, lv, ov, mv], .string (S p)] w fun e w' => e = .returned (.bool true) ∧ Below w.heap.size w w' := by
  obtain ⟨Aw, cw, rfl, hcw, hcw2⟩ := hw.shape
  obtain ⟨Al, cl, rfl, hcl, hcl2⟩ := hl.shape
  obtain ⟨Ao, co, rfl, hco, hco2⟩ := ho.shape
  obtain ⟨Am, cm, rfl, hcm, hcm2⟩ := hm.shape
  have KA := Lib.hid (fun W => off_awake W)
  have HW := hw.take (k := min ws.length 5) (by omega)
  have HL := hl.take (k := min l.length 10) (by omega)
  have HO := ho.take (k := min os.length 8) (by omega)
  have HM := hm.take (k := min ms.length 12) (by omega)
  obtain ⟨ws', hws'⟩ : ∃ x, x = ws.take (min ws.length 5) := ⟨_, rfl⟩
  obtain ⟨l', hl'⟩ : ∃ x, x = l.take (min l.length 10) := ⟨_, rfl⟩
  obtain ⟨os', hos'⟩ : ∃ x, x = os.take (min os.length 8) := ⟨_, rfl⟩
  obtain ⟨ms', hms'⟩ : ∃ x, x = ms.take (min ms.length 12) := ⟨_, rfl⟩
  have n0 : ws'.length = min ws.length 5 := by rw [hws', List.length_take]; omega
  have n1 : l'.length = min l.length 10 := by rw [hl', List.length_take]; omega
  have n2 : os'.length = min os.length 8 := by rw [hos', List.length_take]; omega
  have n3 : ms'.length = min ms.length 12 := by rw [hms', List.length_take]; omega
  rw [← hws', ← n0] at HW
  rw [← hl', ← n1] at HL
  rw [← hos', ← n2] at HO
  rw [← hms', ← n3] at HM
  have q0 : (min (ws.length : Int) 5).toNat = ws'.length := by omega
  have q1 : (min (l.length : Int) 10).toNat = l'.length := by omega
  have q2 : (min (os.length : Int) 8).toNat = os'.length := by omega
  have q3 : (min (ms.length : Int) 12).toNat = ms'.length := by omega
  have m1 : l'.length ≤ 10 := by omega
  have m2 : os'.length ≤ 8 := by omega
  have m3 : ms'.length ≤ 12 := by omega
  clear hws' hl' hos' hms' n0 n1 n2 n3
  clear hw hl ho hm
  generalize ws.length = nw at *
  generalize l.length = nl at *
  generalize os.length = no at *
  generalize ms.length = nm at *
  replace HW := Lib.hid HW
  replace HL := Lib.hid HL
  replace HO := Lib.hid HO
  replace HM := Lib.hid HM
  have HF : OF w (w.alloc (.cells #[.slice Aw nw cw, .slice Al nl cl, .slice Ao no co, .slice Am nm cm] 27)) (.slice Aw nw cw) (.slice Al nl cl) (.slice Ao no co) (.slice Am nm cm) := ⟨low_alloc w _, Blk.new w _ _⟩
  replace HF := Lib.hid HF
  have e0 : (0 : Int) ≤ min (nw : Int) 5 := by omega
  have e1 : min (nw : Int) 5 ≤ (cw : Int) := by omega
  have e2 : (0 : Int) ≤ min (nl : Int) 10 := by omega
  have e3 : min (nl : Int) 10 ≤ (cl : Int) := by omega
  have e4 : (0 : Int) ≤ min (no : Int) 8 := by omega
  have e5 : min (no : Int) 8 ≤ (co : Int) := by omega
  have e6 : (0 : Int) ≤ min (nm : Int) 12 := by omega
  have e7 : min (nm : Int) 12 ≤ (cm : Int) := by omega
  obtain ⟨sz, hsz⟩ : ∃ x : List Int × Int, x = susS os' p ms' := ⟨_, rfl⟩
  obtain ⟨mis, se⟩ := sz
  obtain ⟨rz, hrz⟩ : ∃ x : Int × Int, x = regS ws' l' := ⟨_, rfl⟩
  obtain ⟨ri, re⟩ := rz
  have kc := fun W (hW : Below w.heap.size w W) => reg_Check ws' l' _ _ W ((HW.out.keep elWin_good (Same.of_below hW)) fun _ h => Nat.lt_of_lt_of_le h hW.size) ((HL.out.keep elTra_good (Same.of_below hW)) fun _ h => Nat.lt_of_lt_of_le h hW.size)
  rw [← hrz] at kc
  dsimp only at kc
  have ks := fun W (hW : Below w.heap.size w W) => con_Suspensions os' _ p ms' _ W ((HO.out.keep elOff_good (Same.of_below hW)) fun _ h => Nat.lt_of_lt_of_le h hW.size) ((HM.out.keep elInt_good (Same.of_below hW)) fun _ h => Nat.lt_of_lt_of_le h hW.size)
  rw [← hsz] at ks
  have ks2 : ∀ W, Below w.heap.size w W → Calls Try.prog 6 #[.slice Ao os'.length co, .string (S p), .slice Am ms'.length cm] W fun e W' => ∃ A c, e = .returned (.tuple #[.slice A mis.length c, .int .i64 se]) ∧ Sl 1 elInt W' (· < W'.heap.size) (.slice A mis.length c) mis ∧ Below W.heap.size W W' := fun W hW => by
    refine (ks W hW).mono ?_
    rintro e W' ⟨A, n, c, rfl, hs, hb⟩
    obtain ⟨A', c', he, _⟩ := hs.shape
    cases he
    exact ⟨A, c, rfl, hs.keep elInt_good (Same.refl _ _) fun _ h => h.2, hb⟩
  have kd := fun W (hW : Below w.heap.size w W) d => con_Suspended (mis, se) _ _ p d W ⟨_, _, _, rfl⟩ ⟨_, _, _, rfl⟩ (ks W hW)
  have ke := fun W (hW : Below w.heap.size w W) t d => reg_Eligible l' _ p t d W ((HL.out.keep elTra_good (Same.of_below hW)) fun _ h => Nat.lt_of_lt_of_le h hW.size)
  have kt := fun W (hW : Below w.heap.size w W) d => reg_Team l' _ p d W ((HL.out.keep elTra_good (Same.of_below hW)) fun _ h => Nat.lt_of_lt_of_le h hW.size)
  have kq := fun W (hW : Below w.heap.size w W) t d => reg_Squad l' _ t d W ((HL.out.keep elTra_good (Same.of_below hW)) fun _ h => Nat.lt_of_lt_of_le h hW.size) (by omega)
  have KC := Lib.hid kc
  dsimp only at kd
  have KS := Lib.hid ks2
  have KD := Lib.hid kd
  have KE := Lib.hid ke
  have KT := Lib.hid kt
  have KQ := Lib.hid kq
  have HSZ := Lib.hid hsz.symm
  clear kc ks ks2 kd ke kt kq hsz hrz
  go_enter Try.func3, Try.ntmps3
  go_upto_region 3 with (go_at_call 4; refine (KA.out _).mono ?_; rintro e w1 ⟨rfl, hb⟩; have HF1 := Lib.hid (HF.out.step hb); clear hb HF KA)
  obtain ⟨y0, y1, y2, y3⟩ := HF1.out.cells
  go_cut [] (fun wx => OF w wx (.slice Aw ws'.length cw) (.slice Al l'.length cl) (.slice Ao os'.length co) (.slice Am ms'.length cm))
  case first =>
    have hbk := HF1.out.blk
    have hbl := HF1.out.bel
    have hlt := HF1.out.lt
    clear y0 y1 y2 y3
    refine q3_region w.heap.size Aw nw cw Al nl cl Ao no co Am nm cm _ w.heap.size w1 (by kernel_rfl) rfl rfl (Nat.le_refl _) (Nat.le_of_lt hlt) e0 e1 hcw2 e2 e3 hcl2 e4 e5 hco2 e6 e7 hcm2 hbk ?_
    intro wx hbx hkx
    rw [q0, q1, q2, q3] at hkx
    have HX : OF w wx (.slice Aw ws'.length cw) (.slice Al l'.length cl) (.slice Ao os'.length co) (.slice Am ms'.length cm) := ⟨hbl.trans hbx, hkx⟩
    have HXX := Lib.hid HX
    clear hbk hbl hlt hbx hkx HX
    simp only [q3Mask, updM]
    go_wp2_with fail
    go_meet
    exact HXX.out
  case rest =>
    clear q0 q1 q2 q3 e0 e1 e2 e3 e4 e5 e6 e7 y0 y1 y2 y3
    obtain ⟨y0, y1, y2, y3⟩ := hcut.cells
    have HF2 := Lib.hid hcut
    clear hcut
    cases h0 : (re != 0)
    case true =>
      go_wp2_with (go_at_call 5; refine (KC.out _ HF2.out.bel).mono ?_; rintro e w3 ⟨rfl, hb⟩; have HF3 := Lib.hid (HF2.out.step hb); clear hb)
      go_ret
      exact ⟨rfl, HF3.out.bel⟩
    obtain rfl : re = 0 := by simpa using h0
    clear h0
    cases h1 : (se != 0)
    case true =>
      obtain rfl : mis = [] := sus_bad HSZ.out (by simpa using h1)
      have KS2 : Hid (∀ W, Below w.heap.size w W → Calls Try.prog 6 #[.slice Ao os'.length co, .string (S p), .slice Am ms'.length cm] W fun e W' => ∃ A c, e = .returned (.tuple #[.slice A 0 c, .int .i64 se]) ∧ Sl 1 elInt W' (· < W'.heap.size) (.slice A 0 c) [] ∧ Below W.heap.size W W') := KS
      clear KS KD KE KT KQ
      go_wp2_with (first
        | (go_at_call 5; refine (KC.out _ HF2.out.bel).mono ?_; rintro e w3 ⟨rfl, hb⟩; have HF3 := Lib.hid (HF2.out.step hb); clear hb y0 y1 y2 y3; obtain ⟨y0, y1, y2, y3⟩ := HF3.out.cells)
        | (go_at_call 6; refine (KS2.out _ HF3.out.bel).mono ?_; rintro e w4 ⟨A4, c4, rfl, hs, hb⟩; have HF4 := Lib.hid (HF3.out.step hb); clear hb hs))
      go_ret
      exact ⟨rfl, HF4.out.bel⟩
    obtain rfl : se = 0 := by simpa using h1
    clear h1
    obtain ⟨hpts, hmis⟩ := sus_ok HSZ.out
    have hpt := (con_pts hpts).2
    have HPT := Lib.hid hpt
    have HMIS := Lib.hid hmis
    clear hpt hmis hpts HSZ
    go_wp2_with (first
      | (go_at_call 5; refine (KC.out _ HF2.out.bel).mono ?_; rintro e w3 ⟨rfl, hb⟩; have HF3 := Lib.hid (HF2.out.step hb); clear hb y0 y1 y2 y3; obtain ⟨y0, y1, y2, y3⟩ := HF3.out.cells)
      | (go_at_call 6; refine (KS.out _ HF3.out.bel).mono ?_; rintro e w4 ⟨A4, c4, rfl, hs, hb⟩; have HF4 := Lib.hid (HF3.out.step hb); have HS4 := Lib.hid hs; clear hb hs y0 y1 y2 y3; obtain ⟨y0, y1, y2, y3⟩ := HF4.out.cells))
    clear KC KS
    have f00 := totK_zero os' p
    go_loopw [9, 80] (fun s i wr => ∃ k : Nat, k ≤ os'.length ∧ i = .int .i64 k ∧ s = .int .i64 (totK os' p k) ∧ 0 ≤ totK os' p k ∧ totK os' p k ≤ 8 * k ∧ Hid (OF w wr (.slice Aw ws'.length cw) (.slice Al l'.length cl) (.slice Ao os'.length co) (.slice Am ms'.length cm)) ∧ Hid (Sl 1 elInt wr (· < wr.heap.size) (.slice A4 mis.length c4) mis)) (fun _ i _ => os'.length - (intOf i).toNat)
    case atStart => exact ⟨0, Nat.zero_le _, rfl, by rw [f00], by omega, by omega, HF4, HS4⟩
    case round =>
      clear HF2 HF3 HF4 HS4 y0 y1 y2 y3 f00
      obtain ⟨k, hk, rfl, rfl, hp0, hp8, hof, hsl⟩ := hrel
      by_cases hlt : k < os'.length
      · have hst := totK_step (p := p) hlt
        obtain ⟨b, o, rfl, hbl, t0, t1, t2, t3, _⟩ := off_at HO.out hlt
        have x0 := (hof.out.bel.cell (p := ⟨b, o + k * 4, none⟩) hbl).trans t0
        have x1 := (hof.out.bel.cell (p := ⟨b, o + k * 4 + 1, none⟩) hbl).trans t1
        have x2 := (hof.out.bel.cell (p := ⟨b, o + k * 4 + 2, none⟩) hbl).trans t2
        have x3 := (hof.out.bel.cell (p := ⟨b, o + k * 4 + 3, none⟩) hbl).trans t3
        obtain ⟨g1, g8⟩ := HPT.out (ofn os' k) (by rw [← ofn_at hlt]; exact List.getElem_mem hlt)
        obtain ⟨x, hx⟩ : ∃ x, x = ofn os' k := ⟨_, rfl⟩
        rw [← hx] at x0 x1 x2 x3 hst g1 g8
        obtain ⟨xi, xp, xd, xn⟩ := x
        dsimp only at x0 x1 x2 x3 hst g1 g8
        obtain ⟨T, hT⟩ : ∃ T, T = totK os' p k := ⟨_, rfl⟩
        rw [← hT] at hst hp0 hp8
        obtain ⟨T2, hT2⟩ : ∃ T, T = totK os' p (k + 1) := ⟨_, rfl⟩
        rw [← hT2] at hst
        have HT2 := Lib.hid hT2
        rw [← hT]
        have HOA := Lib.hid (hof.out.alloc (.cells #[.int .i64 xi, .string (S xp), .int .i64 xd, .int .i64 xn] 35))
        have HSA := Lib.hid (sl_low elInt_good hsl.out (low_alloc wr (.cells #[.int .i64 xi, .string (S xp), .int .i64 xd, .int .i64 xn] 35)))
        have gk : (k : Int) < (os'.length : Int) := by omega
        have f0 : IntKind.i64.wrap (T + xn) = T + xn := IntWalk.i64_in _ (by omega)
        clear hT hT2 hx t0 t1 t2 t3 hof hsl
        cases c1 : (xp == p)
        · rw [c1, if_neg (by simp)] at hst
          have HN := Lib.hid hst
          clear hst
          go_wp2
          go_roundw
          case rel => exact ⟨k + 1, by omega, by go_num, by rw [← HT2.out, HN.out], by rw [← HT2.out, HN.out]; exact hp0, by rw [← HT2.out, HN.out]; push_cast; omega, HOA, HSA⟩
          case measure => simp [intOf]; omega
        · rw [c1, if_pos rfl] at hst
          have HN := Lib.hid hst
          clear hst
          go_wp2
          go_roundw
          case rel => exact ⟨k + 1, by omega, by go_num, by rw [← HT2.out, HN.out], by rw [← HT2.out, HN.out]; omega, by rw [← HT2.out, HN.out]; push_cast; omega, HOA, HSA⟩
          case measure => simp [intOf]; omega
      · obtain rfl : k = os'.length := by omega
        rw [totK_all] at *
        obtain ⟨T, hT⟩ : ∃ T, T = totS os' p := ⟨_, rfl⟩
        have hms := HMIS.out
        rw [← hT] at hms hp0 hp8
        rw [← hT]
        obtain ⟨q, hq⟩ : ∃ q, q = T.tdiv 4 := ⟨_, rfl⟩
        rw [← hq] at hms
        have b1 : 0 ≤ q ∧ q ≤ 5000 := by rw [hq, Int.tdiv_eq_ediv_of_nonneg (by omega)]; omega
        have f1 := hq.symm
        have f2 : IntKind.i64.wrap q = q := IntWalk.i64_in _ (by omega)
        have f3 : IntKind.i64.wrap (q + os'.length) = q + os'.length := IntWalk.i64_in _ (by omega)
        have f4 : IntKind.i64.wrap (2 * (q + os'.length)) = 2 * (q + os'.length) := IntWalk.i64_in _ (by omega)
        obtain ⟨y0, y1, y2, y3⟩ := hof.out.cells
        have HF5 := Lib.hid hof.out
        have HS5 := Lib.hid hsl.out
        clear hT hq hof hsl HMIS HPT
        go_wp2
        clear y0 y1 y2 y3 f1 f2 f3 f4 hms hp0 hp8
        obtain ⟨wo, rfl⟩ : ∃ wo : World, wo = wr := ⟨_, rfl⟩
        go_loopw [106] (fun i wr => ∃ k : Nat, k ≤ ms'.length ∧ i = .int .i64 k ∧ Hid (OF w wr (.slice Aw ws'.length cw) (.slice Al l'.length cl) (.slice Ao os'.length co) (.slice Am ms'.length cm)) ∧ Hid (Sl 1 elInt wr (· < wr.heap.size) (.slice A4 mis.length c4) mis)) (fun i _ => ms'.length - (intOf i).toNat)
        case atStart => exact ⟨0, Nat.zero_le _, rfl, HF5, HS5⟩
        case round =>
          clear HF5 HS5
          obtain ⟨k, hk, rfl, hof, hsl⟩ := hrel
          by_cases hlt : k < ms'.length
          · obtain ⟨bm, om, rfl, hbl, t0⟩ := i64_at HM.out hlt
            have x0 := (hof.out.bel.cell (p := ⟨bm, om + k, none⟩) hbl).trans t0
            obtain ⟨y0, y1, y2, y3⟩ := hof.out.cells
            obtain ⟨d, hd⟩ : ∃ d, d = ms'.getD k 0 := ⟨_, rfl⟩
            rw [← hd] at x0
            have kd := fun W hW => KD.out W hW d
            have ki := fun W (h : Sl 1 elInt W (· < W.heap.size) (.slice A4 mis.length c4) mis) => i64_Contains mis _ d _ W h
            obtain ⟨bb, hbb⟩ : ∃ bb, bb = decide (d ∈ mis) := ⟨_, rfl⟩
            rw [← hbb] at kd ki
            have KDD := Lib.hid kd
            have KI := Lib.hid ki
            have gk : (k : Int) < (ms'.length : Int) := by omega
            clear t0 hd hbb kd ki
            go_wp2_with (first
              | (go_at_call 7; refine (KDD.out _ hof.out.bel).mono ?_; rintro e w6 ⟨rfl, hb⟩; have HF6 := Lib.hid (hof.out.step hb); have HS6 := Lib.hid (sl_low elInt_good hsl.out hb); clear hb y0 y1 y2 y3 x0 hof hsl; obtain ⟨y0, y1, y2, y3⟩ := HF6.out.cells)
              | (go_at_call 8; refine (KI.out _ HS6.out).mono ?_; rintro e w7 ⟨rfl, hb⟩; obtain rfl := hb))
            clear KDD KI y0 y1 y2 y3
            obtain ⟨wo2, rfl⟩ : ∃ wo2 : World, wo2 = w6 := ⟨_, rfl⟩
            go_loopw [16, 132] (fun s i wr => ∃ (i' : Nat) (tv : Int), i' ≤ l'.length ∧ i = .int .i64 i' ∧ s = .int .i64 tv ∧ Hid ((tv = 0 ∧ NoT l' p d i') ∨ tv = 1) ∧ Hid (OF w wr (.slice Aw ws'.length cw) (.slice Al l'.length cl) (.slice Ao os'.length co) (.slice (some ⟨bm, om, none⟩) ms'.length cm)) ∧ Hid (Sl 1 elInt wr (· < wr.heap.size) (.slice A4 mis.length c4) mis)) (fun _ i _ => l'.length - (intOf i).toNat)
            case atStart => exact ⟨0, 0, Nat.zero_le _, rfl, rfl, Lib.hid (.inl ⟨rfl, NoT.zero _ _ _⟩), HF6, HS6⟩
            case round =>
              clear HF6 HS6
              obtain ⟨i', tv, hi, rfl, rfl, htv, hof, hsl⟩ := hrel
              by_cases hlt2 : i' < l'.length
              · obtain ⟨b, o, rfl, hbl, t0, t1, t2, hmx, hmx2⟩ := tra_at HL.out hlt2
                have x0 := (hof.out.bel.cell (p := ⟨b, o + i' * 3, none⟩) hbl).trans t0
                have x1 := (hof.out.bel.cell (p := ⟨b, o + i' * 3 + 1, none⟩) hbl).trans t1
                have x2 := (hof.out.bel.cell (p := ⟨b, o + i' * 3 + 2, none⟩) hbl).trans t2
                have hne := fun h => (show NoT l' p d i' → NoT l' p d (i' + 1) from fun hh => hh.next h)
                obtain ⟨x, hx⟩ : ∃ x, x = tr l' i' := ⟨_, rfl⟩
                rw [← hx] at x0 x1 x2 hne
                obtain ⟨xp, xt, xd⟩ := x
                dsimp only at x0 x1 x2 hne
                obtain ⟨y0, y1, y2, y3⟩ := hof.out.cells
                have glt := hof.out.lt
                have HOA := Lib.hid (hof.out.alloc (.cells #[.string (S xp), .string (S xt), .int .i64 xd] 40))
                have HSA := Lib.hid (sl_low elInt_good hsl.out (low_alloc wr (.cells #[.string (S xp), .string (S xt), .int .i64 xd] 40)))
                have HBA := Lib.hid (Blk.new wr 40 #[.string (S xp), .string (S xt), .int .i64 xd])
                have ke := fun W hW => KE.out W hW xt d
                have kq := fun W hW => KQ.out W hW xt d
                have kt := fun W hW => KT.out W hW d
                have hel : eligS l' p xt d = true → p ∈ squadS l' xt d ∧ teamD l' p d = xt := fun h => ⟨(elig_law h).1, (elig_law h).2.1⟩
                obtain ⟨el, hel2⟩ : ∃ el, el = eligS l' p xt d := ⟨_, rfl⟩
                rw [← hel2] at ke hel hne
                have HNE := Lib.hid hne
                have KEL := Lib.hid ke
                have gk2 : (i' : Int) < (l'.length : Int) := by omega
                clear hx t0 t1 t2 hof hsl hel2 hne ke
                cases c1 : (xp == p)
                · have HN := Lib.hid (HNE.out (by rw [c1]; rfl))
                  clear HNE KEL kq kt hel
                  go_wp2
                  go_roundw
                  case rel => exact ⟨i' + 1, tv, by omega, by go_num, rfl, Lib.hid (htv.out.elim (fun h => .inl ⟨h.1, HN.out h.2⟩) .inr), HOA, HSA⟩
                  case measure => simp [intOf]; omega
                cases el
                · have HN := Lib.hid (HNE.out (by rw [c1]; rfl))
                  clear HNE kq kt hel
                  go_wp2_with (go_at_call 9; refine (KEL.out _ HOA.out.bel).mono ?_; rintro e w8 ⟨rfl, hb⟩; have HF8 := Lib.hid (HOA.out.step hb); have HS8 := Lib.hid (sl_low elInt_good HSA.out hb); clear hb HOA HSA)
                  go_roundw
                  case rel => exact ⟨i' + 1, tv, by omega, by go_num, rfl, Lib.hid (htv.out.elim (fun h => .inl ⟨h.1, HN.out h.2⟩) .inr), HF8, HS8⟩
                  case measure => simp [intOf]; omega
                · obtain ⟨hq1, hq2⟩ := hel rfl
                  have kq2 : ∀ W, Below w.heap.size w W → Calls Try.prog 11 #[.slice (some ⟨b, o, none⟩) l'.length cl, .string (S xt), .int .i64 d] W fun e w' => ∃ A n c, e = .returned (.slice A n c) ∧ Calls Try.prog 10 #[.slice A n c, .string (S p)] w' (fun e w2 => e = .returned (.bool true) ∧ w' = w2) ∧ Below W.heap.size W w' := fun W hW => by
                    refine (kq W hW).mono ?_
                    rintro e w' ⟨A, n, c, rfl, hs, hb⟩
                    refine ⟨A, n, c, rfl, ?_, hb⟩
                    refine (str_Contains _ _ (S p) _ w' hs).mono ?_
                    rintro e w2 ⟨rfl, rfl⟩
                    exact ⟨by rw [S_data, decide_eq_true hq1], rfl⟩
                  rw [hq2] at kt
                  have KQ2 := Lib.hid kq2
                  have KT2 := Lib.hid kt
                  clear hq1 hq2 hel kq kq2 kt HNE
                  obtain ⟨wo3, rfl⟩ : ∃ wo3 : World, wo3 = wr := ⟨_, rfl⟩
                  go_upto_region 30 with (go_at_call 9; refine (KEL.out _ HOA.out.bel).mono ?_; rintro e w8 ⟨rfl, hb⟩; have HF8 := Lib.hid ((HOA.out.step hb).step (Below.drew (Below.refl _ _))); have HS8 := Lib.hid (sl_low elInt_good (sl_low elInt_good HSA.out hb) (Below.drew (Below.refl _ _))); have HB8 := Lib.hid ((HBA.out.below hb HBA.out.lt).drew); clear hb HOA HSA HBA)
                  obtain ⟨y0, y1, y2, y3⟩ := HF8.out.cells
                  have z1 : w8.cell? ⟨wo3.heap.size, 1, none⟩ = some (.string (S xt)) := HB8.out.cell 1
                  have y1 : w8.cell? ⟨w.heap.size, 1, none⟩ = some (.slice (some ⟨b, o, none⟩) l'.length cl) := y1
                  clear y0 y2 y3
                  go_region_held3 (fun w' => w'.cell? ⟨w.heap.size, 1, none⟩ = some (.slice (some ⟨b, o, none⟩) l'.length cl) ∧ w'.cell? ⟨wo3.heap.size, 1, none⟩ = some (.string (S xt))) (first | exact ⟨y1, z1⟩ | go_keep) (first
                    | (go_at_call 11; refine (KQ2.out _ HF8.out.bel).mono ?_; rintro e w9 ⟨A9, n9, c9, rfl, hcon, hb⟩; have HCON := Lib.hid hcon; clear y1 z1 hcon; have HF9 := Lib.hid (HF8.out.step hb); have HS9 := Lib.hid (sl_low elInt_good HS8.out hb); have hk := HB8.out.below hb HB8.out.lt; have z1 := hk.cell 1; obtain ⟨_, y1, _, _⟩ := HF9.out.cells; have HB9 := Lib.hid hk; clear hk hb HF8 HS8 HB8)
                    | (go_at_call 10; refine (HCON.out).mono ?_; rintro e w10 ⟨rfl, hb⟩; obtain rfl := hb)
                    | (go_at_call 12; refine (KT2.out _ HF9.out.bel).mono ?_; rintro e w11 ⟨rfl, hb⟩; clear y1 z1; have HFA := Lib.hid (HF9.out.step hb); have HSB := Lib.hid (sl_low elInt_good HS9.out hb); have hk := HB9.out.below hb HB9.out.lt; have z1 := hk.cell 1; obtain ⟨_, y1, _, _⟩ := HFA.out.cells; clear hk hb HF9 HS9 HB9))
                  go_wp2
                  go_roundw
                  case rel => exact ⟨i' + 1, 1, by omega, by go_num, rfl, Lib.hid (.inr rfl), HFA, HSB⟩
                  case measure => simp [intOf]; omega
              · obtain rfl : i' = l'.length := by omega
                obtain ⟨y0, y1, y2, y3⟩ := hof.out.cells
                have HF8 := Lib.hid hof.out
                have HS8 := Lib.hid hsl.out
                rcases htv.out with ⟨rfl, hno⟩ | rfl
                · have hel := hno.done
                  have kt := fun W hW => KT.out W hW d
                  have ke := fun W hW t => KE.out W hW t d
                  obtain ⟨tm, htm⟩ : ∃ x, x = teamD l' p d := ⟨_, rfl⟩
                  rw [← htm] at hel kt
                  have ke2 := fun W hW => ke W hW tm
                  rw [hel] at ke2
                  have KT2 := Lib.hid kt
                  have KE2 := Lib.hid ke2
                  have HF9 := Lib.hid (HF8.out.step (Below.drew (Below.refl _ _)))
                  have HS9 := Lib.hid (sl_low elInt_good HS8.out (Below.drew (Below.refl _ _)))
                  clear kt ke ke2 htm hel hno htv hof hsl y0 y2 y3
                  go_upto_region 34 with fail
                  go_region_held3 (fun w' => w'.cell? ⟨w.heap.size, 1, none⟩ = some (.slice Al l'.length cl)) (first | exact y1 | go_keep) (first
                    | (go_at_call 12; refine (KT2.out _ HF9.out.bel).mono ?_; rintro e w11 ⟨rfl, hb⟩; clear y1; have HFA := Lib.hid (HF9.out.step hb); have HSB := Lib.hid (sl_low elInt_good HS9.out hb); obtain ⟨_, y1, _, _⟩ := HFA.out.cells; clear hb HF9 HS9 HF8 HS8)
                    | (go_at_call 9; refine (KE2.out _ HFA.out.bel).mono ?_; rintro e w12 ⟨rfl, hb⟩; clear y1; have HFC := Lib.hid (HFA.out.step hb); have HSC := Lib.hid (sl_low elInt_good HSB.out hb); obtain ⟨_, y1, _, _⟩ := HFC.out.cells; clear hb HFA HSB))
                  go_wp2
                  go_roundw
                  case rel => exact ⟨k + 1, by omega, by go_num, HFC, HSC⟩
                  case measure => simp [intOf]; omega
                · clear htv hof hsl y0 y2 y3
                  have HF9 := Lib.hid (fun nq => HF8.out.step (Below.drewN_ (Below.refl _ _) nq))
                  have HS9 := Lib.hid (fun nq => sl_low elInt_good HS8.out (Below.drewN_ (Below.refl _ _) nq))
                  go_upto_region 34 with fail
                  go_quiet (fail)
                  go_wp2
                  go_roundw
                  case rel => exact ⟨k + 1, by omega, by go_num, Lib.hid (HF9.out _), Lib.hid (HS9.out _)⟩
                  case measure => simp [intOf]; omega
          · obtain rfl : k = ms'.length := by omega
            have HF8 := Lib.hid hof.out
            clear hof hsl
            go_wp2
            go_ret
            exact ⟨rfl, HF8.out.bel⟩
end Go.Proofs.Ytajcnjehjkpieaa
