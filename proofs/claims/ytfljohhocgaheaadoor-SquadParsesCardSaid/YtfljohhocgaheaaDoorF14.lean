/- The contract of the reference's Parse. -/
import Derived.Test.YtfljohhocgaheaaDoorF13
import Derived.Deep.DeepCutAuto
set_option linter.unusedSimpArgs false
set_option linter.unusedVariables false
namespace Go.Proofs.YtfljohhocgaheaaDoor
open Go.RowKit

theorem stepS_players2 (x : Lin) (i : Nat) (q : Sqd) (hx : OkLin x) (hq : q.players.length = i - 1) (hl : ∀ p ∈ q.players, p.length ≤ 1000) (hn : q.name.length ≤ 1000) :
    (stepS x i q).1.players.length = (i + 1) - 1 ∧ (∀ p ∈ (stepS x i q).1.players, p.length ≤ 1000) ∧ (stepS x i q).1.name.length ≤ 1000 := by
  refine ⟨?_, (stepS_players x i q hx (by omega) hl hn).2⟩
  unfold stepS
  split
  · show q.players.length = _; omega
  · rw [(playerS_players q (Cur.start x)).1]; simp; omega
set_option maxRecDepth 100000 in
set_option maxHeartbeats 4000000 in
theorem rsq_Parse (s : ByteArray) (w : World) (hs : s.size ≤ 140737488351232) :
    Calls Tryd.prog 15 #[.string s] w (ParsePost w (parseS s.data.toList)) := by
  obtain ⟨res, hres⟩ : ∃ r, r = parseS s.data.toList := ⟨_, rfl⟩
  rw [← hres]
  unfold parseS at hres
  have hok := splitS_ok s.data.toList
  obtain ⟨w0, hw0⟩ : ∃ x, x = w.alloc (.cells #[.string ByteArray.empty, .slice none 0 0, .int .i64 0, .int .i64 0] 24) := ⟨_, rfl⟩
  have hb0 : Below w.heap.size w w0 := by rw [hw0]; exact Below.alloc (Below.refl _ _) (Nat.le_refl _) _
  have hz0 : w0.heap.size = w.heap.size + 1 := by rw [hw0]; simp
  have hk0 : Blk w0 w.heap.size 24 #[.string ByteArray.empty, .slice none 0 0, .int .i64 0, .int .i64 0] := by rw [hw0]; exact Blk.new w _ _
  obtain ⟨⟨ls, ds⟩, hq⟩ : ∃ x, x = splitS s.data.toList := ⟨_, rfl⟩
  have hsp0 := ref_Split s w0 hs
  have hsp : Calls Tryd.prog 36 #[.string s] w0 fun e w2 => ∃ v d, e = .returned (.tuple #[v, d]) ∧ Sl 2 elLin w2 (fun b => w.heap.size < b ∧ b < w2.heap.size) v ls ∧ Sl 3 elDia w2 (fun b => w.heap.size < b ∧ b < w2.heap.size) d ds ∧ Below w.heap.size w w2 ∧ Blk w2 w.heap.size 24 #[.string ByteArray.empty, .slice none 0 0, .int .i64 0, .int .i64 0] := by
    refine hsp0.mono ?_
    rintro e w2 ⟨v, d, rfl, hv, hd, hb2⟩
    rw [← hq] at hv hd
    exact ⟨v, d, rfl, hv.keep elLin_good (Same.refl _ _) (fun b hb => ⟨by have := hb.1; omega, hb.2⟩), hd.keep elDia_good (Same.refl _ _) (fun b hb => ⟨by have := hb.1; omega, hb.2⟩), hb0.trans (hb2.mono (by omega)), hk0.below hb2 (by omega)⟩
  rw [← hq] at hres hok
  rw [hw0] at hsp
  simp only at hres hok
  have HSP := Lib.hid hsp
  have HOK := Lib.hid hok
  clear hsp0 hsp hok hq hk0 hb0 hz0 hw0
  by_cases hds : ds = []
  · rw [if_neg (by simp [hds])] at hres
    subst hds
    by_cases hls : ls = []
    · rw [if_pos hls] at hres
      subst hls
      have HR := Lib.hid hres
      clear hres
      go_enter Tryd.func15, Tryd.ntmps15
      go_wp2_with (go_at_call 36; refine HSP.out.mono ?_; rintro e w2 ⟨v, d, rfl, hv, hd, hb2, hk2⟩; obtain ⟨Av, cv, rfl, hcv, hcv'⟩ := hv.shape; obtain ⟨Ad, cd, rfl, hcd, hcd'⟩ := hd.shape; have hlt := hk2.lt; obtain ⟨r0, r1, r2, r3, f0, f1, f2, f3⟩ := hk2.four; have HB2 := Lib.hid hb2; have HK2 := Lib.hid hk2; clear hb2 hk2 hv hd)
      exact rparse_ret rfl rfl (((((HK2.out.set_ 0 _).set_ 1 _).set_ 2 _).set_ 3 _).alloc _) rfl (parse_one HR.out rfl HB2.out hlt _ _ _ _ rfl)
    · rw [if_neg hls] at hres
      have HR := Lib.hid hres
      have hpos : 0 < ls.length := List.length_pos_iff.2 hls
      have e0 : ((ls.length : Int) == 0) = false := beq_eq_false_iff_ne.2 (by omega)
      clear hres hls
      go_enter Tryd.func15, Tryd.ntmps15
      go_wp2_with (go_at_call 36; refine HSP.out.mono ?_; rintro e w2 ⟨v, d, rfl, hv, hd, hb2, hk2⟩; obtain ⟨Av, cv, rfl, hcv, hcv'⟩ := hv.shape; obtain ⟨Ad, cd, rfl, hcd, hcd'⟩ := hd.shape; have hlt := hk2.lt; have HB2 := Lib.hid hb2; have HK2 := Lib.hid hk2; have HV := Lib.hid hv; clear hb2 hk2 hv hd)
      have hz3 : (w2.alloc (.cells #[.string ByteArray.empty, .slice none 0 0, .int .i64 0, .int .i64 0] 24)).heap.size = w2.heap.size + 1 := by simp
      have hps : PS w2 w2.heap.size (w2.alloc (.cells #[.string ByteArray.empty, .slice none 0 0, .int .i64 0, .int .i64 0] 24)) noSqd (.slice none 0 0) := ⟨⟨Blk.new w2 _ _, OwnSl.nil _⟩, Below.alloc (Below.refl _ _) (Nat.le_refl _) _⟩
      have HPS := Lib.hid hps
      clear hps hz3
      go_loopw [31] (fun i wr => ∃ (k : Nat) (q : Sqd) (pv : Value), k ≤ ls.length ∧ i = .int .i64 k ∧ PS w2 w2.heap.size wr q pv ∧ q.players.length = k - 1 ∧ (∀ p ∈ q.players, p.length ≤ 1000) ∧ q.name.length ≤ 1000 ∧ Hid (linesF (ls.drop k) k q = linesF ls 0 noSqd))
        (fun i _ => ls.length - (intOf i).toNat)
      case atStart => exact ⟨0, noSqd, _, Nat.zero_le _, rfl, HPS.out, rfl, by simp [noSqd], by simp [noSqd], rfl⟩
      case round =>
        obtain ⟨k, q, pv, hk, rfl, hp, hqn, hql, hqm, hlf⟩ := hrel
        have HP := Lib.hid hp
        have HQL := Lib.hid hql
        clear hp hql
        by_cases hlt2 : k < ls.length
        · obtain ⟨b, o, cs, rfl, hF, hcl, hcc, hel⟩ := HV.out.at hlt2
          have hox := HOK.out.1 _ (List.getElem_mem hlt2)
          have hlk := hlf.out
          rw [drop_get hlt2] at hlk
          obtain ⟨⟨xn, fs⟩, hx⟩ : ∃ x, x = ls[k] := ⟨_, rfl⟩
          rw [← hx] at hel hlk hox
          obtain ⟨fv, rfl, hfl⟩ := hel
          dsimp only at hfl hcc
          obtain ⟨A2, c2, rfl, hf1, hf2⟩ := hfl.shape
          have x0 : wr.cell? ⟨b, o + k * 2, none⟩ = some (.int .i64 xn) := (HP.out.bel.cell (p := ⟨b, o + k * 2, none⟩) hF.2).trans (hcc 0 _ rfl)
          have x1 : wr.cell? ⟨b, o + k * 2 + 1, none⟩ = some (.slice A2 fs.length c2) := (HP.out.bel.cell (p := ⟨b, o + k * 2 + 1, none⟩) hF.2).trans (hcc 1 _ rfl)
          obtain ⟨⟨q', c'⟩, hst⟩ : ∃ r, r = stepS ⟨xn, fs⟩ k q := ⟨_, rfl⟩
          have hsp := stepS_players2 ⟨xn, fs⟩ k q hox hqn HQL.out hqm
          rw [← hst] at hsp
          have HQ := Lib.hid hsp
          have hn6 : q.players.length ≤ 1000000 := by have := HOK.out.2.1; omega
          have HQN := Lib.hid hqn
          have HFL := Lib.hid hfl
          have HOX := Lib.hid hox
          have HL0 : Hid (∀ f ∈ (Cur.start ⟨xn, fs⟩).fields, f.text.length ≤ 1000) := hox.2
          have HRR := HR
          clear hsp hfl hcc hx hox hcl hF hlf HR hqn
          have hst0 := Lib.hid hst.symm
          by_cases hk0 : k = 0
          · have e1 : ((k : Int) == 0) = true := by rw [hk0]; rfl
            unfold stepS at hst
            rw [if_pos hk0] at hst
            obtain ⟨c1, hc1⟩ : ∃ x, x = ((Cur.start ⟨xn, fs⟩).keyword sSIDE).1 := ⟨_, rfl⟩
            rw [← hc1] at hst
            obtain ⟨⟨c2', t⟩, hid⟩ : ∃ x, x = c1.ident := ⟨_, rfl⟩
            rw [← hid] at hst
            simp only [Prod.mk.injEq] at hst
            obtain ⟨rfl, rfl⟩ := hst
            have HL1 : Hid (∀ f ∈ c1.fields, f.text.length ≤ 1000) := by unfold Hid; rw [hc1, Cur.keyword_fields]; exact HL0.out
            have HKW := Lib.hid hc1.symm
            have HID := Lib.hid hid.symm
            clear hc1 hid hk0
            cases hcl : c'.close with
            | none =>
              rw [linesF_ok hst0.out hcl] at hlk
              have HLK := Lib.hid hlk
              have HCL := Lib.hid hcl
              clear hlk hcl
              go_wp2_with (first | (go_at_call 37; refine (rps_At (HP.out.alloc _) ⟨xn, fs⟩ _ _ (HFL.out.keep elFld_good (Same.below (HP.out.alloc _).bel fun b hb => hb.2) fun _ h => h) (fun b hb => by have := HP.out.lt; simp; omega) HOX.out).mono ?_; rintro e w3 ⟨g, F, rfl, hp3, hFp3⟩; have HP3 := Lib.hid hp3; have HFP := Lib.hid hFp3; clear hp3 hFp3) | (go_at_call 38; refine (rpi_Keyword HP3.out ⟨#[83, 73, 68, 69]⟩ HKW.out).mono ?_; rintro e w4 ⟨⟨bk, rfl⟩, hp4⟩; have HP4 := Lib.hid hp4; clear hp4) | (go_at_call 39; refine (rpi_Ident HP4.out HL1.out HID.out).mono ?_; rintro e w5 ⟨rfl, hp5⟩; have y0 := hp5.cells.1; have yf := hp5.cells.2.2.2.2.1; have HP5 := Lib.hid (hp5.set_name t); clear hp5) | (go_at_call 43; refine (rpi_Close_none HP5.out HCL.out).mono ?_; rintro e w6 ⟨rfl, hp6⟩; have HP6 := Lib.hid hp6; clear hp6))
              go_roundw
              case rel => exact ⟨k + 1, _, pv, by omega, by go_num, HP6.out.alloc _, HQ.out.1, HQ.out.2.1, HQ.out.2.2, by unfold Hid; exact HLK.out⟩
              case measure => simp [intOf]; omega
            | some d =>
              rw [linesF_bad hst0.out hcl] at hlk
              have hr2 : res = (noSqd, [d]) := by rw [HRR.out, ← hlk]
              have HR2 := Lib.hid hr2
              have HCL := Lib.hid hcl
              clear hlk hcl hr2
              go_wp2_with (first | (go_at_call 37; refine (rps_At (HP.out.alloc _) ⟨xn, fs⟩ _ _ (HFL.out.keep elFld_good (Same.below (HP.out.alloc _).bel fun b hb => hb.2) fun _ h => h) (fun b hb => by have := HP.out.lt; simp; omega) HOX.out).mono ?_; rintro e w3 ⟨g, F, rfl, hp3, hFp3⟩; have HP3 := Lib.hid hp3; have HFP := Lib.hid hFp3; clear hp3 hFp3) | (go_at_call 38; refine (rpi_Keyword HP3.out ⟨#[83, 73, 68, 69]⟩ HKW.out).mono ?_; rintro e w4 ⟨⟨bk, rfl⟩, hp4⟩; have HP4 := Lib.hid hp4; clear hp4) | (go_at_call 39; refine (rpi_Ident HP4.out HL1.out HID.out).mono ?_; rintro e w5 ⟨rfl, hp5⟩; have y0 := hp5.cells.1; have yf := hp5.cells.2.2.2.2.1; have HP5 := Lib.hid (hp5.set_name t); clear hp5) | (go_at_call 43; refine (rpi_Close_some HP5.out HCL.out).mono ?_; rintro e w6 ⟨rfl, hp6⟩; obtain ⟨r0, r1, r2, r3, f0, f1, f2, f3⟩ := (HK2.out.below hp6.bel hlt).four; obtain ⟨s0, s1, s2, s3, g0, g1, g2, g3⟩ := ((HK2.out.below hp6.bel hlt).alloc (Obj.cells #[.int .i64 d.line, .int .i64 d.col, .int .i64 d.code] 58)).four; obtain ⟨t0, t1, t2, t3, h0, h1, h2, h3⟩ := (((HK2.out.below hp6.bel hlt).alloc (Obj.cells #[.int .i64 d.line, .int .i64 d.col, .int .i64 d.code] 58)).alloc (Obj.cells #[.int .i64 d.line, .int .i64 d.col, .int .i64 d.code] 58)).four; have hl6 := hp6.lt; have HP6 := Lib.hid hp6; clear hp6))
              go_region
              all_goals go_wp2
              all_goals first | (with_reducible refine rparse_some HR2.out rfl (HB2.out.trans (HP6.out.bel.mono ?_)) (HK2.out.below HP6.out.bel hlt) ?_ ?_ ?_) | (with_reducible refine rparse_some2 HR2.out rfl (HB2.out.trans (HP6.out.bel.mono ?_)) (HK2.out.below HP6.out.bel hlt) ?_ ?_ ?_)
              all_goals first | (exact Nat.le_of_lt hlt) | rfl
          · have e1 : ((k : Int) == 0) = false := beq_eq_false_iff_ne.2 (by omega)
            unfold stepS at hst
            rw [if_neg hk0] at hst
            unfold playerS at hst
            rw [show ((q.players.length : Int) + 1) = (k : Int) by have := HQN.out; omega] at hst
            obtain ⟨c1, hc1⟩ : ∃ x, x = ((Cur.start ⟨xn, fs⟩).keyword sPLAYER).1 := ⟨_, rfl⟩
            rw [← hc1] at hst
            obtain ⟨⟨c2, t⟩, hid⟩ : ∃ x, x = c1.ident := ⟨_, rfl⟩
            rw [← hid] at hst
            simp only at hst
            have HST := Lib.hid hst
            have HL1 : Hid (∀ f ∈ c1.fields, f.text.length ≤ 1000) := by unfold Hid; rw [hc1, Cur.keyword_fields]; exact HL0.out
            have HKW := Lib.hid hc1.symm
            have HID := Lib.hid hid.symm
            clear hc1 hid hk0 hst
            go_wp2_with (first | (go_at_call 37; refine (rps_At (HP.out.alloc _) ⟨xn, fs⟩ _ _ (HFL.out.keep elFld_good (Same.below (HP.out.alloc _).bel fun b hb => hb.2) fun _ h => h) (fun b hb => by have := HP.out.lt; simp; omega) HOX.out).mono ?_; rintro e w3 ⟨g, F, rfl, hp3, hFp3⟩; have HP3 := Lib.hid hp3; have HFP := Lib.hid hFp3; clear hp3 hFp3) | (go_at_call 38; refine (rpi_Keyword HP3.out ⟨#[80, 76, 65, 89, 69, 82]⟩ HKW.out).mono ?_; rintro e w4 ⟨⟨bk, rfl⟩, hp4⟩; have y1 := hp4.cells.2.1; have HP4 := Lib.hid hp4; clear hp4))
            go_cut [] (fun wx => ∃ g3 cap3, RPI w2 w2.heap.size F g wx { q with players := q.players ++ [t] } c2 (.slice (some ⟨g3, 0, none⟩) (q.players.length + 1) cap3))
            case first =>
              have y1d : w4.drew.cell? ⟨w2.heap.size, 1, none⟩ = some pv := y1
              have hz4 : w2.heap.size + 1 ≤ w4.heap.size := HP4.out.ps.lt
              go_region_law (first | (go_simp; go_at_call 39; refine (rpi_Ident HP4.out.drew HL1.out HID.out).mono ?_; rintro e w5 ⟨rfl, hp5⟩; have y2 := hp5.cells.2.1; have y3 := (hp5.alloc (Obj.cells #[.string (S t)] 9)).cells.2.1; have hz5 := hp5.ps.lt; have HP5 := Lib.hid hp5; clear hp5) | (refine step_append_el rfl (.tmp 48) (.tmp 51) _ rfl E_str elStr_good (w2.heap.size + 1) pv q.players rfl (HP5.out.ps.sq.2.alloc elStr_good _) ⟨w5.heap.size, 0, none⟩ 1 [.string (S t)] rfl t rfl (cells_new _ _ _ _) (oneCells rfl) rfl (by simp only [maxLen]; omega) (by omega) (by simp; omega) ?_; intro g3 cap3 w6 hown3 hg3 hat3; have hblk3 := (HP5.out.ps.sq.1.alloc (Obj.cells #[.string (S t)] 9)).grown hg3 (own_ne HP5.out.ps.sq.2 HP5.out.ps.sq.1 (by decide)); have y4 : w6.cell? ⟨w2.heap.size, 1, none⟩ = some pv := hblk3.cell 1; have f4 : w6.frozen? ⟨w2.heap.size, 1, none⟩ = false := hblk3.frozen 1; have HBL := Lib.hid hblk3; have HG3 := Lib.hid hg3; have HW3 := Lib.hid hown3; have HA3 := Lib.hid hat3; clear hblk3 hg3 hown3 hat3))
              all_goals
                go_wp2_with fail
                go_meet
              all_goals exact ⟨_, _, rpi_app HP5.out HFP.out HG3.out HW3.out HBL.out⟩
            case rest =>
              obtain ⟨g3, cap3, hpx⟩ := hcut
              have HPX := Lib.hid hpx
              clear hpx
              go_wp2
              go_loopg [] c2.left (fun kk wr => ∃ qr cr pr, RPI w2 w2.heap.size F g wr qr cr pr ∧ Hid (dutiesS (k : Int) qr cr = (q', c')) ∧ kk = cr.left)
              case atStart => exact ⟨_, _, _, HPX.out, by unfold Hid; exact HST.out.symm, rfl⟩
              case round =>
                obtain ⟨qr, cr, pr, hpr, hd, hkk⟩ := hrel
                have HPR := Lib.hid hpr
                clear hpr
                cases hmo : cr.more
                · have hde := hd.out
                  rw [dutiesS_end hmo] at hde
                  simp only [Prod.mk.injEq] at hde
                  obtain ⟨rfl, rfl⟩ := hde
                  cases hcl : cr.close with
                  | none =>
                    rw [linesF_ok hst0.out hcl] at hlk
                    have HLK := Lib.hid hlk
                    have HCL := Lib.hid hcl
                    clear hlk hcl
                    go_wp2_with (first | (go_at_call 40; refine (rpi_More HPR.out).mono ?_; rintro e wm ⟨rfl, hm⟩; have HM := Lib.hid hm; clear hm) | (go_at_call 43; refine (rpi_Close_none HM.out HCL.out).mono ?_; rintro e w6 ⟨rfl, hp6⟩; have HP6 := Lib.hid hp6; clear hp6))
                    go_roundw
                    case rel => exact ⟨k + 1, _, pr, by omega, by go_num, HP6.out.alloc _, HQ.out.1, HQ.out.2.1, HQ.out.2.2, by unfold Hid; exact HLK.out⟩
                    case measure => simp [intOf]; omega
                  | some d =>
                    rw [linesF_bad hst0.out hcl] at hlk
                    have hr2 : res = (noSqd, [d]) := by rw [HRR.out, ← hlk]
                    have HR2 := Lib.hid hr2
                    have HCL := Lib.hid hcl
                    clear hlk hcl hr2
                    go_wp2_with (first | (go_at_call 40; refine (rpi_More HPR.out).mono ?_; rintro e wm ⟨rfl, hm⟩; have HM := Lib.hid hm; clear hm) | (go_at_call 43; refine (rpi_Close_some HM.out HCL.out).mono ?_; rintro e w6 ⟨rfl, hp6⟩; obtain ⟨r0, r1, r2, r3, f0, f1, f2, f3⟩ := (HK2.out.below hp6.bel hlt).four; obtain ⟨s0, s1, s2, s3, g0, g1, g2, g3⟩ := ((HK2.out.below hp6.bel hlt).alloc (Obj.cells #[.int .i64 d.line, .int .i64 d.col, .int .i64 d.code] 58)).four; obtain ⟨t0, t1, t2, t3, h0, h1, h2, h3⟩ := (((HK2.out.below hp6.bel hlt).alloc (Obj.cells #[.int .i64 d.line, .int .i64 d.col, .int .i64 d.code] 58)).alloc (Obj.cells #[.int .i64 d.line, .int .i64 d.col, .int .i64 d.code] 58)).four; have hl6 := hp6.lt; have HP6 := Lib.hid hp6; clear hp6))
                    go_region
                    all_goals go_wp2
                    all_goals first | (with_reducible refine rparse_some HR2.out rfl (HB2.out.trans (HP6.out.bel.mono ?_)) (HK2.out.below HP6.out.bel hlt) ?_ ?_ ?_) | (with_reducible refine rparse_some2 HR2.out rfl (HB2.out.trans (HP6.out.bel.mono ?_)) (HK2.out.below HP6.out.bel hlt) ?_ ?_ ?_)
                    all_goals first | (exact Nat.le_of_lt hlt) | rfl
                · have hds := hd.out
                  have hleft := (dutyS_left (k : Int) qr cr).1 hmo
                  rw [dutiesS_more hmo] at hds
                  unfold dutyS at hds hleft
                  obtain ⟨⟨c4, i⟩, ho⟩ : ∃ r, r = cr.oneOf [sCAPTAIN, sKEEPER] := ⟨_, rfl⟩
                  have hoi := ho.symm
                  rw [← ho] at hds hleft
                  simp only at hds hleft
                  have HO := Lib.hid hoi
                  clear ho hoi hd
                  by_cases h0 : i = 0
                  · rw [if_pos h0] at hds hleft
                    subst h0
                    by_cases hc0 : qr.cap = 0
                    · rw [if_neg (fun h => h hc0)] at hds hleft
                      have e1 : (qr.cap != 0) = false := by simp [hc0]
                      by_cases hkq : qr.kee = (k : Int)
                      · rw [if_pos hkq] at hds hleft
                        have e2 : (qr.kee == (k : Int)) = true := beq_iff_eq.2 hkq
                        clear hc0 hkq
                        have HDS := Lib.hid hds
                        have HL := Lib.hid hleft
                        clear hds hleft
                        go_wp2_with (first | (go_at_call 40; refine (rpi_More HPR.out).mono ?_; rintro e wm ⟨rfl, hm⟩; have HM := Lib.hid hm; clear hm) | (go_at_call 41; refine (rpi_OneOf HM.out HO.out).mono ?_; rintro e w4 ⟨rfl, hp4⟩; obtain ⟨_, _, z2, z3, _, _, f2, f3⟩ := hp4.cells; have HP4 := Lib.hid hp4; clear hp4) | (go_at_call 42; refine (rpi_Reject HP4.out 8).mono ?_; rintro e w5 ⟨rfl, hp5⟩; obtain ⟨_, _, x2, x3, _, _, j2, j3⟩ := hp5.cells; have HP5 := Lib.hid hp5; clear hp5))
                        go_roundg (c4.reject 8).left
                        case measure => rw [hkk]; exact HL.out
                        case rel => exact ⟨_, _, _, HP5.out.set_cap _, HDS.out, rfl⟩
                      · rw [if_neg hkq] at hds hleft
                        have e2 : (qr.kee == (k : Int)) = false := beq_eq_false_iff_ne.2 hkq
                        clear hc0 hkq
                        have HDS := Lib.hid hds
                        have HL := Lib.hid hleft
                        clear hds hleft
                        go_wp2_with (first | (go_at_call 40; refine (rpi_More HPR.out).mono ?_; rintro e wm ⟨rfl, hm⟩; have HM := Lib.hid hm; clear hm) | (go_at_call 41; refine (rpi_OneOf HM.out HO.out).mono ?_; rintro e w4 ⟨rfl, hp4⟩; obtain ⟨_, _, z2, z3, _, _, f2, f3⟩ := hp4.cells; have HP4 := Lib.hid hp4; clear hp4))
                        go_roundg c4.left
                        case measure => rw [hkk]; exact HL.out
                        case rel => exact ⟨_, _, _, HP4.out.set_cap _, HDS.out, rfl⟩
                    · rw [if_pos hc0] at hds hleft
                      have e1 : (qr.cap != 0) = true := by simp [hc0]
                      clear hc0
                      have HDS := Lib.hid hds
                      have HL := Lib.hid hleft
                      clear hds hleft
                      go_wp2_with (first | (go_at_call 40; refine (rpi_More HPR.out).mono ?_; rintro e wm ⟨rfl, hm⟩; have HM := Lib.hid hm; clear hm) | (go_at_call 41; refine (rpi_OneOf HM.out HO.out).mono ?_; rintro e w4 ⟨rfl, hp4⟩; obtain ⟨_, _, z2, z3, _, _, f2, f3⟩ := hp4.cells; have HP4 := Lib.hid hp4; clear hp4) | (go_at_call 42; refine (rpi_Reject HP4.out 7).mono ?_; rintro e w5 ⟨rfl, hp5⟩; obtain ⟨_, _, x2, x3, _, _, j2, j3⟩ := hp5.cells; have HP5 := Lib.hid hp5; clear hp5))
                      go_roundg (c4.reject 7).left
                      case measure => rw [hkk]; exact HL.out
                      case rel => exact ⟨_, _, _, HP5.out.set_cap _, HDS.out, rfl⟩
                  · rw [if_neg h0] at hds hleft
                    have e0 : (i == 0) = false := beq_eq_false_iff_ne.2 h0
                    by_cases h1 : i = 1
                    · rw [if_pos h1] at hds hleft
                      subst h1
                      by_cases hc0 : qr.kee = 0
                      · rw [if_neg (fun h => h hc0)] at hds hleft
                        have e1 : (qr.kee != 0) = false := by simp [hc0]
                        clear hc0
                        have HDS := Lib.hid hds
                        have HL := Lib.hid hleft
                        clear hds hleft
                        go_wp2_with (first | (go_at_call 40; refine (rpi_More HPR.out).mono ?_; rintro e wm ⟨rfl, hm⟩; have HM := Lib.hid hm; clear hm) | (go_at_call 41; refine (rpi_OneOf HM.out HO.out).mono ?_; rintro e w4 ⟨rfl, hp4⟩; obtain ⟨_, _, z2, z3, _, _, f2, f3⟩ := hp4.cells; have HP4 := Lib.hid hp4; clear hp4))
                        go_roundg c4.left
                        case measure => rw [hkk]; exact HL.out
                        case rel => exact ⟨_, _, _, HP4.out.set_kee _, HDS.out, rfl⟩
                      · rw [if_pos hc0] at hds hleft
                        have e1 : (qr.kee != 0) = true := by simp [hc0]
                        clear hc0
                        have HDS := Lib.hid hds
                        have HL := Lib.hid hleft
                        clear hds hleft
                        go_wp2_with (first | (go_at_call 40; refine (rpi_More HPR.out).mono ?_; rintro e wm ⟨rfl, hm⟩; have HM := Lib.hid hm; clear hm) | (go_at_call 41; refine (rpi_OneOf HM.out HO.out).mono ?_; rintro e w4 ⟨rfl, hp4⟩; obtain ⟨_, _, z2, z3, _, _, f2, f3⟩ := hp4.cells; have HP4 := Lib.hid hp4; clear hp4) | (go_at_call 42; refine (rpi_Reject HP4.out 7).mono ?_; rintro e w5 ⟨rfl, hp5⟩; obtain ⟨_, _, x2, x3, _, _, j2, j3⟩ := hp5.cells; have HP5 := Lib.hid hp5; clear hp5))
                        go_roundg (c4.reject 7).left
                        case measure => rw [hkk]; exact HL.out
                        case rel => exact ⟨_, _, _, HP5.out.set_kee _, HDS.out, rfl⟩
                    · rw [if_neg h1] at hds hleft
                      have e1 : (i == 1) = false := beq_eq_false_iff_ne.2 h1
                      clear h0 h1
                      have HDS := Lib.hid hds
                      have HL := Lib.hid hleft
                      clear hds hleft
                      go_wp2_with (first | (go_at_call 40; refine (rpi_More HPR.out).mono ?_; rintro e wm ⟨rfl, hm⟩; have HM := Lib.hid hm; clear hm) | (go_at_call 41; refine (rpi_OneOf HM.out HO.out).mono ?_; rintro e w4 ⟨rfl, hp4⟩; obtain ⟨_, _, z2, z3, _, _, f2, f3⟩ := hp4.cells; have HP4 := Lib.hid hp4; clear hp4))
                      go_roundg c4.left
                      case measure => rw [hkk]; exact HL.out
                      case rel => exact ⟨_, _, _, HP4.out, HDS.out, rfl⟩
        · have hke : k = ls.length := by omega
          have hqn2 : q.players.length ≤ k := by omega
          clear hqn
          have ho := hlf.out
          rw [List.drop_eq_nil_of_le (by omega), linesF] at ho
          have hr := HR.out
          rw [← ho] at hr
          simp only at hr
          obtain ⟨Ap, cp, rfl, hcp, hcp'⟩ := (HP.out.sq.2.sl elStr_good).shape
          obtain ⟨y0, y1, y2, y3, _⟩ := HP.out.sq.1.four
          have hck := rsq_Check q _ wr ((HP.out.sq.2.sl elStr_good).keep elStr_good (Same.refl _ _) fun b hb => hb.2) (by omega) (fun p hp => by have := HQL.out p hp; omega)
          unfold sqV at hck
          obtain ⟨e, he⟩ : ∃ e, e = checkS q := ⟨_, rfl⟩
          rw [← he] at hck hr
          have hwr := HP.out.lt
          have hbw : Below w.heap.size w wr := HB2.out.trans (HP.out.bel.mono (by omega))
          have HBW := Lib.hid hbw
          have HCK := Lib.hid hck
          clear hck ho hlf he hbw
          by_cases hz : e = 0
          · rw [if_neg (by simp [hz])] at hr
            subst hz
            have HRR := Lib.hid hr
            clear hr
            go_wp2_with (go_at_call 20; refine HCK.out.mono ?_; rintro x w9 ⟨rfl, hb9⟩; obtain ⟨z0, z1, z2, z3, _⟩ := (HP.out.sq.1.below hb9 hwr).four; obtain ⟨r0, r1, r2, r3, f0, f1, f2, f3⟩ := ((HK2.out.below HP.out.bel hlt).below hb9 (by omega)).four; have HB9 := Lib.hid hb9; clear hb9)
            have ho9 := put4_only w9 w.heap.size (.string (S q.name)) (.slice Ap q.players.length cp) (.int .i64 q.cap) (.int .i64 q.kee)
            have HO9 := Lib.hid ho9
            have hz9 := HB9.out.size
            clear ho9
            refine rparse_ret rfl rfl (((((HK2.out.below HP.out.bel hlt).below HB9.out (by omega)).set_ 0 _).set_ 1 _).set_ 2 _ |>.set_ 3 _) rfl ?_
            rw [HRR.out]
            have hsl := (HP.out.sq.2.below elStr_good HB9.out).sl elStr_good
            exact ⟨_, _, rfl, hsl.keep elStr_good (HO9.out.same fun b hb => ⟨hb.2, by omega⟩) (fun b hb => ⟨by omega, Nat.lt_of_lt_of_le hb.2 HO9.out.size⟩), Sl.nil _ _, (HBW.out.trans (HB9.out.mono (by omega))).trans (HO9.out.below (Nat.le_refl _) (by omega))⟩
          · rw [if_pos hz] at hr
            have e9 : (e != 0) = true := by simp [hz]
            have HRR := Lib.hid hr
            clear hr hz
            go_wp2_with (go_at_call 20; refine HCK.out.mono ?_; rintro x w9 ⟨rfl, hb9⟩; obtain ⟨r0, r1, r2, r3, f0, f1, f2, f3⟩ := ((HK2.out.below HP.out.bel hlt).below hb9 (by omega)).four; have hz9 := hb9.size; have hl9 : w.heap.size < w9.heap.size := Nat.lt_of_lt_of_le (Nat.lt_trans hlt hwr) hb9.size; have HB9 := Lib.hid hb9; clear hb9)
            exact rparse_ret rfl rfl ((((((HK2.out.below HP.out.bel hlt).below HB9.out (by omega)).set_ 0 _).set_ 1 _).set_ 2 _).set_ 3 _ |>.alloc _) rfl (parse_one HRR.out rfl (HBW.out.trans (HB9.out.mono (by omega))) (by omega) _ _ _ _ rfl)
  · rw [if_pos hds] at hres
    have HR := Lib.hid hres
    have hpos : 0 < ds.length := List.length_pos_iff.2 hds
    have d0 : (0 : Int) < ds.length := by omega
    clear hds hres
    go_enter Tryd.func15, Tryd.ntmps15
    go_wp2_with (go_at_call 36; refine HSP.out.mono ?_; rintro e w2 ⟨v, d, rfl, hv, hd, hb2, hk2⟩; obtain ⟨Av, cv, rfl, hcv, hcv'⟩ := hv.shape; obtain ⟨Ad, cd, rfl, hcd, hcd'⟩ := hd.shape; have hlt := hk2.lt; obtain ⟨r0, r1, r2, r3, f0, f1, f2, f3⟩ := hk2.four; have HB2 := Lib.hid hb2; have HK2 := Lib.hid hk2; have HD := Lib.hid hd; clear hb2 hk2 hv hd)
    have ho := put4_only w2 w.heap.size (.string ByteArray.empty) (.slice none 0 0) (.int .i64 0) (.int .i64 0)
    have HO := Lib.hid ho
    clear ho
    refine rparse_ret rfl rfl ((((HK2.out.set_ 0 _).set_ 1 _).set_ 2 _).set_ 3 _) rfl ?_
    rw [HR.out]
    exact ⟨.slice none 0 0, _, rfl, Sl.nil _ _, HD.out.keep elDia_good (HO.out.same fun b hb => ⟨hb.2, by omega⟩) (fun b hb => ⟨by omega, Nat.lt_of_lt_of_le hb.2 HO.out.size⟩), HB2.out.trans (HO.out.below (Nat.le_refl _) (by omega))⟩
end Go.Proofs.YtfljohhocgaheaaDoor
