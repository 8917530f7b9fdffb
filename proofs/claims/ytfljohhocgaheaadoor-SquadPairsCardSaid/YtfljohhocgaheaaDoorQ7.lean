/- The contract of squad.Parse. -/
import Derived.Test.YtfljohhocgaheaaDoorQ6
set_option linter.unusedSimpArgs false
set_option linter.unusedVariables false
namespace Go.Proofs.YtfljohhocgaheaaDoor
open Go.RowKit

set_option maxRecDepth 100000 in
set_option maxHeartbeats 4000000 in
theorem sq_Parse (s : ByteArray) (w : World) (hg : Glob w) (hs : s.size ≤ 140737488351232) :
    Calls Tryd.prog 14 #[.string s] w (ParsePost w (parseS s.data.toList)) := by
  obtain ⟨res, hres⟩ : ∃ r, r = parseS s.data.toList := ⟨_, rfl⟩
  rw [← hres]
  unfold parseS at hres
  have hok := splitS_ok s.data.toList
  obtain ⟨w0, hw0⟩ : ∃ x, x = w.alloc (.cells #[.string ByteArray.empty, .slice none 0 0, .int .i64 0, .int .i64 0] 24) := ⟨_, rfl⟩
  have hb0 : Below w.heap.size w w0 := by rw [hw0]; exact Below.alloc (Below.refl _ _) (Nat.le_refl _) _
  have hz0 : w0.heap.size = w.heap.size + 1 := by rw [hw0]; simp
  have hk0 : Blk w0 w.heap.size 24 #[.string ByteArray.empty, .slice none 0 0, .int .i64 0, .int .i64 0] := by rw [hw0]; exact Blk.new w _ _
  obtain ⟨⟨ls, ds⟩, hq⟩ : ∃ x, x = splitS s.data.toList := ⟨_, rfl⟩
  have hsp0 := text_Split s w0 (hg.below (hb0.mono (Nat.le_refl _))) hs
  have hsp : Calls Tryd.prog 30 #[.string s] w0 fun e w2 => ∃ v d, e = .returned (.tuple #[v, d]) ∧ Sl 2 elLin w2 (fun b => w.heap.size < b ∧ b < w2.heap.size) v ls ∧ Sl 3 elDia w2 (fun b => w.heap.size < b ∧ b < w2.heap.size) d ds ∧ Below w.heap.size w w2 ∧ Blk w2 w.heap.size 24 #[.string ByteArray.empty, .slice none 0 0, .int .i64 0, .int .i64 0] := by
    refine hsp0.mono ?_
    rintro e w2 ⟨v, d, rfl, hv, hd, hb2⟩
    rw [← hq] at hv hd
    exact ⟨v, d, rfl, hv.keep elLin_good (Same.refl _ _) (fun b hb => ⟨by have := hb.1; omega, hb.2⟩), hd.keep elDia_good (Same.refl _ _) (fun b hb => ⟨by have := hb.1; omega, hb.2⟩), hb0.trans (hb2.mono (by omega)), hk0.below hb2 (by omega)⟩
  rw [← hq] at hres hok
  rw [hw0] at hsp
  simp only at hres hok
  have HSP := Lib.hid hsp
  have HOK := Lib.hid hok
  clear hsp0 hsp hok hq hg hk0 hb0 hz0 hw0
  by_cases hds : ds = []
  · rw [if_neg (by simp [hds])] at hres
    subst hds
    by_cases hls : ls = []
    · rw [if_pos hls] at hres
      subst hls
      have HR := Lib.hid hres
      clear hres
      go_enter Tryd.func14, Tryd.ntmps14
      go_wp2_with (go_at_call 30; refine HSP.out.mono ?_; rintro e w2 ⟨v, d, rfl, hv, hd, hb2, hk2⟩; obtain ⟨Av, cv, rfl, hcv, hcv'⟩ := hv.shape; obtain ⟨Ad, cd, rfl, hcd, hcd'⟩ := hd.shape; have hlt := hk2.lt; obtain ⟨r0, r1, r2, r3, f0, f1, f2, f3⟩ := hk2.four; have HB2 := Lib.hid hb2; have HK2 := Lib.hid hk2; clear hb2 hk2 hv hd)
      exact parse_ret rfl rfl (((((HK2.out.set_ 0 _).set_ 1 _).set_ 2 _).set_ 3 _).alloc _) rfl (parse_one HR.out rfl HB2.out hlt _ _ _ _ rfl)
    · rw [if_neg hls] at hres
      have HR := Lib.hid hres
      have hpos : 0 < ls.length := List.length_pos_iff.2 hls
      have e0 : ((ls.length : Int) == 0) = false := beq_eq_false_iff_ne.2 (by omega)
      clear hres hls
      go_enter Tryd.func14, Tryd.ntmps14
      go_wp2_with (go_at_call 30; refine HSP.out.mono ?_; rintro e w2 ⟨v, d, rfl, hv, hd, hb2, hk2⟩; obtain ⟨Av, cv, rfl, hcv, hcv'⟩ := hv.shape; obtain ⟨Ad, cd, rfl, hcd, hcd'⟩ := hd.shape; have hlt := hk2.lt; have HB2 := Lib.hid hb2; have HK2 := Lib.hid hk2; have HV := Lib.hid hv; clear hb2 hk2 hv hd)
      have hz3 : (w2.alloc (.cells #[.string ByteArray.empty, .slice none 0 0, .int .i64 0, .int .i64 0] 24)).heap.size = w2.heap.size + 1 := by simp
      have hps : PS w2 w2.heap.size (w2.alloc (.cells #[.string ByteArray.empty, .slice none 0 0, .int .i64 0, .int .i64 0] 24)) noSqd (.slice none 0 0) := ⟨⟨Blk.new w2 _ _, OwnSl.nil _⟩, Below.alloc (Below.refl _ _) (Nat.le_refl _) _⟩
      have HPS := Lib.hid hps
      clear hps hz3
      go_loopw [31] (fun i wr => ∃ (k : Nat) (q : Sqd) (pv : Value), k ≤ ls.length ∧ i = .int .i64 k ∧ PS w2 w2.heap.size wr q pv ∧ q.players.length ≤ k ∧ (∀ p ∈ q.players, p.length ≤ 1000) ∧ q.name.length ≤ 1000 ∧ Hid (linesF (ls.drop k) k q = linesF ls 0 noSqd))
        (fun i _ => ls.length - (intOf i).toNat)
      case atStart => exact ⟨0, noSqd, _, Nat.zero_le _, rfl, HPS.out, Nat.le_refl _, by simp [noSqd], by simp [noSqd], rfl⟩
      case round =>
        obtain ⟨k, q, pv, hk, rfl, hp, hqn, hql, hqm, hlf⟩ := hrel
        have HP := Lib.hid hp
        have HQL := Lib.hid hql
        clear hp hql
        by_cases hlt2 : k < ls.length
        · obtain ⟨b, o, cs, rfl, hF, hcl, hcc, hel⟩ := HV.out.at hlt2
          have hox := HOK.out.1 _ (List.getElem_mem hlt2)
          have hlk := hlf.out
          rw [drop_get hlt2] at hlk
          obtain ⟨⟨xn, fs⟩, hx⟩ : ∃ x, x = ls[k] := ⟨_, rfl⟩
          rw [← hx] at hel hlk hox
          obtain ⟨fv, rfl, hfl⟩ := hel
          dsimp only at hfl hcc
          obtain ⟨A2, c2, rfl, hf1, hf2⟩ := hfl.shape
          have x0 : wr.cell? ⟨b, o + k * 2, none⟩ = some (.int .i64 xn) := (HP.out.bel.cell (p := ⟨b, o + k * 2, none⟩) hF.2).trans (hcc 0 _ rfl)
          have x1 : wr.cell? ⟨b, o + k * 2 + 1, none⟩ = some (.slice A2 fs.length c2) := (HP.out.bel.cell (p := ⟨b, o + k * 2 + 1, none⟩) hF.2).trans (hcc 1 _ rfl)
          obtain ⟨⟨q', c'⟩, hst⟩ : ∃ r, r = stepS ⟨xn, fs⟩ k q := ⟨_, rfl⟩
          have hsp := stepS_players ⟨xn, fs⟩ k q hox hqn HQL.out hqm
          rw [← hst] at hsp
          have HQ := Lib.hid hsp
          have hn6 : q.players.length ≤ 1000000 := by have := HOK.out.2.1; omega
          have HFL := Lib.hid hfl
          have HOX := Lib.hid hox
          have HL0 : Hid (∀ f ∈ (Cur.start ⟨xn, fs⟩).fields, f.text.length ≤ 1000) := hox.2
          have HRR := HR
          clear hsp hfl hcc hx hox hcl hF hlf HR
          cases hcl : c'.close with
          | none =>
            rw [linesF_ok hst.symm hcl] at hlk
            have HLK := Lib.hid hlk
            have HCL := Lib.hid hcl
            clear hlk hcl
            by_cases hk0 : k = 0
            · have e1 : ((k : Int) == 0) = true := by rw [hk0]; rfl
              unfold stepS at hst
              rw [if_pos hk0] at hst
              obtain ⟨c1, hc1⟩ : ∃ x, x = ((Cur.start ⟨xn, fs⟩).keyword sSIDE).1 := ⟨_, rfl⟩
              rw [← hc1] at hst
              obtain ⟨⟨c2', t⟩, hid⟩ : ∃ x, x = c1.ident := ⟨_, rfl⟩
              rw [← hid] at hst
              simp only [Prod.mk.injEq] at hst
              obtain ⟨rfl, rfl⟩ := hst
              have HL1 : Hid (∀ f ∈ c1.fields, f.text.length ≤ 1000) := by unfold Hid; rw [hc1, Cur.keyword_fields]; exact HL0.out
              have HKW := Lib.hid hc1.symm
              have HID := Lib.hid hid.symm
              clear hc1 hid hk0
              go_wp2_with (first | (go_at_call 31; refine (ps_At (HP.out.alloc _) ⟨xn, fs⟩ _ _ (HFL.out.keep elFld_good (Same.below (HP.out.alloc _).bel fun b hb => hb.2) fun _ h => h) (fun b hb => by have := HP.out.lt; simp; omega) HOX.out).mono ?_; rintro e w3 ⟨g, F, rfl, hc3, hp3, hg3, hpg3, hFG3, hFp3⟩; have HC3 := Lib.hid hc3; have HP3 := Lib.hid hp3; have HPG := Lib.hid hpg3; have HFG := Lib.hid hFG3; have HFP := Lib.hid hFp3; clear hc3 hp3 hpg3 hFG3 hFp3) | (go_at_call 32; refine (ps_Keyword HP3.out HC3.out hg3 HPG.out ⟨#[83, 73, 68, 69]⟩ HKW.out).mono ?_; rintro e w4 ⟨⟨bk, rfl⟩, hc4, hp4⟩; have HC4 := Lib.hid hc4; have HP4 := Lib.hid hp4; clear hc4 hp4) | (go_at_call 33; refine (ps_Ident HP4.out HC4.out hg3 HPG.out HL1.out HID.out).mono ?_; rintro e w5 ⟨rfl, hc5, hp5⟩; have y0 := hp5.sq.1.cell 0; have yf := hp5.sq.1.frozen 0; simp only [List.getElem?_toArray, List.getElem?_cons_zero, List.getElem?_cons_succ] at y0; have HC5 := Lib.hid (hc5.far (Nat.ne_of_lt hg3) HFG.out ⟨w2.heap.size, 0, none⟩ rfl (.string (S t))); have HP5 := Lib.hid (hp5.set_name t); clear hc5 hp5) | (go_at_call 35; refine (ps_Close_none HP5.out HC5.out HCL.out).mono ?_; rintro e w6 ⟨rfl, hp6⟩; have HP6 := Lib.hid hp6; clear hp6))
              go_roundw
              case rel => exact ⟨k + 1, _, pv, by omega, by go_num, HP6.out.alloc _, HQ.out.1, HQ.out.2.1, HQ.out.2.2, by unfold Hid; exact HLK.out⟩
              case measure => simp [intOf]; omega
            · have e1 : ((k : Int) == 0) = false := beq_eq_false_iff_ne.2 (by omega)
              unfold stepS at hst
              rw [if_neg hk0] at hst
              have HST := Lib.hid hst.symm
              clear hst hk0
              go_wp2_with (first | (go_at_call 31; refine (ps_At (HP.out.alloc _) ⟨xn, fs⟩ _ _ (HFL.out.keep elFld_good (Same.below (HP.out.alloc _).bel fun b hb => hb.2) fun _ h => h) (fun b hb => by have := HP.out.lt; simp; omega) HOX.out).mono ?_; rintro e w3 ⟨g, F, rfl, hc3, hp3, hg3, hpg3, hFG3, hFp3⟩; have HC3 := Lib.hid hc3; have HP3 := Lib.hid hp3; have HPG := Lib.hid hpg3; have HFG := Lib.hid hFG3; have HFP := Lib.hid hFp3; clear hc3 hp3 hpg3 hFG3 hFp3) | (go_at_call 34; refine (ps_player HP3.out HC3.out hg3 HFG.out HFP.out HL0.out hn6 HST.out).mono ?_; rintro e w5 ⟨rfl, ⟨pv5, hp5⟩, hc5⟩; have HC5 := Lib.hid hc5; have HP5 := Lib.hid hp5; clear hc5 hp5) | (go_at_call 35; refine (ps_Close_none HP5.out HC5.out HCL.out).mono ?_; rintro e w6 ⟨rfl, hp6⟩; have HP6 := Lib.hid hp6; clear hp6))
              go_roundw
              case rel => exact ⟨k + 1, _, pv5, by omega, by go_num, HP6.out.alloc _, HQ.out.1, HQ.out.2.1, HQ.out.2.2, by unfold Hid; exact HLK.out⟩
              case measure => simp [intOf]; omega
          | some d =>
            rw [linesF_bad hst.symm hcl] at hlk
            have hr2 : res = (noSqd, [d]) := by rw [HRR.out, ← hlk]
            have HR2 := Lib.hid hr2
            have HCL := Lib.hid hcl
            clear hlk hcl hr2
            by_cases hk0 : k = 0
            · have e1 : ((k : Int) == 0) = true := by rw [hk0]; rfl
              unfold stepS at hst
              rw [if_pos hk0] at hst
              obtain ⟨c1, hc1⟩ : ∃ x, x = ((Cur.start ⟨xn, fs⟩).keyword sSIDE).1 := ⟨_, rfl⟩
              rw [← hc1] at hst
              obtain ⟨⟨c2', t⟩, hid⟩ : ∃ x, x = c1.ident := ⟨_, rfl⟩
              rw [← hid] at hst
              simp only [Prod.mk.injEq] at hst
              obtain ⟨rfl, rfl⟩ := hst
              have HL1 : Hid (∀ f ∈ c1.fields, f.text.length ≤ 1000) := by unfold Hid; rw [hc1, Cur.keyword_fields]; exact HL0.out
              have HKW := Lib.hid hc1.symm
              have HID := Lib.hid hid.symm
              clear hc1 hid hk0
              go_wp2_with (first | (go_at_call 31; refine (ps_At (HP.out.alloc _) ⟨xn, fs⟩ _ _ (HFL.out.keep elFld_good (Same.below (HP.out.alloc _).bel fun b hb => hb.2) fun _ h => h) (fun b hb => by have := HP.out.lt; simp; omega) HOX.out).mono ?_; rintro e w3 ⟨g, F, rfl, hc3, hp3, hg3, hpg3, hFG3, hFp3⟩; have HC3 := Lib.hid hc3; have HP3 := Lib.hid hp3; have HPG := Lib.hid hpg3; have HFG := Lib.hid hFG3; have HFP := Lib.hid hFp3; clear hc3 hp3 hpg3 hFG3 hFp3) | (go_at_call 32; refine (ps_Keyword HP3.out HC3.out hg3 HPG.out ⟨#[83, 73, 68, 69]⟩ HKW.out).mono ?_; rintro e w4 ⟨⟨bk, rfl⟩, hc4, hp4⟩; have HC4 := Lib.hid hc4; have HP4 := Lib.hid hp4; clear hc4 hp4) | (go_at_call 33; refine (ps_Ident HP4.out HC4.out hg3 HPG.out HL1.out HID.out).mono ?_; rintro e w5 ⟨rfl, hc5, hp5⟩; have y0 := hp5.sq.1.cell 0; have yf := hp5.sq.1.frozen 0; simp only [List.getElem?_toArray, List.getElem?_cons_zero, List.getElem?_cons_succ] at y0; have HC5 := Lib.hid (hc5.far (Nat.ne_of_lt hg3) HFG.out ⟨w2.heap.size, 0, none⟩ rfl (.string (S t))); have HP5 := Lib.hid (hp5.set_name t); clear hc5 hp5) | (go_at_call 35; refine (ps_Close_some HP5.out HC5.out HCL.out).mono ?_; rintro e w6 ⟨rfl, hp6⟩; obtain ⟨r0, r1, r2, r3, f0, f1, f2, f3⟩ := (HK2.out.below hp6.bel hlt).four; obtain ⟨s0, s1, s2, s3, g0, g1, g2, g3⟩ := ((HK2.out.below hp6.bel hlt).alloc (Obj.cells #[.int .i64 d.line, .int .i64 d.col, .int .i64 d.code] 58)).four; obtain ⟨t0, t1, t2, t3, h0, h1, h2, h3⟩ := (((HK2.out.below hp6.bel hlt).alloc (Obj.cells #[.int .i64 d.line, .int .i64 d.col, .int .i64 d.code] 58)).alloc (Obj.cells #[.int .i64 d.line, .int .i64 d.col, .int .i64 d.code] 58)).four; have hl6 := hp6.lt; have HP6 := Lib.hid hp6; clear hp6))
              go_region
              all_goals go_wp2
              all_goals first | (with_reducible refine parse_some HR2.out rfl (HB2.out.trans (HP6.out.bel.mono ?_)) (HK2.out.below HP6.out.bel hlt) ?_ ?_ ?_) | (with_reducible refine parse_some2 HR2.out rfl (HB2.out.trans (HP6.out.bel.mono ?_)) (HK2.out.below HP6.out.bel hlt) ?_ ?_ ?_)
              all_goals first | (exact Nat.le_of_lt hlt) | rfl
            · have e1 : ((k : Int) == 0) = false := beq_eq_false_iff_ne.2 (by omega)
              unfold stepS at hst
              rw [if_neg hk0] at hst
              have HST := Lib.hid hst.symm
              clear hst hk0
              go_wp2_with (first | (go_at_call 31; refine (ps_At (HP.out.alloc _) ⟨xn, fs⟩ _ _ (HFL.out.keep elFld_good (Same.below (HP.out.alloc _).bel fun b hb => hb.2) fun _ h => h) (fun b hb => by have := HP.out.lt; simp; omega) HOX.out).mono ?_; rintro e w3 ⟨g, F, rfl, hc3, hp3, hg3, hpg3, hFG3, hFp3⟩; have HC3 := Lib.hid hc3; have HP3 := Lib.hid hp3; have HPG := Lib.hid hpg3; have HFG := Lib.hid hFG3; have HFP := Lib.hid hFp3; clear hc3 hp3 hpg3 hFG3 hFp3) | (go_at_call 34; refine (ps_player HP3.out HC3.out hg3 HFG.out HFP.out HL0.out hn6 HST.out).mono ?_; rintro e w5 ⟨rfl, ⟨pv5, hp5⟩, hc5⟩; have HC5 := Lib.hid hc5; have HP5 := Lib.hid hp5; clear hc5 hp5) | (go_at_call 35; refine (ps_Close_some HP5.out HC5.out HCL.out).mono ?_; rintro e w6 ⟨rfl, hp6⟩; obtain ⟨r0, r1, r2, r3, f0, f1, f2, f3⟩ := (HK2.out.below hp6.bel hlt).four; obtain ⟨s0, s1, s2, s3, g0, g1, g2, g3⟩ := ((HK2.out.below hp6.bel hlt).alloc (Obj.cells #[.int .i64 d.line, .int .i64 d.col, .int .i64 d.code] 58)).four; obtain ⟨t0, t1, t2, t3, h0, h1, h2, h3⟩ := (((HK2.out.below hp6.bel hlt).alloc (Obj.cells #[.int .i64 d.line, .int .i64 d.col, .int .i64 d.code] 58)).alloc (Obj.cells #[.int .i64 d.line, .int .i64 d.col, .int .i64 d.code] 58)).four; have hl6 := hp6.lt; have HP6 := Lib.hid hp6; clear hp6))
              go_region
              all_goals go_wp2
              all_goals first | (with_reducible refine parse_some HR2.out rfl (HB2.out.trans (HP6.out.bel.mono ?_)) (HK2.out.below HP6.out.bel hlt) ?_ ?_ ?_) | (with_reducible refine parse_some2 HR2.out rfl (HB2.out.trans (HP6.out.bel.mono ?_)) (HK2.out.below HP6.out.bel hlt) ?_ ?_ ?_)
              all_goals first | (exact Nat.le_of_lt hlt) | rfl
        · have hke : k = ls.length := by omega
          have ho := hlf.out
          rw [List.drop_eq_nil_of_le (by omega), linesF] at ho
          have hr := HR.out
          rw [← ho] at hr
          simp only at hr
          obtain ⟨Ap, cp, rfl, hcp, hcp'⟩ := (HP.out.sq.2.sl elStr_good).shape
          obtain ⟨y0, y1, y2, y3, _⟩ := HP.out.sq.1.four
          have hck := sq_Check q _ wr ((HP.out.sq.2.sl elStr_good).keep elStr_good (Same.refl _ _) fun b hb => hb.2) (by omega) (fun p hp => by have := HQL.out p hp; omega)
          unfold sqV at hck
          obtain ⟨e, he⟩ : ∃ e, e = checkS q := ⟨_, rfl⟩
          rw [← he] at hck hr
          have hwr := HP.out.lt
          have hbw : Below w.heap.size w wr := HB2.out.trans (HP.out.bel.mono (by omega))
          have HBW := Lib.hid hbw
          have HCK := Lib.hid hck
          clear hck ho hlf he hbw
          by_cases hz : e = 0
          · rw [if_neg (by simp [hz])] at hr
            subst hz
            have HRR := Lib.hid hr
            clear hr
            go_wp2_with (go_at_call 18; refine HCK.out.mono ?_; rintro x w9 ⟨rfl, hb9⟩; obtain ⟨z0, z1, z2, z3, _⟩ := (HP.out.sq.1.below hb9 hwr).four; obtain ⟨r0, r1, r2, r3, f0, f1, f2, f3⟩ := ((HK2.out.below HP.out.bel hlt).below hb9 (by omega)).four; have HB9 := Lib.hid hb9; clear hb9)
            have ho9 := put4_only w9 w.heap.size (.string (S q.name)) (.slice Ap q.players.length cp) (.int .i64 q.cap) (.int .i64 q.kee)
            have HO9 := Lib.hid ho9
            have hz9 := HB9.out.size
            clear ho9
            refine parse_ret rfl rfl (((((HK2.out.below HP.out.bel hlt).below HB9.out (by omega)).set_ 0 _).set_ 1 _).set_ 2 _ |>.set_ 3 _) rfl ?_
            rw [HRR.out]
            have hsl := (HP.out.sq.2.below elStr_good HB9.out).sl elStr_good
            exact ⟨_, _, rfl, hsl.keep elStr_good (HO9.out.same fun b hb => ⟨hb.2, by omega⟩) (fun b hb => ⟨by omega, Nat.lt_of_lt_of_le hb.2 HO9.out.size⟩), Sl.nil _ _, (HBW.out.trans (HB9.out.mono (by omega))).trans (HO9.out.below (Nat.le_refl _) (by omega))⟩
          · rw [if_pos hz] at hr
            have e9 : (e != 0) = true := by simp [hz]
            have HRR := Lib.hid hr
            clear hr hz
            go_wp2_with (go_at_call 18; refine HCK.out.mono ?_; rintro x w9 ⟨rfl, hb9⟩; obtain ⟨r0, r1, r2, r3, f0, f1, f2, f3⟩ := ((HK2.out.below HP.out.bel hlt).below hb9 (by omega)).four; have hz9 := hb9.size; have hl9 : w.heap.size < w9.heap.size := Nat.lt_of_lt_of_le (Nat.lt_trans hlt hwr) hb9.size; have HB9 := Lib.hid hb9; clear hb9)
            exact parse_ret rfl rfl ((((((HK2.out.below HP.out.bel hlt).below HB9.out (by omega)).set_ 0 _).set_ 1 _).set_ 2 _).set_ 3 _ |>.alloc _) rfl (parse_one HRR.out rfl (HBW.out.trans (HB9.out.mono (by omega))) (by omega) _ _ _ _ rfl)
  · rw [if_pos hds] at hres
    have HR := Lib.hid hres
    have hpos : 0 < ds.length := List.length_pos_iff.2 hds
    have d0 : (0 : Int) < ds.length := by omega
    clear hds hres
    go_enter Tryd.func14, Tryd.ntmps14
    go_wp2_with (go_at_call 30; refine HSP.out.mono ?_; rintro e w2 ⟨v, d, rfl, hv, hd, hb2, hk2⟩; obtain ⟨Av, cv, rfl, hcv, hcv'⟩ := hv.shape; obtain ⟨Ad, cd, rfl, hcd, hcd'⟩ := hd.shape; have hlt := hk2.lt; obtain ⟨r0, r1, r2, r3, f0, f1, f2, f3⟩ := hk2.four; have HB2 := Lib.hid hb2; have HK2 := Lib.hid hk2; have HD := Lib.hid hd; clear hb2 hk2 hv hd)
    have ho := put4_only w2 w.heap.size (.string ByteArray.empty) (.slice none 0 0) (.int .i64 0) (.int .i64 0)
    have HO := Lib.hid ho
    clear ho
    refine parse_ret rfl rfl ((((HK2.out.set_ 0 _).set_ 1 _).set_ 2 _).set_ 3 _) rfl ?_
    rw [HR.out]
    exact ⟨.slice none 0 0, _, rfl, Sl.nil _ _, HD.out.keep elDia_good (HO.out.same fun b hb => ⟨hb.2, by omega⟩) (fun b hb => ⟨by omega, Nat.lt_of_lt_of_le hb.2 HO.out.size⟩), HB2.out.trans (HO.out.below (Nat.le_refl _) (by omega))⟩
end Go.Proofs.YtfljohhocgaheaaDoor
