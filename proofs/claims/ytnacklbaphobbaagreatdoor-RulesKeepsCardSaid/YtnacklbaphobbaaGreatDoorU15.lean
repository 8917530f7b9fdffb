/- The contract of the reference's Text. Conditions: the rules can be read, the name is not great. -/
import Derived.Test.YtnacklbaphobbaaGreatDoorU14
import Derived.Test.YtnacklbaphobbaaGreatDoorU13
import Derived.Test.YtnacklbaphobbaaGreatDoorU4
import Derived.Test.YtnacklbaphobbaaGreatDoorF3
set_option linter.unusedSimpArgs false
set_option linter.unusedVariables false
namespace Go.Proofs.YtnacklbaphobbaaGreatDoor
open Go.RowKit

def kWords : List (List UInt8) := [kRULES, kSIDE, kINNINGS, kOVERS, kBALLS, kQUOTA, kRUNS, kFREEHIT, kNEWBALL, kFOLLOWON, kREVIEWS, kOUTSIDE]
def WordsPost (w : World) (e : Ending) (w' : World) : Prop := ∃ c, e = .returned (.slice (some ⟨w.heap.size, 0, none⟩) 12 c) ∧ Sl 1 elStr w' (Fr w.heap.size w') (.slice (some ⟨w.heap.size, 0, none⟩) 12 c) kWords ∧ Below w.heap.size w w'
set_option maxRecDepth 100000 in
theorem ref_words (w : World) : Calls Tryz.prog 43 #[] w (WordsPost w) := by
  have hs := strs_lit w w.heap.size (Nat.le_refl _) kWords 9 (by decide)
  have HS := Lib.hid hs
  clear hs
  go_enter Tryz.func43, Tryz.ntmps43
  go_wp2
  go_ret
  exact ⟨12, rfl, HS.out, Below.alloc (Below.refl _ _) (Nat.le_refl _) _⟩
/-- The line k of the head: its keyword and its values. -/
theorem head_at (r : Rul) : ∀ k (h : k < 12), headLines r = (headLines r).take k ++ lineR (kWords[k]'h :: (headVals r)[k]'h) :: (headLines r).drop (k + 1) ∧ 0 < ((headVals r)[k]'h).length ∧ ((headVals r)[k]'h).length ≤ 2 := by
  intro k h
  match k, h with
  | 0, _ => exact ⟨rfl, Nat.le_of_ble_eq_true rfl, Nat.le_of_ble_eq_true rfl⟩
  | 1, _ => exact ⟨rfl, Nat.le_of_ble_eq_true rfl, Nat.le_of_ble_eq_true rfl⟩
  | 2, _ => exact ⟨rfl, Nat.le_of_ble_eq_true rfl, Nat.le_of_ble_eq_true rfl⟩
  | 3, _ => exact ⟨rfl, Nat.le_of_ble_eq_true rfl, Nat.le_of_ble_eq_true rfl⟩
  | 4, _ => exact ⟨rfl, Nat.le_of_ble_eq_true rfl, Nat.le_of_ble_eq_true rfl⟩
  | 5, _ => exact ⟨rfl, Nat.le_of_ble_eq_true rfl, Nat.le_of_ble_eq_true rfl⟩
  | 6, _ => exact ⟨rfl, Nat.le_of_ble_eq_true rfl, Nat.le_of_ble_eq_true rfl⟩
  | 7, _ => exact ⟨rfl, Nat.le_of_ble_eq_true rfl, Nat.le_of_ble_eq_true rfl⟩
  | 8, _ => exact ⟨rfl, Nat.le_of_ble_eq_true rfl, Nat.le_of_ble_eq_true rfl⟩
  | 9, _ => exact ⟨rfl, Nat.le_of_ble_eq_true rfl, Nat.le_of_ble_eq_true rfl⟩
  | 10, _ => exact ⟨rfl, Nat.le_of_ble_eq_true rfl, Nat.le_of_ble_eq_true rfl⟩
  | 11, _ => exact ⟨rfl, Nat.le_of_ble_eq_true rfl, Nat.le_of_ble_eq_true rfl⟩
theorem head_take (r : Rul) (k : Nat) (h : k < 12) : (headLines r).take (k + 1) = (headLines r).take k ++ [lineR (kWords[k]'h :: (headVals r)[k]'h)] := by
  match k, h with
  | 0, _ => rfl
  | 1, _ => rfl
  | 2, _ => rfl
  | 3, _ => rfl
  | 4, _ => rfl
  | 5, _ => rfl
  | 6, _ => rfl
  | 7, _ => rfl
  | 8, _ => rfl
  | 9, _ => rfl
  | 10, _ => rfl
  | 11, _ => rfl
theorem shape12 {r : Rul} {w : World} {F : Nat → Prop} {v : Value} (h : Sl 1 elStrs w F v (headVals r)) : ∃ A c, v = .slice A 12 c := by
  obtain ⟨A, c, h1, _⟩ := h.shape
  exact ⟨A, c, h1⟩
theorem rpow_dec (n : Int) (h0 : 0 ≤ n) (h1 : n ≤ 10000) {w0 W : World} {v : Value} {out : List Lin} {bx : Nat} {p : Pha} (h : PowAt w0 W v out bx p) :
    Calls Tryz.prog 42 #[.int .i64 n] W fun e w' => e = .returned (.string (S (decW n))) ∧ PowAt w0 w' v out bx p := by
  refine (ref_dec n W h0 h1).mono ?_
  rintro e w' ⟨rfl, rfl⟩
  exact ⟨rfl, h⟩
theorem rpow_line (a b c : List UInt8) {w0 W : World} {v : Value} {out : List Lin} {bx : Nat} {p : Pha} (h : PowAt w0 W v out bx p) (he : lineR [kPOWER, a, b, c] = powLine p) :
    Calls Tryz.prog 44 #[.slice (some ⟨W.heap.size, 0, none⟩) 4 4] (W.alloc (.cells #[.string ⟨#[80, 79, 87, 69, 82]⟩, .string (S a), .string (S b), .string (S c)] 9)) fun e w' => ∃ A n c, e = .returned (.agg #[.int .i64 0, .slice A n c]) ∧ LineAt w0 w' v out bx p A n c := by
  obtain ⟨h1, h2⟩ := h.words [kPOWER, a, b, c] (by simp [maxLen])
  refine (ref_line [kPOWER, a, b, c] _ _ _ h2 (fun b hb => hb) (by simp)).mono ?_
  rintro e w' ⟨A, n, c', rfl, hs, hb⟩
  refine ⟨A, n, c', rfl, h1.below hb, fun o => ?_⟩
  rw [← he]
  exact h1.inv.fields_el hb hs o
theorem rwrite_rows {r : Rul} {w0 wr : World} {v : Value} {out : List Lin} (h : SplitInv w0.heap.size w0 wr v noD out []) (ho : out = rulLines r) (hl : (writeS (rulLines r)).length ≤ 1700) :
    Calls Tryz.prog 45 #[v] wr fun e w' => e = .returned (.string (S (writeS (rulLines r)))) ∧ Below wr.heap.size wr w' := by
  rw [← ho] at hl ⊢
  exact ref_Write v out wr (rows_sl h) (Nat.le_trans hl (by decide))
/-- The words of a line of the head: the keyword's slice, to which the values are appended. -/
theorem kw_row (w : World) (t : List UInt8) (G : Nat → Prop) : OwnG 1 elStr 9 w.heap.size (w.alloc (.cells #[.string (S t)] 9)) (.slice (some ⟨w.heap.size, 0, none⟩) 1 1) G [t] := by
  have h : OwnSl 1 elStr 9 w.heap.size (w.alloc (.cells [[Value.string (S t)]].flatten.toArray 9)) (.slice (some ⟨w.heap.size, 0, none⟩) [t].length [t].length) [t] :=
    own_lit w [[.string (S t)]] [t] rfl (by intro cs h; simp at h; subst h; rfl) (by simp [maxLen]) fun i x cs h1 h2 => by
      have hlt := (List.getElem?_eq_some_iff.1 h1).1
      have : i = 0 := by simp at hlt; exact hlt
      subst this
      simp at h1 h2; subst h1; subst h2; rfl
  exact h
theorem elStr_one : ∀ w F cs x, elStr w F cs x → ∀ u ∈ cs, u.oneCell' = true := by
  rintro w F cs x rfl
  exact oneCells rfl
theorem own_any {base e : Nat} {w : World} {v : Value} {G G' : Nat → Prop} {l : List (List UInt8)} (h : OwnG 1 elStr e base w v G l) : OwnG 1 elStr e base w v G' l := h
def kwMade (wr : World) (ws : List (List UInt8)) (v5 : Value) (w5 : World) : Prop := Sl 1 elStr w5 (· < w5.heap.size) v5 ws ∧ Below wr.heap.size wr w5
theorem kw_made {wr w5 : World} {t : List UInt8} {vs : List (List UInt8)} {G : Nat → Prop} {v5 : Value} (ho : OwnG 1 elStr 9 wr.heap.size w5 v5 G ([t] ++ vs)) (hg : (wr.alloc (.cells #[.string (S t)] 9)).grownBy w5 (some wr.heap.size)) : kwMade wr (t :: vs) v5 w5 := by
  refine ⟨(own_any ho : OwnG 1 elStr _ _ _ _ NoG _).sl elStr_good (fun b h => h.elim) fun b _ h => h, ?_⟩
  exact Below.grown (Below.alloc (Below.refl wr.heap.size wr) (Nat.le_refl _) _) hg (by simp) fun k hk => by simp at hk; omega
theorem line_made {w0 wr w5 w6 : World} {v : Value} {out : List Lin} {t : List UInt8} {vs : List (List UInt8)} {A : Option Addr} {n c : Nat} (h : SplitInv w0.heap.size w0 wr v noD out []) (h5 : Below wr.heap.size wr w5) (h6 : Below w5.heap.size w5 w6)
    (hs : Sl 3 elFld w6 (fun b => w5.heap.size ≤ b ∧ b < w6.heap.size) (.slice A n c) ((t :: vs).map wordF)) : SplitInv w0.heap.size w0 w6 v noD out [] ∧ ∀ o, elLin (w6.alloc o) (lineG w0.heap.size (w6.alloc o) v noD) [.int .i64 0, .slice A n c] (lineR (t :: vs)) :=
  ⟨(h.below h5).below h6, fun o => (h.below h5).fields_el h6 hs o⟩
set_option maxRecDepth 100000 in
set_option maxHeartbeats 4000000 in
theorem ref_RText (r : Rul) (pv : Value) (w : World) (h : Sl 3 elPha w (· < w.heap.size) pv r.power) (hn : r.name.length ≤ 1000000000) :
    Calls Tryz.prog 22 #[rulV r pv] w (TextPost w (textR r)) := by
  obtain ⟨res, hres⟩ : ∃ x, x = textR r := ⟨_, rfl⟩
  rw [← hres]
  obtain ⟨A, c, rfl, hc, hc2⟩ := h.shape
  have hA := RulAt.new h
  have hb0 : Below w.heap.size w (w.alloc (.cells (rulCells r (.slice A r.power.length c)) 24)) := Below.alloc (Below.refl _ _) (Nat.le_refl _) _
  obtain ⟨W, hW⟩ : ∃ W, W = w.alloc (.cells (rulCells r (.slice A r.power.length c)) 24) := ⟨_, rfl⟩
  rw [← hW] at hA hb0
  have kc : Calls Tryz.prog 13 #[rulV r (.slice A r.power.length c)] W fun e w' => e = .returned (.int .i64 (checkR r)) ∧ Below w.heap.size w w' ∧ RulAt w' w.heap.size r (.slice A r.power.length c) := by
    refine (ref_RCheck r _ W hA.sl hn).mono ?_
    rintro e w' ⟨rfl, hb⟩
    exact ⟨rfl, hb0.trans (hb.mono hb0.size), hA.below hb⟩
  rw [hW] at kc
  by_cases hc0 : checkR r = 0
  · have hres' : res = (writeS (rulLines r), 0) := by rw [hres, textR_ok hc0]
    have hR := rulInts_ok hc0
    have hl := rulText_len hc0
    obtain ⟨_, _, h8, hsm⟩ := checkR_ok hc0
    rw [hc0] at kc
    unfold rulV rulCells at kc
    have KC := Lib.hid kc
    have HR := Lib.hid hR
    have HRES := Lib.hid hres'
    have HL := Lib.hid hl
    have HSM := Lib.hid hsm
    clear kc hR hres' hres hl hsm hA h hb0 hc0 hn hW
    clear W
    unfold rulV rulCells
    go_enter Tryz.func22, Tryz.ntmps22
    go_wp2_with (go_at_call 13; refine KC.out.mono ?_; rintro e w1 ⟨rfl, hb1, hr1⟩; have x8 : w1.cell? ⟨w.heap.size, 8, none⟩ = some (.bool r.free) := hr1.blk.cell 8; have HB1 := Lib.hid hb1; have HR1 := Lib.hid hr1; clear hb1 hr1)
    all_goals
      refine wp_region_at (by kernel_rfl : _ = rxOps) (by kernel_rfl) (rx_free (g := w.heap.size) (pv := .slice A r.power.length c) HR.out) (of_decide_eq_true (by kernel_rfl)) ⟨HR1.out, Below.refl _ _⟩ (fun d hd => ?_) ?_
      · simp only [List.mem_cons, List.not_mem_nil, or_false] at hd
        rcases hd with rfl | rfl
        · exact ⟨_, rfl, rfl⟩
        · refine ⟨_, rfl, ?_⟩
          show _ = Value.string (S (freeW r.free))
          first | (rw [show r.free = true by assumption]; rfl) | (rw [show r.free = false by simp_all]; rfl)
      · rintro ⟨⟨l⟩, df⟩ wx hin
        obtain ⟨v7, hv7, hs7⟩ := holds_strss (hin.at 49 6 (by kernel_rfl)) rfl
        have hk1 := hin.kept 1 (by kernel_rfl)
        have hsz : l.length = 111 := hin.size
        have hdf : df = [] := hin.dfr
        have hgx := hin.g
        have HS7 := Lib.hid hs7
        have HGX := Lib.hid hgx
        clear hin hs7 hgx
        subst hdf
        dsimp only at hv7 hk1
        iterate 111 (obtain ⟨_, t, e, h2⟩ := list_cons hsz; clear hsz; subst e; have hsz := h2; clear h2)
        have e0 := List.eq_nil_of_length_eq_zero hsz
        clear hsz
        subst e0
        simp only [List.getElem?_toArray, List.getElem?_cons_zero, List.getElem?_cons_succ, Option.some.injEq] at hv7 hk1
        subst hv7 hk1
        clear x8
        obtain ⟨Av, cv, rfl⟩ := shape12 HS7.out
        have HBX := Lib.hid (HB1.out.trans (HGX.out.bel.mono HB1.out.size))
        go_wp2_with (go_at_call 43; refine (ref_words _).mono ?_; rintro e w2 ⟨cw, rfl, hws, hb2⟩; have HW := Lib.hid hws; have HV := Lib.hid (Sl.fr elStrs_good HS7.out hb2); have HR2 := Lib.hid (HGX.out.lies.below hb2); have HB2 := Lib.hid (HBX.out.trans (hb2.mono HBX.out.size)); clear hws hb2)
        go_loopw [7, 70] (fun v i wr => ∃ k : Nat, k ≤ 12 ∧ i = .int .i64 k ∧ SplitInv w2.heap.size w2 wr v noD ((headLines r).take k) [] ∧ (∃ A n c, v = .slice A n c))
          (fun _ i _ => 12 - (intOf i).toNat)
        case atStart => exact ⟨0, Nat.zero_le _, rfl, ⟨OwnG.nil _, OwnSl.nil _, Below.refl _ _, Nat.le_refl _⟩, ⟨_, _, _, rfl⟩⟩
        case round =>
          obtain ⟨k, hk, rfl, hinv, ⟨Au, nu, cu, rfl⟩⟩ := hrel
          have HI := Lib.hid hinv
          clear hinv
          by_cases hlt : k < 12
          · obtain ⟨bw, ow, hbo, hbl, y0⟩ := HW.out.str_at (show k < kWords.length from hlt)
            simp only [Option.some.injEq, Addr.mk.injEq] at hbo
            obtain ⟨rfl, rfl, _⟩ := hbo
            have hbl2 := hbl.2
            obtain ⟨b, o, u, rfl, hF, hcu, hel⟩ := HV.out.at1 (show k < (headVals r).length from hlt)
            obtain ⟨vu, hvu, hsv⟩ := hel
            simp only [List.cons.injEq, and_true] at hvu
            subst hvu
            obtain ⟨_, hv0, hv2⟩ := head_at r k hlt
            have htk := head_take r k hlt
            obtain ⟨kw, hkw⟩ : ∃ x, x = kWords[k] := ⟨_, rfl⟩
            obtain ⟨vs, hvs⟩ : ∃ x, x = (headVals r)[k] := ⟨_, rfl⟩
            have e1 : kWords[k]'hlt = kw := hkw.symm
            have e2 : (headVals r)[k]'hlt = vs := hvs.symm
            rw [e1, e2] at htk
            rw [e2] at hv0 hv2
            have hsv : Sl 1 elStr w2 (Fr w1.heap.size w2) u vs := by rw [hvs]; exact hsv
            have y0 : w2.cell? ⟨wx.heap.size, 0 + k, none⟩ = some (.string (S kw)) := by rw [hkw]; exact y0
            have hF2 := hF.2
            have y := (HI.out.hb.cell (p := ⟨wx.heap.size, 0 + k, none⟩) hbl2).trans y0
            rw [Nat.zero_add] at y
            have x := (HI.out.hb.cell (p := ⟨b, o + k, none⟩) hF2).trans hcu
            have hbz : b < wr.heap.size := Nat.lt_of_lt_of_le hF2 HI.out.hz
            have hsw := hsv.keep elStr_good (Same.below HI.out.hb fun b h => h.2) (G := (· < wr.heap.size)) fun b h => Nat.lt_of_lt_of_le h.2 HI.out.hz
            obtain ⟨As, cs, rfl, hcs, _⟩ := hsw.shape
            obtain ⟨bs, os, rfl⟩ : ∃ bs os, As = some ⟨bs, os, none⟩ := by
              obtain ⟨b', o', cs', hh, _⟩ := hsw.at hv0
              exact ⟨b', o', hh⟩
            have HSW := Lib.hid hsw
            have HTK := Lib.hid htk
            have hlen : ((headLines r).take k).length ≤ 12 := by rw [List.length_take]; exact Nat.le_trans (Nat.min_le_left _ _) hk
            obtain ⟨out, hout⟩ : ∃ x, x = (headLines r).take k := ⟨_, rfl⟩
            rw [← hout] at HI hlen
            have HO := Lib.hid hout
            have HSA := Lib.hid (hsw.keep elStr_good (Same.below (Below.alloc (Below.refl wr.heap.size wr) (Nat.le_refl _) (.cells #[.string (S kw)] 9)) fun b h => h) (G := (· < wr.heap.size)) fun b h => h)
            have hgg : ∀ b, b < wr.heap.size → b < (wr.alloc (.cells #[.string (S kw)] 9)).heap.size ∧ (Value.slice (some ⟨wr.heap.size, 0, none⟩) 1 1).ownBlock ≠ some b := fun b hb => ⟨by simp; omega, fun e => by
              have : wr.heap.size = b := by injection e
              omega⟩
            have HGG := Lib.hid hgg
            have hbd : [kw].length + vs.length ≤ maxLen ∧ ([kw].length + vs.length) * 16 ≤ 140737488355328 := by
              simp only [maxLen, List.length_cons, List.length_nil]; omega
            have HBD := Lib.hid hbd
            have hzz : wr.heap.size ≤ (wr.alloc (.cells #[.string (S kw)] 9)).heap.size := by simp
            have HZZ := Lib.hid hzz
            have tok0 : True := trivial
            clear hgg hbd hzz
            clear hsw hsv htk hcu y0 hkw hvs e1 e2 hF hbl hout
            go_wp2_with (first
              | (clear tok0; at_builtin; refine wpList_append_all _ rfl (.tmp 77) (.tmp 81) _ rfl E_str elStr_good wr.heap.size _ (· < wr.heap.size) [kw] vs rfl (kw_row wr kw _) (· < wr.heap.size) ⟨bs, os, none⟩ vs.length cs rfl HSA.out (fun _ h => h) elStr_one HGG.out HBD.out.1 HBD.out.2 HZZ.out ?_; intro v5 w5 hown5 hg5 hat5; have hm := kw_made hown5 hg5; have HM := Lib.hid hm; clear hm hown5 hg5 hat5; have tok1 : True := trivial)
              | (clear tok1; go_at_call 44; refine (ref_line (kw :: vs) v5 _ w5 HM.out.1 (fun b hb => hb) (by simp only [List.length_cons]; omega)).mono ?_; rintro e w6 ⟨A6, n6, c6, rfl, hs6, hb6⟩; have hlm := line_made HI.out HM.out.2 hb6 hs6; have hs6z := hlm.1.hz; have HLM := Lib.hid hlm; clear hlm hs6 hb6; have tok2 : True := trivial)
              | (clear tok2; at_builtin; refine wpList_append_g _ rfl (.tmp 75) (.tmp 84) _ rfl E_lin elLin_good w2.heap.size _ _ out rfl (HLM.out.1.below (Below.alloc (Below.refl _ _) (Nat.le_refl _) _)).hv ⟨w6.heap.size, 0, none⟩ 1 [.int .i64 0, .slice A6 n6 c6] rfl (lineR (kw :: vs)) rfl (cells_new _ _ _ _) (oneCells rfl) (fun b hb => ⟨hb.2.1, hb.2.2.1⟩) (HLM.out.2 _) (by simp only [maxLen]; omega) (by omega) (by simp; omega) ?_; intro v7 w7 hown7 hg7 hat7; have h7 := (HLM.out.1.below (Below.alloc (Below.refl _ _) (Nat.le_refl _) _)).line hown7 hg7 hat7; obtain ⟨g7, n7, k7, rfl⟩ := own_slice h7.hv (by simp); have H7 := Lib.hid h7; clear h7 hown7 hg7 hat7; have tok3 : True := trivial))
            go_roundw
            case rel => exact ⟨k + 1, by omega, by go_num, by rw [HTK.out, ← HO.out]; exact H7.out, ⟨_, _, _, rfl⟩⟩
            case measure => simp [intOf]; omega
          · have e12 : (headLines r).take k = headLines r := by
              have hk12 : k = 12 := by omega
              rw [hk12]; rfl
            rw [e12] at HI
            have x13 : wr.cell? ⟨w.heap.size, 13, none⟩ = some (.slice A r.power.length c) := (HR2.out.below HI.out.hb).blk.cell 13
            clear e12
            go_wp2
            have hhl : (headLines r).length = 12 := rfl
            have HHL := Lib.hid hhl
            clear hhl x13
            obtain ⟨wl, hwl⟩ : ∃ x : World, x = wr := ⟨_, rfl⟩
            subst hwl
            go_loopw [7, 90] (fun v i wr => ∃ (k : Nat) (out : List Lin), k ≤ r.power.length ∧ i = .int .i64 k ∧ SplitInv w2.heap.size w2 wr v noD out [] ∧ Hid (out ++ (r.power.drop k).map powLine = rulLines r) ∧ Hid (out.length = 12 + k) ∧ (∃ A n c, v = .slice A n c))
              (fun _ i _ => r.power.length - (intOf i).toNat)
            case atStart => exact ⟨0, _, Nat.zero_le _, rfl, HI.out, by unfold Hid; rfl, by unfold Hid; exact HHL.out, ⟨_, _, _, rfl⟩⟩
            case round =>
              obtain ⟨k, out, hk, rfl, hinv, hqk, hol, ⟨Au, nu, cu, rfl⟩⟩ := hrel
              have HI2 := Lib.hid hinv
              have HBR := Lib.hid (HB2.out.trans (hinv.hb.mono HB2.out.size))
              have HRR := Lib.hid (HR2.out.below hinv.hb)
              have hol20 : out.length ≤ 20 := by have := hol.out; omega
              clear hinv
              by_cases hlt : k < r.power.length
              · obtain ⟨b, o, rfl, hF, y0, y1, y2⟩ := pha_at HRR.out.sl hlt
                have hqk' := hqk.out
                rw [pow_drop hlt] at hqk'
                have hp0 := HSM.out _ (List.getElem_mem hlt)
                obtain ⟨⟨pf, pt, po⟩, hp⟩ : ∃ p, p = r.power[k] := ⟨_, rfl⟩
                rw [← hp] at y0 y1 y2 hqk' hp0
                obtain ⟨s1, s2, s3, s4, s5, s6⟩ := hp0
                dsimp only at y0 y1 y2 s1 s2 s3 s4 s5 s6
                have HQ := Lib.hid hqk'
                have hpw := PowAt.new HI2.out ⟨pf, pt, po⟩
                have HP := Lib.hid hpw.drew
                have tok0 : True := trivial
                clear hqk hqk' hp hpw hF
                go_wp2
                obtain ⟨c0, c1, c2⟩ := HP.out.cells
                dsimp only at c0 c1 c2
                go_region_held3 (fun w' => w'.cell? ⟨wr.heap.size, 0, none⟩ = some (.int .i64 pf) ∧ w'.cell? ⟨wr.heap.size, 1, none⟩ = some (.int .i64 pt) ∧ w'.cell? ⟨wr.heap.size, 2, none⟩ = some (.int .i64 po)) (first | exact ⟨c0, c1, c2⟩ | go_keep) (first
                  | (clear tok0; go_at_call 42; refine (rpow_dec pf s1 s2 HP.out).mono ?_; rintro e w2' ⟨rfl, hp2⟩; clear c0 c1 c2; obtain ⟨c0, c1, c2⟩ := hp2.cells; have hz2 := hp2.blk.lt; have HP2 := Lib.hid hp2; clear hp2; have tok1 : True := trivial)
                  | (clear tok1; go_at_call 42; refine (rpow_dec pt s3 s4 HP2.out).mono ?_; rintro e w3 ⟨rfl, hp3⟩; obtain ⟨c0, c1, c2⟩ := hp3.cells; have hz3 := hp3.blk.lt; have HP3 := Lib.hid hp3; clear hp3; have tok2 : True := trivial)
                  | (clear tok2; go_at_call 42; refine (rpow_dec po s5 s6 HP3.out).mono ?_; rintro e w4 ⟨rfl, hp4⟩; obtain ⟨c0, c1, c2⟩ := hp4.cells; have hz4 := hp4.blk.lt; have HP4 := Lib.hid hp4; clear hp4; have tok3 : True := trivial)
                  | (clear tok3; go_at_call 44; refine (rpow_line _ _ _ HP4.out rfl).mono ?_; rintro e w5 ⟨A5, n5, k5, rfl, hp5⟩; obtain ⟨c0, c1, c2⟩ := hp5.1.cells; have hz5 := hp5.1.blk.lt; have hs5 := hp5.1.inv.hz; have HP5 := Lib.hid hp5; clear hp5; have tok4 : True := trivial)
                  | (clear tok4; refine step_append_gl rfl (.tmp 94) (.tmp 106) _ rfl E_lin elLin_good w2.heap.size _ _ out rfl (HP5.out.row _) ⟨w5.heap.size, 0, none⟩ 1 [.int .i64 0, .slice A5 n5 k5] rfl (powLine ⟨pf, pt, po⟩) rfl (cells_new _ _ _ _) (oneCells rfl) (fun b hb => ⟨hb.2.1, hb.2.2.1⟩) (HP5.out.2 _) (by simp only [maxLen]; omega) (by omega) (by simp; omega) ?_; intro g6 cap6 w6 hown6 hg6 hat6; have hp6 := HP5.out.app hown6 hg6 hat6; obtain ⟨c0, c1, c2⟩ := hp6.cells; have HP6 := Lib.hid hp6; clear hp6 hown6 hg6 hat6; have tok5 : True := trivial))
                go_wp2
                go_roundw
                case rel => exact ⟨k + 1, _, by omega, by go_num, HP6.out.inv, by unfold Hid; rw [← HQ.out, List.append_assoc]; rfl, by unfold Hid; rw [List.length_append, hol.out]; rfl, ⟨_, _, _, rfl⟩⟩
                case measure => simp [intOf]; omega
              · have hke : k = r.power.length := by omega
                have ho := hqk.out
                rw [List.drop_eq_nil_of_le (by omega), List.map_nil, List.append_nil] at ho
                have hwr := rwrite_rows HI2.out ho HL.out
                have HWR := Lib.hid hwr
                clear hwr hqk hke ho
                go_wp2_with (go_at_call 45; refine HWR.out.mono ?_; rintro x w9 ⟨rfl, hb9⟩)
                refine bodyPost_ret (v := .tuple #[.string (S (writeS (rulLines r))), .int .i64 0]) (by simp [results, Tryz.results22, go_sem]) rfl ⟨?_, HBR.out.trans (hb9.mono HBR.out.size)⟩
                rw [HRES.out]
  · have hres' : res = ([], checkR r) := by rw [hres, textR_bad hc0]
    obtain ⟨e, he⟩ : ∃ e, e = checkR r := ⟨_, rfl⟩
    rw [← he] at kc hc0 hres'
    have e0 : (e != 0) = true := by simp [hc0]
    unfold rulV rulCells at kc
    have KC := Lib.hid kc
    have HRES := Lib.hid hres'
    clear kc hres' hres hA h hb0 hc0 hn he hW
    clear W
    unfold rulV rulCells
    go_enter Tryz.func22, Tryz.ntmps22
    go_wp2_with (go_at_call 13; refine KC.out.mono ?_; rintro x w1 ⟨rfl, hb1, hr1⟩; have HB1 := Lib.hid hb1; clear hb1 hr1)
    refine bodyPost_ret (v := .tuple #[.string ⟨#[]⟩, .int .i64 e]) (by simp [results, Tryz.results22, go_sem]) rfl ⟨?_, HB1.out⟩
    rw [HRES.out]
    rfl
end Go.Proofs.YtnacklbaphobbaaGreatDoor
