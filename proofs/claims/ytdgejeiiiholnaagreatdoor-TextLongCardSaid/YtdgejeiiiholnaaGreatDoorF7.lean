/- The reference's contract: the lines of a source. -/
import Derived.Test.YtdgejeiiiholnaaGreatDoorF6
import Derived.Test.YtdgejeiiiholnaaGreatDoorP12
import Derived.Test.YtdgejeiiiholnaaGreatDoorT6
set_option linter.unusedSimpArgs false
set_option linter.unusedVariables false
namespace Go.Proofs.YtdgejeiiiholnaaGreatDoor
open Go.RowKit

set_option maxRecDepth 100000 in
set_option maxHeartbeats 4000000 in
theorem ref_Split (s : ByteArray) (w : World) (hs : s.size ≤ 140737488351232) :
    Calls Tryz.prog 14 #[.string s] w (SplitPost w (splitS s.data.toList)) := by
  obtain ⟨q, hq⟩ : ∃ q, q = splitS s.data.toList := ⟨_, rfl⟩
  rw [← hq]
  have hL : s.data.toList.length = s.size := by simp
  by_cases hbig : (262144 : Int) < (s.size : Int)
  · have hq2 : q = ([], [⟨1, 1, 9⟩]) := by rw [hq, splitS, if_pos (by rw [hL]; omega)]
    have HQ := Lib.hid hq2
    clear hq hq2 hL
    go_enter Tryz.func14, Tryz.ntmps14
    go_wp2
    go_ret2
    rw [HQ.out]
    exact split_done (Sl.nil _ _) (Sl.fresh1 w _ [.int .i64 1, .int .i64 1, .int .i64 9] _ _ rfl (by simp) rfl) ((Below.refl _ _).alloc (Nat.le_refl _) _)
  · rw [splitS_U (by rw [hL]; omega)] at hq
    have hst := SpInv.start s
    obtain ⟨res, hres⟩ : ∃ r, r = splitU (pieces 10 s.data.toList) 1 [] [] := ⟨_, rfl⟩
    rw [← hres] at hq hst
    have HQ := Lib.hid hq
    have HST := Lib.hid hst
    clear hq hst hres hL
    have hsz : s.size ≤ 262144 := by omega
    go_enter Tryz.func14, Tryz.ntmps14
    go_wp2
    go_loopw [4, 5, 6, 7, 8] (fun v d nn ss i wr => ∃ (k st n : Nat) (out : List Lin) (ds : List Dia), k ≤ s.size + 1 ∧ st ≤ k ∧ n ≤ k + 1 ∧ i = .int .i64 k ∧ ss = .int .i64 st ∧ nn = .int .i64 n ∧ SplitInv w.heap.size w wr v d out ds ∧ out.length ≤ k ∧ ds.length ≤ k ∧ Hid (SpInv s k st n out ds res))
      (fun _ _ _ _ i _ => s.size + 1 - (intOf i).toNat)
    case atStart => exact ⟨0, 0, 1, [], [], by omega, by omega, by omega, rfl, rfl, rfl, ⟨OwnG.nil _, OwnSl.nil _, Below.refl _ _, Nat.le_refl _⟩, by simp, by simp, HST.out⟩
    case round =>
      obtain ⟨k, st, n, out, ds, hk, hstk, hn, rfl, rfl, rfl, hinv, hout, hds, hsp⟩ := hrel
      have hzr := hinv.hz
      obtain ⟨Ad, cd, hvd, hcd, hcd'⟩ := (OwnSl.sl elDia_good hinv.hd).shape
      subst hvd
      by_cases hle : k ≤ s.size
      · by_cases hgo : ∃ h : k < s.size, s[k] ≠ 10
        · obtain ⟨hlt, h10⟩ := hgo
          have c10 : ((s[k].toNat : Int) != 10) = true := by rw [bne_iff_ne]; exact fun e => h10 (byte_eq 10 e)
          have HN := Lib.hid (hsp.out.next hlt h10)
          clear h10
          go_wp2
          go_roundw
          case rel => exact ⟨k + 1, st, n, out, ds, by omega, by omega, by omega, by go_num, rfl, rfl, hinv, by omega, by omega, HN.out⟩
          case measure => simp [intOf]; omega
        · have hc : k = s.size ∨ ∃ h : k < s.size, s[k] = 10 := by
            by_cases h : k < s.size
            · exact .inr ⟨h, Classical.byContradiction fun e => hgo ⟨h, e⟩⟩
            · exact .inl (by omega)
          obtain ⟨hst2, hln⟩ := hsp.out.line hle hc
          have hps : (s.extract st k).size ≤ 262144 := by simp; omega
          have hpl : (s.extract st k).data.toList.length = (s.extract st k).size := by rw [Array.length_toList]; rfl
          have hfd := fun W => ref_fields (s.extract st k) W (by omega)
          clear hgo
          rcases hc with hke | ⟨hlt, h10⟩
          · have hge : ¬ (k : Int) < (s.size : Int) := by omega
            clear hke
            go_wp2_with fail
            generalize s.extract st k = P at *
            obtain ⟨⟨fl, col⟩, hfc⟩ : ∃ fc, fc = fieldsS P.data.toList := ⟨_, rfl⟩
            have hfl := fieldsS_len P.data.toList
            have hlk := hln
            unfold stepU at hlk
            rw [← hfc] at hfd hfl hlk
            rw [hpl] at hfl hlk
            obtain ⟨bad, hbd⟩ : ∃ b : Int, b = (col : Int) - 1 := ⟨_, rfl⟩
            have hcall : Calls Tryz.prog 53 #[.string P] wr fun e w2 => ∃ A2 c2, e = .returned (.tuple #[.slice A2 fl.length c2, .int .i64 bad]) ∧ Sl 3 elFld w2 (fun b => wr.heap.size ≤ b ∧ b < w2.heap.size) (.slice A2 fl.length c2) fl ∧ Below wr.heap.size wr w2 := by
              refine (hfd wr).mono ?_
              rintro e w2 ⟨v2, rfl, hv2, hb2⟩
              obtain ⟨A2, c2, rfl, _⟩ := hv2.shape
              exact ⟨A2, c2, by rw [hbd], hv2, hb2⟩
            have hb0 : -1 ≤ bad := by omega
            have hb1 : bad ≤ 300000 := by omega
            have HFC := Lib.hid hfc
            have HBD := Lib.hid hbd
            clear hfd hfc hbd hln hsp hpl
            simp only at hlk
            refine hcall.mono ?_
            rintro e w2 ⟨A2, c2, rfl, hv2, hb2⟩
            have HV2 := Lib.hid hv2
            clear hcall hv2
            have hs2 := hb2.size
            by_cases hbigl : (1000 : Int) < (P.size : Int)
            · rw [if_pos (by omega)] at hlk
              have HLK := Lib.hid hlk
              clear hlk
              go_wp2_with (at_builtin; refine wpList_append_sl _ rfl (.tmp 46) (.tmp 49) _ rfl E_dia elDia_good w.heap.size _ ds rfl ((hinv.below hb2).hd.alloc elDia_good _) ⟨w2.heap.size, 0, none⟩ 1 [.int .i64 (n : Int), .int .i64 1001, .int .i64 9] rfl ⟨(n : Int), 1001, 9⟩ rfl (cells_new _ _ _ _) (oneCells rfl) rfl (by simp only [maxLen]; omega) (by omega) (by simp; omega) ?_; intro v4 w4 hown4 hg4 hat4)
              have hi4 := ((hinv.below hb2).below ((Below.refl _ _).alloc (Nat.le_refl _) _)).diag hown4 hg4 hat4
              go_roundw
              case rel => exact ⟨k + 1, k + 1, n + 1, out, _, by omega, by omega, by omega, by go_num, by go_num, by go_num, hi4, by omega, by simp; omega, by unfold Hid; exact HLK.out⟩
              case measure => simp [intOf]; omega
            · rw [if_neg (by omega)] at hlk
              by_cases hcol : col = 0
              · rw [if_neg (by simp [hcol])] at hlk
                have hbn : bad < 0 := by have := HBD.out; omega
                cases fl with
                | nil =>
                  rw [if_neg (by simp)] at hlk
                  have HLK := Lib.hid hlk
                  clear hlk hcol
                  go_wp2
                  go_roundw
                  case rel => exact ⟨k + 1, k + 1, n + 1, out, ds, by omega, by omega, by omega, by go_num, by go_num, by go_num, hinv.below hb2, by omega, by omega, by unfold Hid; exact HLK.out⟩
                  case measure => simp [intOf]; omega
                | cons f0 fl =>
                  obtain ⟨fl', hfl'⟩ : ∃ fl', fl' = f0 :: fl := ⟨_, rfl⟩
                  rw [← hfl'] at HFC hfl hlk HV2 ⊢
                  have hfp : (0 : Int) < (fl'.length : Int) := by rw [hfl']; simp
                  rw [if_pos (by rw [hfl']; simp)] at hlk
                  have HLK := Lib.hid hlk
                  clear hfl' hlk hcol
                  go_wp2_with (at_builtin; refine wpList_append_g _ rfl (.tmp 65) (.tmp 69) _ rfl E_lin elLin_good w.heap.size _ (lineG w.heap.size (w2.alloc _) _ _) out rfl ((hinv.below hb2).below ((Below.refl _ _).alloc (Nat.le_refl _) _)).hv ⟨w2.heap.size, 0, none⟩ 1 [.int .i64 (n : Int), .slice A2 fl'.length c2] rfl ⟨(n : Int), fl'⟩ rfl (cells_new _ _ _ _) (oneCells rfl) (fun b hb => ⟨hb.2.1, hb.2.2.1⟩) (hinv.fields_el hb2 HV2.out _) (by simp only [maxLen]; omega) (by omega) (by simp; omega) ?_; intro v4 w4 hown4 hg4 hat4)
                  have hi4 := ((hinv.below hb2).below ((Below.refl _ _).alloc (Nat.le_refl _) _)).line hown4 hg4 hat4
                  go_roundw
                  case rel => exact ⟨k + 1, k + 1, n + 1, _, ds, by omega, by omega, by omega, by go_num, by go_num, by go_num, hi4, by simp; omega, by omega, by unfold Hid; exact HLK.out⟩
                  case measure => simp [intOf]; omega
              · rw [if_pos hcol] at hlk
                have hbn : 0 ≤ bad := by have := HBD.out; omega
                have hbc : (col : Int) = bad + 1 := by have := HBD.out; omega
                rw [hbc] at hlk
                have HLK := Lib.hid hlk
                clear hlk hcol hbc
                go_wp2_with (at_builtin; refine wpList_append_sl _ rfl (.tmp 54) (.tmp 59) _ rfl E_dia elDia_good w.heap.size _ ds rfl ((hinv.below hb2).hd.alloc elDia_good _) ⟨w2.heap.size, 0, none⟩ 1 [.int .i64 (n : Int), .int .i64 (bad + 1), .int .i64 4] rfl ⟨(n : Int), bad + 1, 4⟩ rfl (cells_new _ _ _ _) (oneCells rfl) rfl (by simp only [maxLen]; omega) (by omega) (by simp; omega) ?_; intro v4 w4 hown4 hg4 hat4)
                have hi4 := ((hinv.below hb2).below ((Below.refl _ _).alloc (Nat.le_refl _) _)).diag hown4 hg4 hat4
                go_roundw
                case rel => exact ⟨k + 1, k + 1, n + 1, out, _, by omega, by omega, by omega, by go_num, by go_num, by go_num, hi4, by omega, by simp; omega, by unfold Hid; exact HLK.out⟩
                case measure => simp [intOf]; omega
          · have c10 : ((s[k].toNat : Int) != 10) = false := by rw [h10]; rfl
            clear h10
            go_wp2_with fail
            clear c10
            generalize s.extract st k = P at *
            obtain ⟨⟨fl, col⟩, hfc⟩ : ∃ fc, fc = fieldsS P.data.toList := ⟨_, rfl⟩
            have hfl := fieldsS_len P.data.toList
            have hlk := hln
            unfold stepU at hlk
            rw [← hfc] at hfd hfl hlk
            rw [hpl] at hfl hlk
            obtain ⟨bad, hbd⟩ : ∃ b : Int, b = (col : Int) - 1 := ⟨_, rfl⟩
            have hcall : Calls Tryz.prog 53 #[.string P] wr fun e w2 => ∃ A2 c2, e = .returned (.tuple #[.slice A2 fl.length c2, .int .i64 bad]) ∧ Sl 3 elFld w2 (fun b => wr.heap.size ≤ b ∧ b < w2.heap.size) (.slice A2 fl.length c2) fl ∧ Below wr.heap.size wr w2 := by
              refine (hfd wr).mono ?_
              rintro e w2 ⟨v2, rfl, hv2, hb2⟩
              obtain ⟨A2, c2, rfl, _⟩ := hv2.shape
              exact ⟨A2, c2, by rw [hbd], hv2, hb2⟩
            have hb0 : -1 ≤ bad := by omega
            have hb1 : bad ≤ 300000 := by omega
            have HFC := Lib.hid hfc
            have HBD := Lib.hid hbd
            clear hfd hfc hbd hln hsp hpl
            simp only at hlk
            refine hcall.mono ?_
            rintro e w2 ⟨A2, c2, rfl, hv2, hb2⟩
            have HV2 := Lib.hid hv2
            clear hcall hv2
            have hs2 := hb2.size
            by_cases hbigl : (1000 : Int) < (P.size : Int)
            · rw [if_pos (by omega)] at hlk
              have HLK := Lib.hid hlk
              clear hlk
              go_wp2_with (at_builtin; refine wpList_append_sl _ rfl (.tmp 46) (.tmp 49) _ rfl E_dia elDia_good w.heap.size _ ds rfl ((hinv.below hb2).hd.alloc elDia_good _) ⟨w2.heap.size, 0, none⟩ 1 [.int .i64 (n : Int), .int .i64 1001, .int .i64 9] rfl ⟨(n : Int), 1001, 9⟩ rfl (cells_new _ _ _ _) (oneCells rfl) rfl (by simp only [maxLen]; omega) (by omega) (by simp; omega) ?_; intro v4 w4 hown4 hg4 hat4)
              have hi4 := ((hinv.below hb2).below ((Below.refl _ _).alloc (Nat.le_refl _) _)).diag hown4 hg4 hat4
              go_roundw
              case rel => exact ⟨k + 1, k + 1, n + 1, out, _, by omega, by omega, by omega, by go_num, by go_num, by go_num, hi4, by omega, by simp; omega, by unfold Hid; exact HLK.out⟩
              case measure => simp [intOf]; omega
            · rw [if_neg (by omega)] at hlk
              by_cases hcol : col = 0
              · rw [if_neg (by simp [hcol])] at hlk
                have hbn : bad < 0 := by have := HBD.out; omega
                cases fl with
                | nil =>
                  rw [if_neg (by simp)] at hlk
                  have HLK := Lib.hid hlk
                  clear hlk hcol
                  go_wp2
                  go_roundw
                  case rel => exact ⟨k + 1, k + 1, n + 1, out, ds, by omega, by omega, by omega, by go_num, by go_num, by go_num, hinv.below hb2, by omega, by omega, by unfold Hid; exact HLK.out⟩
                  case measure => simp [intOf]; omega
                | cons f0 fl =>
                  obtain ⟨fl', hfl'⟩ : ∃ fl', fl' = f0 :: fl := ⟨_, rfl⟩
                  rw [← hfl'] at HFC hfl hlk HV2 ⊢
                  have hfp : (0 : Int) < (fl'.length : Int) := by rw [hfl']; simp
                  rw [if_pos (by rw [hfl']; simp)] at hlk
                  have HLK := Lib.hid hlk
                  clear hfl' hlk hcol
                  go_wp2_with (at_builtin; refine wpList_append_g _ rfl (.tmp 65) (.tmp 69) _ rfl E_lin elLin_good w.heap.size _ (lineG w.heap.size (w2.alloc _) _ _) out rfl ((hinv.below hb2).below ((Below.refl _ _).alloc (Nat.le_refl _) _)).hv ⟨w2.heap.size, 0, none⟩ 1 [.int .i64 (n : Int), .slice A2 fl'.length c2] rfl ⟨(n : Int), fl'⟩ rfl (cells_new _ _ _ _) (oneCells rfl) (fun b hb => ⟨hb.2.1, hb.2.2.1⟩) (hinv.fields_el hb2 HV2.out _) (by simp only [maxLen]; omega) (by omega) (by simp; omega) ?_; intro v4 w4 hown4 hg4 hat4)
                  have hi4 := ((hinv.below hb2).below ((Below.refl _ _).alloc (Nat.le_refl _) _)).line hown4 hg4 hat4
                  go_roundw
                  case rel => exact ⟨k + 1, k + 1, n + 1, _, ds, by omega, by omega, by omega, by go_num, by go_num, by go_num, hi4, by simp; omega, by omega, by unfold Hid; exact HLK.out⟩
                  case measure => simp [intOf]; omega
              · rw [if_pos hcol] at hlk
                have hbn : 0 ≤ bad := by have := HBD.out; omega
                have hbc : (col : Int) = bad + 1 := by have := HBD.out; omega
                rw [hbc] at hlk
                have HLK := Lib.hid hlk
                clear hlk hcol hbc
                go_wp2_with (at_builtin; refine wpList_append_sl _ rfl (.tmp 54) (.tmp 59) _ rfl E_dia elDia_good w.heap.size _ ds rfl ((hinv.below hb2).hd.alloc elDia_good _) ⟨w2.heap.size, 0, none⟩ 1 [.int .i64 (n : Int), .int .i64 (bad + 1), .int .i64 4] rfl ⟨(n : Int), bad + 1, 4⟩ rfl (cells_new _ _ _ _) (oneCells rfl) rfl (by simp only [maxLen]; omega) (by omega) (by simp; omega) ?_; intro v4 w4 hown4 hg4 hat4)
                have hi4 := ((hinv.below hb2).below ((Below.refl _ _).alloc (Nat.le_refl _) _)).diag hown4 hg4 hat4
                go_roundw
                case rel => exact ⟨k + 1, k + 1, n + 1, out, _, by omega, by omega, by omega, by go_num, by go_num, by go_num, hi4, by omega, by simp; omega, by unfold Hid; exact HLK.out⟩
                case measure => simp [intOf]; omega
      · have hdn := hsp.out.done (by omega)
        have hmn : (min (ds.length : Int) 50).toNat = min ds.length 50 := by omega
        have hm0 : (0 : Int) ≤ min (ds.length : Int) 50 := by omega
        have hm1 : min (ds.length : Int) 50 ≤ (cd : Int) := by omega
        have hm2 : min (ds.length : Int) 50 ≤ (ds.length : Int) := by omega
        have hfin : q = (out, ds.take 50) := by rw [HQ.out, ← hdn]
        have HF := Lib.hid hfin
        have HI := Lib.hid hinv
        have HMN := Lib.hid hmn
        clear hdn hfin hinv hsp hmn
        go_wp2
        go_region
        go_wp2
        go_ret2
        rw [HF.out, HMN.out]
        have hvs := HI.out.hv.sl elLin_good (F := fun b => w.heap.size ≤ b ∧ b < wr.heap.size) (fun b hb => ⟨hb.1, hb.2.1⟩) (fun b h1 h2 => ⟨h1, h2⟩)
        have hdss := OwnG.sl elDia_good (F := fun b => w.heap.size ≤ b ∧ b < wr.heap.size) HI.out.hd (fun b hb => hb.elim) (fun b h1 h2 => ⟨h1, h2⟩)
        have htk := hdss.take (k := min ds.length 50) (by omega)
        have he : ds.take (min ds.length 50) = ds.take 50 := by
          by_cases h : ds.length ≤ 50
          · rw [Nat.min_eq_left h, List.take_of_length_le (Nat.le_refl _), List.take_of_length_le h]
          · rw [Nat.min_eq_right (by omega)]
        rw [he] at htk
        exact split_done (hvs.keep elLin_good (fun _ _ => rfl) fun _ h => h) (htk.keep elDia_good (fun _ _ => rfl) fun _ h => h) (Below.drew HI.out.hb)
end Go.Proofs.YtdgejeiiiholnaaGreatDoor
