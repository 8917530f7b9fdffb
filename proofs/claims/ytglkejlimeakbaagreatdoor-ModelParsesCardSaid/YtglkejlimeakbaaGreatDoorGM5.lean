/- Several texts of this family in one: F7 J24 J26. -/
import Derived.Test.YtglkejlimeakbaaGreatDoorGM4
import Derived.Test.YtglkejlimeakbaaGreatDoorGM2
set_option linter.unusedSimpArgs false
set_option linter.unusedVariables false
namespace Go.Proofs.YtglkejlimeakbaaGreatDoor
open Go.RowKit

set_option maxRecDepth 100000 in
set_option maxHeartbeats 4000000 in
theorem ref_SplitN (s : ByteArray) (w : World) (hs : s.size ≤ 140737488351232) :
    Calls Tryz.prog 29 #[.string s] w (SplitPostN w (splitS s.data.toList)) := by
  obtain ⟨q, hq⟩ : ∃ q, q = splitS s.data.toList := ⟨_, rfl⟩
  rw [← hq]
  have hL : s.data.toList.length = s.size := by simp
  by_cases hbig : (262144 : Int) < (s.size : Int)
  · have hq2 : q = ([], [⟨1, 1, 9⟩]) := by rw [hq, splitS, if_pos (by rw [hL]; omega)]
    have HQ := Lib.hid hq2
    clear hq hq2 hL
    go_enter Tryz.func29, Tryz.ntmps29
    go_wp2
    go_ret2
    rw [HQ.out]
    exact split_doneN (Sl.nil _ _) (Sl.fresh1 w _ [.int .i64 1, .int .i64 1, .int .i64 9] _ _ rfl (by simp) rfl) ((Below.refl _ _).alloc (Nat.le_refl _) _) (fun e => by cases e)
  · rw [splitS_U (by rw [hL]; omega)] at hq
    have hst := SpInv.start s
    obtain ⟨res, hres⟩ : ∃ r, r = splitU (pieces 10 s.data.toList) 1 [] [] := ⟨_, rfl⟩
    rw [← hres] at hq hst
    have HQ := Lib.hid hq
    have HST := Lib.hid hst
    clear hq hst hres hL
    have hsz : s.size ≤ 262144 := by omega
    go_enter Tryz.func29, Tryz.ntmps29
    go_wp2
    go_loopw [4, 5, 6, 7, 8] (fun v d nn ss i wr => ∃ (k st n : Nat) (out : List Lin) (ds : List Dia), k ≤ s.size + 1 ∧ st ≤ k ∧ n ≤ k + 1 ∧ i = .int .i64 k ∧ ss = .int .i64 st ∧ nn = .int .i64 n ∧ SplitInvN w.heap.size w wr v d out ds ∧ out.length ≤ k ∧ ds.length ≤ k ∧ Hid (SpInv s k st n out ds res))
      (fun _ _ _ _ i _ => s.size + 1 - (intOf i).toNat)
    case atStart => exact ⟨0, 0, 1, [], [], by omega, by omega, by omega, rfl, rfl, rfl, ⟨⟨OwnG.nil _, OwnSl.nil _, Below.refl _ _, Nat.le_refl _⟩, fun _ => rfl⟩, by simp, by simp, HST.out⟩
    case round =>
      obtain ⟨k, st, n, out, ds, hk, hstk, hn, rfl, rfl, rfl, hinv, hout, hds, hsp⟩ := hrel
      have hzr := hinv.hz
      obtain ⟨Ad, cd, hvd, hcd, hcd'⟩ := (OwnSl.sl elDia_good hinv.hd).shape
      subst hvd
      by_cases hle : k ≤ s.size
      · by_cases hgo : ∃ h : k < s.size, s[k] ≠ 10
        · obtain ⟨hlt, h10⟩ := hgo
          have c10 : ((s[k].toNat : Int) != 10) = true := by rw [bne_iff_ne]; exact fun e => h10 (byte_eq 10 e)
          have HN := Lib.hid (hsp.out.next hlt h10)
          clear h10
          go_wp2
          go_roundw
          case rel => exact ⟨k + 1, st, n, out, ds, by omega, by omega, by omega, by go_num, rfl, rfl, hinv, by omega, by omega, HN.out⟩
          case measure => simp [intOf]; omega
        · have hc : k = s.size ∨ ∃ h : k < s.size, s[k] = 10 := by
            by_cases h : k < s.size
            · exact .inr ⟨h, Classical.byContradiction fun e => hgo ⟨h, e⟩⟩
            · exact .inl (by omega)
          obtain ⟨hst2, hln⟩ := hsp.out.line hle hc
          have hps : (s.extract st k).size ≤ 262144 := by simp; omega
          have hpl : (s.extract st k).data.toList.length = (s.extract st k).size := by rw [Array.length_toList]; rfl
          have hfd := fun W => ref_fields (s.extract st k) W (by omega)
          clear hgo
          rcases hc with hke | ⟨hlt, h10⟩
          · have hge : ¬ (k : Int) < (s.size : Int) := by omega
            clear hke
            go_wp2_with fail
            generalize s.extract st k = P at *
            obtain ⟨⟨fl, col⟩, hfc⟩ : ∃ fc, fc = fieldsS P.data.toList := ⟨_, rfl⟩
            have hfl := fieldsS_len P.data.toList
            have hlk := hln
            unfold stepU at hlk
            rw [← hfc] at hfd hfl hlk
            rw [hpl] at hfl hlk
            obtain ⟨bad, hbd⟩ : ∃ b : Int, b = (col : Int) - 1 := ⟨_, rfl⟩
            have hcall : Calls Tryz.prog 68 #[.string P] wr fun e w2 => ∃ A2 c2, e = .returned (.tuple #[.slice A2 fl.length c2, .int .i64 bad]) ∧ Sl 3 elFld w2 (fun b => wr.heap.size ≤ b ∧ b < w2.heap.size) (.slice A2 fl.length c2) fl ∧ Below wr.heap.size wr w2 := by
              refine (hfd wr).mono ?_
              rintro e w2 ⟨v2, rfl, hv2, hb2⟩
              obtain ⟨A2, c2, rfl, _⟩ := hv2.shape
              exact ⟨A2, c2, by rw [hbd], hv2, hb2⟩
            have hb0 : -1 ≤ bad := by omega
            have hb1 : bad ≤ 300000 := by omega
            have HFC := Lib.hid hfc
            have HBD := Lib.hid hbd
            clear hfd hfc hbd hln hsp hpl
            simp only at hlk
            refine hcall.mono ?_
            rintro e w2 ⟨A2, c2, rfl, hv2, hb2⟩
            have HV2 := Lib.hid hv2
            clear hcall hv2
            have hs2 := hb2.size
            by_cases hbigl : (1000 : Int) < (P.size : Int)
            · rw [if_pos (by omega)] at hlk
              have HLK := Lib.hid hlk
              clear hlk
              go_wp2_with (at_builtin; refine wpList_append_sl _ rfl (.tmp 46) (.tmp 49) _ rfl E_dia elDia_good w.heap.size _ ds rfl ((hinv.below hb2).hd.alloc elDia_good _) ⟨w2.heap.size, 0, none⟩ 1 [.int .i64 (n : Int), .int .i64 1001, .int .i64 9] rfl ⟨(n : Int), 1001, 9⟩ rfl (cells_new _ _ _ _) (oneCells rfl) rfl (by simp only [maxLen]; omega) (by omega) (by simp; omega) ?_; intro v4 w4 hown4 hg4 hat4)
              have hi4 := ((hinv.below hb2).below ((Below.refl _ _).alloc (Nat.le_refl _) _)).diag hown4 hg4 hat4
              go_roundw
              case rel => exact ⟨k + 1, k + 1, n + 1, out, _, by omega, by omega, by omega, by go_num, by go_num, by go_num, hi4, by omega, by simp; omega, by unfold Hid; exact HLK.out⟩
              case measure => simp [intOf]; omega
            · rw [if_neg (by omega)] at hlk
              by_cases hcol : col = 0
              · rw [if_neg (by simp [hcol])] at hlk
                have hbn : bad < 0 := by have := HBD.out; omega
                cases fl with
                | nil =>
                  rw [if_neg (by simp)] at hlk
                  have HLK := Lib.hid hlk
                  clear hlk hcol
                  go_wp2
                  go_roundw
                  case rel => exact ⟨k + 1, k + 1, n + 1, out, ds, by omega, by omega, by omega, by go_num, by go_num, by go_num, hinv.below hb2, by omega, by omega, by unfold Hid; exact HLK.out⟩
                  case measure => simp [intOf]; omega
                | cons f0 fl =>
                  obtain ⟨fl', hfl'⟩ : ∃ fl', fl' = f0 :: fl := ⟨_, rfl⟩
                  rw [← hfl'] at HFC hfl hlk HV2 ⊢
                  have hfp : (0 : Int) < (fl'.length : Int) := by rw [hfl']; simp
                  rw [if_pos (by rw [hfl']; simp)] at hlk
                  have HLK := Lib.hid hlk
                  clear hfl' hlk hcol
                  go_wp2_with (at_builtin; refine wpList_append_g _ rfl (.tmp 65) (.tmp 69) _ rfl E_lin elLin_good w.heap.size _ (lineG w.heap.size (w2.alloc _) _ _) out rfl ((hinv.below hb2).below ((Below.refl _ _).alloc (Nat.le_refl _) _)).hv ⟨w2.heap.size, 0, none⟩ 1 [.int .i64 (n : Int), .slice A2 fl'.length c2] rfl ⟨(n : Int), fl'⟩ rfl (cells_new _ _ _ _) (oneCells rfl) (fun b hb => ⟨hb.2.1, hb.2.2.1⟩) (hinv.fields_el hb2 HV2.out _) (by simp only [maxLen]; omega) (by omega) (by simp; omega) ?_; intro v4 w4 hown4 hg4 hat4)
                  have hi4 := ((hinv.below hb2).below ((Below.refl _ _).alloc (Nat.le_refl _) _)).line hown4 hg4 hat4
                  go_roundw
                  case rel => exact ⟨k + 1, k + 1, n + 1, _, ds, by omega, by omega, by omega, by go_num, by go_num, by go_num, hi4, by simp; omega, by omega, by unfold Hid; exact HLK.out⟩
                  case measure => simp [intOf]; omega
              · rw [if_pos hcol] at hlk
                have hbn : 0 ≤ bad := by have := HBD.out; omega
                have hbc : (col : Int) = bad + 1 := by have := HBD.out; omega
                rw [hbc] at hlk
                have HLK := Lib.hid hlk
                clear hlk hcol hbc
                go_wp2_with (at_builtin; refine wpList_append_sl _ rfl (.tmp 54) (.tmp 59) _ rfl E_dia elDia_good w.heap.size _ ds rfl ((hinv.below hb2).hd.alloc elDia_good _) ⟨w2.heap.size, 0, none⟩ 1 [.int .i64 (n : Int), .int .i64 (bad + 1), .int .i64 4] rfl ⟨(n : Int), bad + 1, 4⟩ rfl (cells_new _ _ _ _) (oneCells rfl) rfl (by simp only [maxLen]; omega) (by omega) (by simp; omega) ?_; intro v4 w4 hown4 hg4 hat4)
                have hi4 := ((hinv.below hb2).below ((Below.refl _ _).alloc (Nat.le_refl _) _)).diag hown4 hg4 hat4
                go_roundw
                case rel => exact ⟨k + 1, k + 1, n + 1, out, _, by omega, by omega, by omega, by go_num, by go_num, by go_num, hi4, by omega, by simp; omega, by unfold Hid; exact HLK.out⟩
                case measure => simp [intOf]; omega
          · have c10 : ((s[k].toNat : Int) != 10) = false := by rw [h10]; rfl
            clear h10
            go_wp2_with fail
            clear c10
            generalize s.extract st k = P at *
            obtain ⟨⟨fl, col⟩, hfc⟩ : ∃ fc, fc = fieldsS P.data.toList := ⟨_, rfl⟩
            have hfl := fieldsS_len P.data.toList
            have hlk := hln
            unfold stepU at hlk
            rw [← hfc] at hfd hfl hlk
            rw [hpl] at hfl hlk
            obtain ⟨bad, hbd⟩ : ∃ b : Int, b = (col : Int) - 1 := ⟨_, rfl⟩
            have hcall : Calls Tryz.prog 68 #[.string P] wr fun e w2 => ∃ A2 c2, e = .returned (.tuple #[.slice A2 fl.length c2, .int .i64 bad]) ∧ Sl 3 elFld w2 (fun b => wr.heap.size ≤ b ∧ b < w2.heap.size) (.slice A2 fl.length c2) fl ∧ Below wr.heap.size wr w2 := by
              refine (hfd wr).mono ?_
              rintro e w2 ⟨v2, rfl, hv2, hb2⟩
              obtain ⟨A2, c2, rfl, _⟩ := hv2.shape
              exact ⟨A2, c2, by rw [hbd], hv2, hb2⟩
            have hb0 : -1 ≤ bad := by omega
            have hb1 : bad ≤ 300000 := by omega
            have HFC := Lib.hid hfc
            have HBD := Lib.hid hbd
            clear hfd hfc hbd hln hsp hpl
            simp only at hlk
            refine hcall.mono ?_
            rintro e w2 ⟨A2, c2, rfl, hv2, hb2⟩
            have HV2 := Lib.hid hv2
            clear hcall hv2
            have hs2 := hb2.size
            by_cases hbigl : (1000 : Int) < (P.size : Int)
            · rw [if_pos (by omega)] at hlk
              have HLK := Lib.hid hlk
              clear hlk
              go_wp2_with (at_builtin; refine wpList_append_sl _ rfl (.tmp 46) (.tmp 49) _ rfl E_dia elDia_good w.heap.size _ ds rfl ((hinv.below hb2).hd.alloc elDia_good _) ⟨w2.heap.size, 0, none⟩ 1 [.int .i64 (n : Int), .int .i64 1001, .int .i64 9] rfl ⟨(n : Int), 1001, 9⟩ rfl (cells_new _ _ _ _) (oneCells rfl) rfl (by simp only [maxLen]; omega) (by omega) (by simp; omega) ?_; intro v4 w4 hown4 hg4 hat4)
              have hi4 := ((hinv.below hb2).below ((Below.refl _ _).alloc (Nat.le_refl _) _)).diag hown4 hg4 hat4
              go_roundw
              case rel => exact ⟨k + 1, k + 1, n + 1, out, _, by omega, by omega, by omega, by go_num, by go_num, by go_num, hi4, by omega, by simp; omega, by unfold Hid; exact HLK.out⟩
              case measure => simp [intOf]; omega
            · rw [if_neg (by omega)] at hlk
              by_cases hcol : col = 0
              · rw [if_neg (by simp [hcol])] at hlk
                have hbn : bad < 0 := by have := HBD.out; omega
                cases fl with
                | nil =>
                  rw [if_neg (by simp)] at hlk
                  have HLK := Lib.hid hlk
                  clear hlk hcol
                  go_wp2
                  go_roundw
                  case rel => exact ⟨k + 1, k + 1, n + 1, out, ds, by omega, by omega, by omega, by go_num, by go_num, by go_num, hinv.below hb2, by omega, by omega, by unfold Hid; exact HLK.out⟩
                  case measure => simp [intOf]; omega
                | cons f0 fl =>
                  obtain ⟨fl', hfl'⟩ : ∃ fl', fl' = f0 :: fl := ⟨_, rfl⟩
                  rw [← hfl'] at HFC hfl hlk HV2 ⊢
                  have hfp : (0 : Int) < (fl'.length : Int) := by rw [hfl']; simp
                  rw [if_pos (by rw [hfl']; simp)] at hlk
                  have HLK := Lib.hid hlk
                  clear hfl' hlk hcol
                  go_wp2_with (at_builtin; refine wpList_append_g _ rfl (.tmp 65) (.tmp 69) _ rfl E_lin elLin_good w.heap.size _ (lineG w.heap.size (w2.alloc _) _ _) out rfl ((hinv.below hb2).below ((Below.refl _ _).alloc (Nat.le_refl _) _)).hv ⟨w2.heap.size, 0, none⟩ 1 [.int .i64 (n : Int), .slice A2 fl'.length c2] rfl ⟨(n : Int), fl'⟩ rfl (cells_new _ _ _ _) (oneCells rfl) (fun b hb => ⟨hb.2.1, hb.2.2.1⟩) (hinv.fields_el hb2 HV2.out _) (by simp only [maxLen]; omega) (by omega) (by simp; omega) ?_; intro v4 w4 hown4 hg4 hat4)
                  have hi4 := ((hinv.below hb2).below ((Below.refl _ _).alloc (Nat.le_refl _) _)).line hown4 hg4 hat4
                  go_roundw
                  case rel => exact ⟨k + 1, k + 1, n + 1, _, ds, by omega, by omega, by omega, by go_num, by go_num, by go_num, hi4, by simp; omega, by omega, by unfold Hid; exact HLK.out⟩
                  case measure => simp [intOf]; omega
              · rw [if_pos hcol] at hlk
                have hbn : 0 ≤ bad := by have := HBD.out; omega
                have hbc : (col : Int) = bad + 1 := by have := HBD.out; omega
                rw [hbc] at hlk
                have HLK := Lib.hid hlk
                clear hlk hcol hbc
                go_wp2_with (at_builtin; refine wpList_append_sl _ rfl (.tmp 54) (.tmp 59) _ rfl E_dia elDia_good w.heap.size _ ds rfl ((hinv.below hb2).hd.alloc elDia_good _) ⟨w2.heap.size, 0, none⟩ 1 [.int .i64 (n : Int), .int .i64 (bad + 1), .int .i64 4] rfl ⟨(n : Int), bad + 1, 4⟩ rfl (cells_new _ _ _ _) (oneCells rfl) rfl (by simp only [maxLen]; omega) (by omega) (by simp; omega) ?_; intro v4 w4 hown4 hg4 hat4)
                have hi4 := ((hinv.below hb2).below ((Below.refl _ _).alloc (Nat.le_refl _) _)).diag hown4 hg4 hat4
                go_roundw
                case rel => exact ⟨k + 1, k + 1, n + 1, out, _, by omega, by omega, by omega, by go_num, by go_num, by go_num, hi4, by omega, by simp; omega, by unfold Hid; exact HLK.out⟩
                case measure => simp [intOf]; omega
      · have hdn := hsp.out.done (by omega)
        have hmn : (min (ds.length : Int) 50).toNat = min ds.length 50 := by omega
        have hm0 : (0 : Int) ≤ min (ds.length : Int) 50 := by omega
        have hm1 : min (ds.length : Int) 50 ≤ (cd : Int) := by omega
        have hm2 : min (ds.length : Int) 50 ≤ (ds.length : Int) := by omega
        have hfin : q = (out, ds.take 50) := by rw [HQ.out, ← hdn]
        have HF := Lib.hid hfin
        have HI := Lib.hid hinv
        have HMN := Lib.hid hmn
        clear hdn hfin hinv hsp hmn
        go_wp2
        go_region
        go_wp2
        go_ret2
        rw [HF.out, HMN.out]
        have hvs := HI.out.hv.sl elLin_good (F := fun b => w.heap.size ≤ b ∧ b < wr.heap.size) (fun b hb => ⟨hb.1, hb.2.1⟩) (fun b h1 h2 => ⟨h1, h2⟩)
        have hdss := OwnG.sl elDia_good (F := fun b => w.heap.size ≤ b ∧ b < wr.heap.size) HI.out.hd (fun b hb => hb.elim) (fun b h1 h2 => ⟨h1, h2⟩)
        have htk := hdss.take (k := min ds.length 50) (by omega)
        have he : ds.take (min ds.length 50) = ds.take 50 := by
          by_cases h : ds.length ≤ 50
          · rw [Nat.min_eq_left h, List.take_of_length_le (Nat.le_refl _), List.take_of_length_le h]
          · rw [Nat.min_eq_right (by omega)]
        rw [he] at htk
        refine split_doneN (hvs.keep elLin_good (fun _ _ => rfl) fun _ h => h) (htk.keep elDia_good (fun _ _ => rfl) fun _ h => h) (Below.drew HI.out.hb) fun e => ?_
        have e0 : ds = [] := by
          cases ds with
          | nil => rfl
          | cons a l => simp at e
        have h := HI.out.hn e0
        injection h with h1 h2 h3
        rw [h1, h3, e0]; rfl
end Go.Proofs.YtglkejlimeakbaaGreatDoor

namespace Go.Proofs.YtglkejlimeakbaaGreatDoor
open Go.RowKit

theorem rparse_ret {R' : Ending → World → Prop} {a : Act} {w : World} {x0 x1 v : Value} {g : Nat} (h2 : a.tmps[2]? = some (.pointer (some ⟨g, 0, none⟩))) (h3 : a.tmps[3]? = some v) (hb : Blk w g 35 #[x0, x1])
    (hd : a.defers = []) (hR : R' (.returned (.tuple #[.agg #[x0, x1], v])) w) : bodyPost Tryz.prog Tryz.f13 R' .ret a w := by
  obtain ⟨r0, r1, _⟩ := hb.duo
  refine bodyPost_ret (v := .tuple #[.agg #[x0, x1], v]) (by simp [results, Tryz.results13, go_sem, h2, h3, r0, r1]) hd hR
set_option maxRecDepth 100000 in
set_option maxHeartbeats 4000000 in
theorem r_Parse (s : ByteArray) (w : World) (hs : s.size ≤ 140737488351232) :
    Calls Tryz.prog 13 #[.string s] w (ModelPost w (parseM s.data.toList)) := by
  obtain ⟨res, hres⟩ : ∃ r, r = parseM s.data.toList := ⟨_, rfl⟩
  rw [← hres]
  unfold parseM at hres
  have hok := splitS_ok s.data.toList
  have hnef := splitS_ne s.data.toList
  obtain ⟨w0, hw0⟩ : ∃ x, x = w.alloc (.cells #[.slice none 0 0, .slice none 0 0] 35) := ⟨_, rfl⟩
  have hb0 : Below w.heap.size w w0 := by rw [hw0]; exact Below.alloc (Below.refl _ _) (Nat.le_refl _) _
  have hz0 : w0.heap.size = w.heap.size + 1 := by rw [hw0]; simp
  have hk0 : Blk w0 w.heap.size 35 #[.slice none 0 0, .slice none 0 0] := by rw [hw0]; exact Blk.new w _ _
  obtain ⟨⟨ls, ds⟩, hq⟩ : ∃ x, x = splitS s.data.toList := ⟨_, rfl⟩
  have hsp0 := ref_SplitN s w0 hs
  have hsp : Calls Tryz.prog 29 #[.string s] w0 fun e w2 => ∃ v d, e = .returned (.tuple #[v, d]) ∧ Sl 2 elLin w2 (fun b => w.heap.size < b ∧ b < w2.heap.size) v ls ∧ Sl 3 elDia w2 (fun b => w.heap.size < b ∧ b < w2.heap.size) d ds ∧ Below w.heap.size w w2 ∧ Blk w2 w.heap.size 35 #[.slice none 0 0, .slice none 0 0] ∧ (ds = [] → d = .slice none 0 0) := by
    refine hsp0.mono ?_
    rintro e w2 ⟨v, d, rfl, hv, hd, hb2, hn⟩
    rw [← hq] at hv hd hn
    exact ⟨v, d, rfl, hv.keep elLin_good (Same.refl _ _) (fun b hb => ⟨by have := hb.1; omega, hb.2⟩), hd.keep elDia_good (Same.refl _ _) (fun b hb => ⟨by have := hb.1; omega, hb.2⟩), hb0.trans (hb2.mono (by omega)), hk0.below hb2 (by omega), hn⟩
  rw [← hq] at hres hok hnef
  rw [hw0] at hsp
  simp only at hres hok hnef
  have HSP := Lib.hid hsp
  have HOK := Lib.hid hok
  have HNE := Lib.hid hnef
  clear hsp0 hsp hok hnef hq hk0 hb0 hz0 hw0
  clear w0
  by_cases hds : ds = []
  · rw [if_neg (by simpa using hds)] at hres
    subst hds
    have HR := Lib.hid hres
    have hlen0 : (([] : List Dia).length : Int) = 0 := rfl
    have hll := HOK.out.2.1
    clear hres
    go_enter Tryz.func13, Tryz.ntmps13
    go_wp2_with (go_at_call 29; refine HSP.out.mono ?_; rintro e w2 ⟨v, d, rfl, hv, hd, hb2, hk2, hn⟩; have hn2 := hn rfl; subst hn2; obtain ⟨Av, cv, rfl, hcv, hcv'⟩ := hv.shape; have hlt := hk2.lt; have HB2 := Lib.hid hb2; have HK2 := Lib.hid hk2; have HV := Lib.hid hv; clear hb2 hk2 hv hd hn)
    have HS := Lib.hid (MR.start w2)
    go_loopw [24, 5] (fun i dv wr => ∃ (k : Nat) (K : Nat → Prop) (m : Mdl) (bv wv : Value) (ds all : List Dia), k ≤ ls.length ∧ i = .int .i64 k ∧ Hid (MR w2 wr K m bv wv dv ds) ∧ Hid (m.bats.length ≤ k ∧ m.bows.length ≤ k) ∧ ds.length ≤ k ∧ Hid (ds = all) ∧ Hid (linesM (ls.drop k) m all = linesM ls noMdl []) ∧ (∃ A c, dv = .slice A ds.length c ∧ ds.length ≤ c ∧ c ≤ 9223372036854775807))
      (fun i _ _ => ls.length - (intOf i).toNat)
    case atStart => exact ⟨0, _, noMdl, _, _, [], [], Nat.zero_le _, rfl, HS, Lib.hid ⟨Nat.le_refl _, Nat.le_refl _⟩, Nat.le_refl _, Lib.hid rfl, Lib.hid rfl, ⟨_, _, rfl, Nat.le_refl _, by decide⟩⟩
    case round =>
      clear HS
      obtain ⟨k, K, m, bv, wv, ds, all, hk, rfl, HM, HML, hdl, HDS, HLF, ⟨Ad, cd, rfl, hcd, hcd'⟩⟩ := hrel
      by_cases hlt2 : k < ls.length
      · obtain ⟨b, o, cs, rfl, hF, hcl, hcc, hel⟩ := HV.out.at hlt2
        have hox := HOK.out.1 _ (List.getElem_mem hlt2)
        have hnx := HNE.out _ (List.getElem_mem hlt2)
        have hlk := HLF.out
        rw [linesM_at hlt2] at hlk
        have htl := takeM_len m ls[k]
        obtain ⟨⟨xn, fs⟩, hx⟩ : ∃ x, x = ls[k] := ⟨_, rfl⟩
        rw [← hx] at hel hlk hox hnx htl
        obtain ⟨fv, rfl, hfl⟩ := hel
        dsimp only at hfl hcc
        obtain ⟨A2, c2, rfl, hf1, hf2⟩ := hfl.shape
        obtain ⟨n2, hn2⟩ : ∃ n, n = fs.length := ⟨_, rfl⟩
        rw [← hn2] at hcc hfl hf1
        have x0 : wr.cell? ⟨b, o + k * 2, none⟩ = some (.int .i64 xn) := (HM.out.bel.cell (p := ⟨b, o + k * 2, none⟩) hF.2).trans (hcc 0 _ rfl)
        have x1 : wr.cell? ⟨b, o + k * 2 + 1, none⟩ = some (.slice A2 n2 c2) := (HM.out.bel.cell (p := ⟨b, o + k * 2 + 1, none⟩) hF.2).trans (hcc 1 _ rfl)
        have ktk := r_take ⟨xn, fs⟩ (.slice A2 n2 c2) _ (HM.out.alloc (.cells #[.int .i64 xn, .slice A2 n2 c2] 56)) (hfl.keep elFld_good (Same.below (HM.out.alloc _).bel fun b hb => hb.2) fun _ h => h) (fun b hb => by have := hb.2; have := HM.out.bel.size; simp; omega) hox hnx ⟨by have := HML.out.1; omega, by have := HML.out.2; omega⟩
        have HML2 := Lib.hid (show (takeM m ⟨xn, fs⟩).1.bats.length ≤ k + 1 ∧ (takeM m ⟨xn, fs⟩).1.bows.length ≤ k + 1 from ⟨by have := HML.out.1; have := htl.1; omega, by have := HML.out.2; have := htl.2; omega⟩)
        obtain ⟨⟨m2, od⟩, htm⟩ : ∃ y, y = takeM m ⟨xn, fs⟩ := ⟨_, rfl⟩
        rw [← htm] at ktk hlk HML2
        dsimp only at ktk hlk HML2
        have HLK := Lib.hid hlk
        clear hfl hcc hx hox hnx hcl hF hlk htl htm hn2 hf1 hf2
        cases od with
        | none =>
          unfold TakePost closeV at ktk
          have KT := Lib.hid ktk
          clear ktk
          go_wp2_with (go_at_call 42; refine KT.out.mono ?_; rintro e w3 ⟨rfl, K3, bv3, wv3, hm3⟩; have HM3 := Lib.hid hm3; clear hm3)
          go_roundw
          case rel => exact ⟨k + 1, K3, m2, bv3, wv3, ds, _, by omega, by go_num, Lib.hid (HM3.out.alloc _), HML2, by omega, Lib.hid (by rw [HDS.out]; simp), Lib.hid HLK.out, ⟨_, _, rfl, hcd, hcd'⟩⟩
          case measure => simp [intOf]; omega
        | some d =>
          obtain ⟨dl, dc, dk⟩ := d
          unfold TakePost closeV at ktk
          dsimp only at ktk
          have KT := Lib.hid ktk
          clear ktk
          go_wp2_with (first
            | (go_at_call 42; refine KT.out.mono ?_; rintro e w3 ⟨rfl, K3, bv3, wv3, hm3⟩; have hz3 := hm3.lt; have HM3 := Lib.hid hm3; clear hm3)
            | (at_builtin; refine wpList_append_sl _ rfl (.tmp 34) (.tmp 36) _ rfl E_dia elDia_good (w2.heap.size + 1) _ ds rfl ((HM3.out.alloc _).dia.alloc elDia_good _) ⟨w3.heap.size + 1, 0, none⟩ 1 [.int .i64 dl, .int .i64 dc, .int .i64 dk] rfl ⟨dl, dc, dk⟩ rfl (cells_at5 _ _ (by simp) _ _) (oneCells rfl) rfl (by simp only [maxLen]; omega) (by omega) (by simp; omega) ?_; intro v5 w5 hown5 hg5 hat5; have hm5 := (HM3.out.alloc _).diag hown5 hg5 hat5; obtain ⟨A5, c5, hv5, hc5, hc5'⟩ := (OwnSl.sl elDia_good hown5).shape; rw [List.length_append, List.length_singleton] at hv5 hc5; subst hv5; have HM5 := Lib.hid hm5; clear hown5 hg5 hat5 hm5))
          go_roundw
          case rel => exact ⟨k + 1, K3, m2, bv3, wv3, _, _, by omega, by go_num, HM5, HML2, by simp; omega, Lib.hid (by rw [HDS.out]; rfl), Lib.hid HLK.out, ⟨_, _, by rw [List.length_append]; rfl, by rw [List.length_append]; exact hc5, hc5'⟩⟩
          case measure => simp [intOf]; omega
      · have hke : k = ls.length := by omega
        have ho := HLF.out
        rw [List.drop_eq_nil_of_le (by omega), linesM] at ho
        have hr := HR.out
        rw [← ho] at hr
        dsimp only at hr
        obtain ⟨Ab, cb, hbv, _, _⟩ := (HM.out.mdl.bat).shape
        obtain ⟨Aw, cw, hwv, _, _⟩ := (HM.out.mdl.bow).shape
        subst hbv hwv
        have hwr := HM.out.lt
        have HBW := Lib.hid (show Below w.heap.size w wr from HB2.out.trans (HM.out.bel.mono (by omega)))
        have HKR := Lib.hid (HK2.out.below HM.out.bel hlt)
        obtain ⟨r0, r1, f0, f1⟩ := HKR.out.duo
        by_cases hd0 : ds = []
        · have hall : all = [] := HDS.out.symm.trans hd0
          subst hd0
          rw [hall, if_neg (by simp)] at hr
          have kc := r_Check m _ _ wr (HM.out.mdl.keep (Same.refl _ _) fun b hb => hb.2)
          have hlen1 : (([] : List Dia).length : Int) = 0 := rfl
          obtain ⟨y0, y1, _, _⟩ := HM.out.duo
          obtain ⟨e, he⟩ : ∃ e, e = checkM m := ⟨_, rfl⟩
          rw [← he] at kc hr
          have HCK := Lib.hid kc
          by_cases hz : e = 0
          · rw [if_neg (by simpa using hz)] at hr
            subst hz
            have HRR := Lib.hid hr
            clear hr he hall kc ho HLF
            go_wp2_with (go_at_call 43; refine HCK.out.mono ?_; rintro x w9 ⟨rfl, hb9⟩; obtain ⟨z0, z1, _, _⟩ := (HM.out.below hb9).duo; obtain ⟨r0, r1, f0, f1⟩ := (HKR.out.below hb9 (by omega)).duo; have hz9 := hb9.size; have HB9 := Lib.hid hb9; clear hb9)
            refine rparse_ret rfl rfl (blk_put2m (HKR.out.below HB9.out (by omega)) _ _) rfl ?_
            rw [HRR.out]
            exact mparse_mdl rfl (HBW.out.trans (HB9.out.mono (by omega))) (by omega) (HM.out.below HB9.out).mdl fun b hb => ⟨by have := hb.1; omega, hb.2⟩
          · rw [if_pos hz] at hr
            have e9 : (e != 0) = true := by simp [hz]
            have HRR := Lib.hid hr
            clear hr hz he hall kc ho HLF
            go_wp2_with (go_at_call 43; refine HCK.out.mono ?_; rintro x w9 ⟨rfl, hb9⟩; obtain ⟨r0, r1, f0, f1⟩ := (HKR.out.below hb9 (by omega)).duo; have hz9 := hb9.size; have hl9 : w.heap.size < w9.heap.size := Nat.lt_of_lt_of_le (Nat.lt_trans hlt hwr) hb9.size; have HB9 := Lib.hid hb9; clear hb9)
            refine rparse_ret rfl rfl ((blk_put2m (HKR.out.below HB9.out (by omega)) _ _).alloc _) rfl ?_
            rw [HRR.out]
            exact mparse_one rfl (HBW.out.trans (HB9.out.mono (by omega))) hl9 rfl
        · have hpos : 0 < ds.length := List.length_pos_iff.2 hd0
          have hne : all ≠ [] := fun e => hd0 (by rw [HDS.out, e])
          rw [if_pos hne] at hr
          have HRR := Lib.hid hr
          have d0 : (0 : Int) < (ds.length : Int) := by omega
          have hmn : (min (ds.length : Int) 50).toNat = min ds.length 50 := by omega
          have hm0 : (0 : Int) ≤ min (ds.length : Int) 50 := by omega
          have hm1 : min (ds.length : Int) 50 ≤ (cd : Int) := by omega
          have hm2 : min (ds.length : Int) 50 ≤ (ds.length : Int) := by omega
          have he : ds.take (min ds.length 50) = ds.take 50 := by
            by_cases h : ds.length ≤ 50
            · rw [Nat.min_eq_left h, List.take_of_length_le (Nat.le_refl _), List.take_of_length_le h]
            · rw [Nat.min_eq_right (by omega)]
          have htk := Lib.hid ((OwnSl.sl elDia_good HM.out.dia).take (k := min ds.length 50) (by omega))
          have HE := Lib.hid he
          have HMN := Lib.hid hmn
          clear hr hne ho HLF hd0 he hmn
          go_wp2
          go_region
          all_goals go_wp2
          all_goals
            refine rparse_ret rfl rfl (Blk.drew (blk_put2m HKR.out _ _)) rfl ?_
            rw [HRR.out, ← HDS.out, HMN.out, ← HE.out]
            exact (mparse_ds rfl HBW.out (by omega) htk.out fun b hb => ⟨by have := hb.1; omega, hb.2⟩).drew
  · rw [if_pos hds] at hres
    have HR := Lib.hid hres
    have hpos : 0 < ds.length := List.length_pos_iff.2 hds
    have d0 : (0 : Int) < ds.length := by omega
    clear hds hres
    go_enter Tryz.func13, Tryz.ntmps13
    go_wp2_with (go_at_call 29; refine HSP.out.mono ?_; rintro e w2 ⟨v, d, rfl, hv, hd, hb2, hk2, _⟩; obtain ⟨Av, cv, rfl, hcv, hcv'⟩ := hv.shape; obtain ⟨Ad, cd, rfl, hcd, hcd'⟩ := hd.shape; have hlt := hk2.lt; obtain ⟨r0, r1, f0, f1⟩ := hk2.duo; have HB2 := Lib.hid hb2; have HK2 := Lib.hid hk2; have HD := Lib.hid hd; clear hb2 hk2 hv hd)
    refine rparse_ret rfl rfl (blk_put2m HK2.out _ _) rfl ?_
    rw [HR.out]
    exact mparse_ds rfl HB2.out hlt HD.out fun b hb => hb
end Go.Proofs.YtglkejlimeakbaaGreatDoor

namespace Go.Proofs.YtglkejlimeakbaaGreatDoor
open Go.RowKit

theorem neq_dia (a b c : Int) (W : World) : (binOp .neq 41 (.agg #[.int .i64 a, .int .i64 b, .int .i64 c]) (.agg #[.int .i64 a, .int .i64 b, .int .i64 c])).run Tryz.prog W = .ok (.bool false) W := by
  simp [go_sem]
theorem dia_at {w : World} {F : Nat → Prop} {A : Option Addr} {n c : Nat} {l : List Dia} (h : Sl 3 elDia w F (.slice A n c) l) {k : Nat} (hk : k < l.length) :
    ∃ b o, A = some ⟨b, o, none⟩ ∧ F b ∧ w.cell? ⟨b, o + k * 3, none⟩ = some (.int .i64 l[k].line) ∧ w.cell? ⟨b, o + k * 3 + 1, none⟩ = some (.int .i64 l[k].col) ∧ w.cell? ⟨b, o + k * 3 + 2, none⟩ = some (.int .i64 l[k].code) := by
  obtain ⟨b, o, cs, h1, h2, h3, h4, h5⟩ := h.at hk
  have h5 : cs = _ := h5
  subst h5
  exact ⟨b, o, h1, h2, h4 0 _ rfl, h4 1 _ rfl, h4 2 _ rfl⟩
set_option maxRecDepth 100000 in
set_option maxHeartbeats 2000000 in
theorem law_ModelParses (s : ByteArray) (w : World) (hg : GlobN w) (hs : s.size ≤ maxLen) :
    Calls Tryz.prog 4 #[.string s] w fun e w' => e = .returned (.bool true) ∧ Below w.heap.size w w' := by
  have KAW := Lib.hid (fun W (hW : Below w.heap.size w W) => law43_awake W (hg.below hW))
  have tok0 : True := trivial
  by_cases hbig : 5000 < s.size
  · have g1 : (5000 : Int) < (s.size : Int) := by omega
    clear hg hs hbig
    go_enter Tryz.func4, Tryz.ntmps4
    go_wp2_with (clear tok0; go_at_call 11; refine (KAW.out _ (Below.refl _ _)).mono ?_; rintro e w1 ⟨rfl, hb⟩; have HB1 := Lib.hid hb; clear hb; have tok1 : True := trivial)
    go_ret
    exact ⟨rfl, HB1.out⟩
  · have g1 : ¬ (5000 : Int) < (s.size : Int) := by omega
    have k3 := fun W (hW : Below w.heap.size w W) => m_Parse s W (hg.below hW) (by omega)
    have k4 := fun W (hW : Below w.heap.size w W) => r_Parse s W (by omega)
    obtain ⟨⟨m, ds⟩, hR⟩ : ∃ R, R = parseM s.data.toList := ⟨_, rfl⟩
    rw [← hR] at k3 k4
    have K3 := Lib.hid k3
    have K4 := Lib.hid (show ∀ W, Below w.heap.size w W → Calls Tryz.prog 13 #[.string s] W (ModelPost W (m, ds)) from fun W hW => k4 W hW)
    have K6 := Lib.hid (fun (a b c d : Value) W (h1 : MdlAt W (· < W.heap.size) a b m) (h2 : MdlAt W (· < W.heap.size) c d m) => law43_same m a b c d W h1 h2)
    clear hg hs hbig k3 k4 hR
    go_enter Tryz.func4, Tryz.ntmps4
    go_wp2_with (first
      | (clear tok0; go_at_call 11; refine (KAW.out _ (Below.refl _ _)).mono ?_; rintro e w1 ⟨rfl, hb⟩; have HB1 := Lib.hid hb; clear hb; have tok1 : True := trivial)
      | (clear tok1; go_at_call 12; refine (K3.out _ HB1.out).mono ?_; rintro e w3 ⟨bv3, wv3, dv3, rfl, hm3, hd3, hb⟩; obtain ⟨A3, c3, hbv3, _, _⟩ := hm3.bat.shape; obtain ⟨B3, e3, hwv3, _, _⟩ := hm3.bow.shape; obtain ⟨D3, f3, hdv3, hf3, hf3'⟩ := hd3.shape; subst hbv3 hwv3 hdv3; have HB3 := Lib.hid ((HB1.out.trans (hb.mono HB1.out.size)).alloc (HB1.out.trans (hb.mono HB1.out.size)).size (.cells #[.slice A3 m.bats.length c3, .slice B3 m.bows.length e3] 35)); have HM3 := Lib.hid ((hm3.keep (G := (· < w3.heap.size)) (Same.refl _ _) (fun b hb => hb.2)).below (Below.alloc (Below.refl _ _) (Nat.le_refl _) (.cells #[.slice A3 m.bats.length c3, .slice B3 m.bows.length e3] 35))); have HD3 := Lib.hid (hd3.keep (G := (· < w3.heap.size)) elDia_good (Same.below (Below.alloc (Below.refl _ _) (Nat.le_refl _) (.cells #[.slice A3 m.bats.length c3, .slice B3 m.bows.length e3] 35)) fun b hb => hb.2) (fun b hb => hb.2)); have HX3 := Lib.hid (Blk.new w3 35 #[.slice A3 m.bats.length c3, .slice B3 m.bows.length e3]); clear hb hm3 hd3; have tok2 : True := trivial)
      | (clear tok2; go_at_call 13; refine (K4.out _ HB3.out).mono ?_; rintro e w4 ⟨bv4, wv4, dv4, rfl, hm4, hd4, hb⟩; obtain ⟨A4, c4, hbv4, _, _⟩ := hm4.bat.shape; obtain ⟨B4, e4, hwv4, _, _⟩ := hm4.bow.shape; obtain ⟨D4, f4, hdv4, hf4, hf4'⟩ := hd4.shape; subst hbv4 hwv4 hdv4; have hz3 := HX3.out.lt; have hz4 := hb.size; have hba : Below w4.heap.size w4 (w4.alloc (.cells #[.slice A4 m.bats.length c4, .slice B4 m.bows.length e4] 35)) := Below.alloc (Below.refl _ _) (Nat.le_refl _) _; have hbb := hb.trans (hba.mono hb.size); have HB4 := Lib.hid (HB3.out.trans (hbb.mono HB3.out.size)); have HM3' := Lib.hid (HM3.out.below hbb); have HM4 := Lib.hid ((hm4.keep (G := (· < w4.heap.size)) (Same.refl _ _) (fun b hb => hb.2)).below hba); have HD3' := Lib.hid (HD3.out.keep (G := (· < w3.heap.size)) elDia_good (Same.below hbb fun b hb => by have hb : b < w3.heap.size := hb; simp; omega) (fun b hb => hb)); have HD4 := Lib.hid (hd4.keep (G := (· < w4.heap.size)) elDia_good (Same.below hba fun b hb => hb.2) (fun b hb => hb.2)); obtain ⟨x0, x1, _, _⟩ := (HX3.out.below hbb HX3.out.lt).duo; clear hb hm4 hd4 hba hbb; have tok3 : True := trivial)
      | (clear tok3; go_at_call 14; refine (K6.out _ _ _ _ _ HM3'.out HM4.out).mono ?_; rintro e w6 ⟨rfl, hb⟩; have HB6 := Lib.hid (HB4.out.trans (hb.mono HB4.out.size)); have HD5 := Lib.hid (HD3'.out.keep (G := fun _ => True) elDia_good (Same.below hb fun b hb => by have hb : b < w3.heap.size := hb; have h1 := hz3; simp at h1 hz4 ⊢; omega) (fun _ _ => trivial)); have HD6 := Lib.hid (HD4.out.keep (G := fun _ => True) elDia_good (Same.below hb fun b hb => by have hb : b < w4.heap.size := hb; simp; omega) (fun _ _ => trivial)); clear hb; have tok4 : True := trivial))
    go_loopw [36] (fun i wr => ∃ k : Nat, k ≤ ds.length ∧ i = .int .i64 k ∧ ∃ n, wr = w6.drewN n) (fun i _ => ds.length - (intOf i).toNat)
    case atStart => exact ⟨0, Nat.zero_le _, rfl, 0, rfl⟩
    case round =>
      obtain ⟨k, hk, rfl, n, rfl⟩ := hrel
      by_cases hlt : k < ds.length
      · obtain ⟨b, o, rfl, _, y0, y1, y2⟩ := dia_at HD5.out hlt
        obtain ⟨b', o', rfl, _, z0, z1, z2⟩ := dia_at HD6.out hlt
        obtain ⟨⟨dl, dc, dk⟩, hd⟩ : ∃ d, d = ds[k] := ⟨_, rfl⟩
        rw [← hd] at y0 y1 y2 z0 z1 z2
        dsimp only at y0 y1 y2 z0 z1 z2
        have hcmp := fun W => neq_dia dl dc dk W
        clear hd
        go_wp2
        go_quiet (fail)
        go_wp2
        go_roundw
        case rel => exact ⟨k + 1, by omega, by go_num, _, rfl⟩
        case measure => simp [intOf]; omega
      · obtain rfl : k = ds.length := by omega
        go_wp2
        go_ret
        exact ⟨rfl, Below.drewN_ HB6.out _⟩
end Go.Proofs.YtglkejlimeakbaaGreatDoor
