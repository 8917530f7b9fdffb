/- The reference's contract: the fields of a line. -/
import Derived.Test.YtdgejeiiiholnaaGreatDoorF5
import Derived.Test.YtdgejeiiiholnaaGreatDoorT4
set_option linter.unusedSimpArgs false
set_option linter.unusedVariables false
namespace Go.Proofs.YtdgejeiiiholnaaGreatDoor
open Go.RowKit

/-- The reference hands back the index of the wrong byte, -1 if there is none. -/
def RFieldsPost (w : World) (q : List Fld × Nat) (e : Ending) (w' : World) : Prop :=
  ∃ v, e = .returned (.tuple #[v, .int .i64 ((q.2 : Int) - 1)]) ∧ Sl 3 elFld w' (fun b => w.heap.size ≤ b ∧ b < w'.heap.size) v q.1 ∧ Below w.heap.size w w'
theorem rfields_done {w w' : World} {q : List Fld × Nat} {v : Value} {n : Int} (x : List Fld) (m : Nat) (h : q = (x, m)) (hv : Sl 3 elFld w' (fun b => w.heap.size ≤ b ∧ b < w'.heap.size) v x) (hn : n = (m : Int) - 1) (hb : Below w.heap.size w w') :
    RFieldsPost w q (.returned (.tuple #[v, .int .i64 n])) w' := ⟨v, by rw [h, hn], by rw [h]; exact hv, hb⟩
theorem fieldsAt_after {s : ByteArray} {k : Nat} {out : List Fld} (h : k < s.size) (hc : whiteB s[k] = true ∨ s[k] = 59) : fieldsAt s k true out = fieldsAt s k false out := by
  rw [fieldsAt_cons s k true out h, fieldsAt_cons s k false out h]
  rcases hc with hc | hc
  · rw [if_pos hc, if_pos hc]
  · split
    · rfl
    · first | rfl | (rw [if_pos hc]; done) | (simp [hc])
theorem fieldsAt_stop {s : ByteArray} {k : Nat} {out : List Fld} (h : k < s.size) (h1 : whiteB s[k] = false) (h2 : s[k] ≠ 59) : fieldsAt s k true out = ([], k + 1) := by
  rw [fieldsAt_cons s k true out h, if_neg (by rw [h1]; simp), if_neg h2, if_pos rfl]
theorem wordLen_zero {s : ByteArray} {k : Nat} (h : k < s.size) (hw : wordB s[k] = false) : k = k + wordLen s k := by
  unfold wordLen
  rw [drop_cons s k h]
  simp [hw]
set_option maxRecDepth 100000 in
set_option maxHeartbeats 4000000 in
theorem ref_fields (s : ByteArray) (w : World) (hs : s.size ≤ 1000000) :
    Calls Tryz.prog 53 #[.string s] w (RFieldsPost w (fieldsS s.data.toList)) := by
  obtain ⟨q, hq⟩ : ∃ q, q = fieldsS s.data.toList := ⟨_, rfl⟩
  rw [← hq]
  have HQ := Lib.hid hq
  clear hq
  go_enter Tryz.func53, Tryz.ntmps53
  go_wp2
  go_loopw [4, 5] (fun v j wr => ∃ (k : Nat) (out : List Fld), k ≤ s.size ∧ j = .int .i64 k ∧ OwnSl 3 elFld 33 w.heap.size wr v out ∧ out.length ≤ k ∧ Hid (fieldsAt s k false out = q) ∧ Below w.heap.size w wr)
    (fun _ j _ => s.size - (intOf j).toNat)
  case atStart => exact ⟨0, [], by omega, by go_num, OwnSl.nil _, by simp, (fieldsAt_zero s).trans HQ.out.symm, Below.refl _ _⟩
  case round =>
    obtain ⟨k, out, hk, rfl, hown, hout, hqk, hbel⟩ := hrel
    have hbs := hbel.size
    by_cases hlt : k < s.size
    · have hat := Lib.hid (fieldsAt_cons s k false out hlt)
      by_cases h59 : s[k] = 59
      · have c59 : ((s[k].toNat : Int) != 59) = false := by rw [h59]; rfl
        have hw : whiteB s[k] = false := by rw [h59]; decide
        have H59 := Lib.hid h59
        have Hw := Lib.hid hw
        clear h59 hw
        go_wp2
        go_ret2
        exact rfields_done out 0 (by rw [← hqk.out, hat.out, if_neg (by rw [Hw.out]; simp), if_pos H59.out]) (hown.sl elFld_good) rfl hbel
      · have c59 : ((s[k].toNat : Int) != 59) = true := by rw [bne_iff_ne]; exact fun e => h59 (byte_eq 59 e)
        have H59 := Lib.hid h59
        clear h59
        cases hw : whiteB s[k]
        · have Hw := Lib.hid hw
          by_cases h34 : s[k] = 34
          · have c34 : ((s[k].toNat : Int) == 34) = true := by rw [h34]; rfl
            have H34 := Lib.hid h34
            clear h34
            have HL := Lib.hid (quotedAt_len s (k + 1) [] hlt)
            obtain ⟨p, hp⟩ : ∃ p, p = quotedAt s (k + 1) [] := ⟨_, rfl⟩
            have HP := Lib.hid hp
            clear hp
            have hcq : ∀ W, Calls Tryz.prog 94 #[.string s, .int .i64 k] W fun e w' => e = .returned (rqV p) ∧ w' = W := by
              intro W; rw [HP.out]; exact ref_quoted s k W hlt (by omega)
            obtain ⟨px, pn, pb⟩ := p
            have hpl : pn ≤ s.size ∧ (pb = true → k + 2 ≤ pn) := by
              have h1 := HL.out
              rw [← HP.out] at h1
              exact ⟨h1.2.1, h1.2.2⟩
            cases pb
            · have hcq' : ∀ W, Calls Tryz.prog 94 #[.string s, .int .i64 k] W fun e w' => e = .returned (.tuple #[.string ⟨#[]⟩, .int .i64 0, .int .i64 pn]) ∧ W = w' := fun W => (hcq W).mono fun _ _ h => ⟨h.1, h.2.symm⟩
              have HCQ := Lib.hid hcq'
              clear hcq hcq'
              go_wp2_with (first | (go_at_call 93; refine (ref_white _ _).mono ?_; rintro e w' ⟨rfl, rfl⟩) | (go_at_call 94; refine (HCQ.out _).mono ?_; rintro e w2 ⟨rfl, rfl⟩))
              go_ret2
              exact rfields_done [] (pn + 1) (by rw [← hqk.out, hat.out, if_neg (by rw [Hw.out]; simp), if_neg H59.out, if_neg (by simp), if_pos H34.out, ← HP.out]; rfl) (Sl.nil _ _) (by omega) hbel
            · have hpn := hpl.2 rfl
              have hpl1 := hpl.1
              have hcq' : ∀ W, Calls Tryz.prog 94 #[.string s, .int .i64 k] W fun e w' => e = .returned (.tuple #[.string (S px), .int .i64 pn, .int .i64 (-1)]) ∧ W = w' := fun W => (hcq W).mono fun _ _ h => ⟨h.1, h.2.symm⟩
              have HCQ := Lib.hid hcq'
              have hnx : fieldsAt s pn true (out ++ [⟨px, (k : Int) + 1, true⟩]) = q := by
                rw [← hqk.out, hat.out, if_neg (by rw [Hw.out]; simp), if_neg H59.out, if_neg (by simp), if_pos H34.out, ← HP.out]; rfl
              clear hcq hcq' hpl
              by_cases hps : pn < s.size
              · by_cases hn59 : s[pn] = 59
                · have n59 : ((s[pn].toNat : Int) != 59) = false := by rw [hn59]; rfl
                  have hnw : whiteB s[pn] = false := by rw [hn59]; decide
                  rw [fieldsAt_after hps (.inr hn59)] at hnx
                  have HNX := Lib.hid hnx
                  have HNW := Lib.hid hnw
                  clear hn59 hnw hnx
                  go_wp2_with (first | (have _t := tokW; go_at_call 93; refine (ref_white _ _).mono ?_; rintro e w' ⟨rfl, rfl⟩; rw [HNW.out]) | (go_at_call 93; refine (ref_white _ _).mono ?_; rintro e w' ⟨rfl, rfl⟩; rw [Hw.out]; have tokW : True := trivial) | (go_at_call 94; refine (HCQ.out _).mono ?_; rintro e w2 ⟨rfl, rfl⟩) | (at_builtin; refine wpList_append_sl _ rfl (.tmp 59) (.tmp 64) _ rfl E_fld elFld_good w.heap.size _ out rfl (hown.alloc elFld_good _) ⟨wr.heap.size, 0, none⟩ 1 [.string (S px), .int .i64 ((k : Int) + 1), .bool true] rfl ⟨px, (k : Int) + 1, true⟩ rfl (cells_new _ _ _ _) (oneCells rfl) rfl (by simp only [maxLen]; omega) (by omega) (by simp; omega) ?_; intro v1 w1 hown1 hg1 hat1))
                  have hb1 := below_own (hbel.alloc hbs _) (hown.alloc elFld_good _) hg1 (Nat.le_refl _) (by simp; omega)
                  go_roundw
                  case rel => exact ⟨pn, _, hpl1, rfl, hown1, by simp; omega, HNX.out, hb1⟩
                  case measure => simp [intOf]; omega
                · have n59 : ((s[pn].toNat : Int) != 59) = true := by rw [bne_iff_ne]; exact fun e => hn59 (byte_eq 59 e)
                  cases hnw : whiteB s[pn]
                  · have HN := Lib.hid (fieldsAt_stop (out := out ++ [⟨px, (k : Int) + 1, true⟩]) hps hnw hn59)
                    have HNX := Lib.hid hnx
                    have HNW := Lib.hid hnw
                    clear hn59 hnx
                    go_wp2_with (first | (have _t := tokW; go_at_call 93; refine (ref_white _ _).mono ?_; rintro e w' ⟨rfl, rfl⟩; rw [HNW.out]) | (go_at_call 93; refine (ref_white _ _).mono ?_; rintro e w' ⟨rfl, rfl⟩; rw [Hw.out]; have tokW : True := trivial) | (go_at_call 94; refine (HCQ.out _).mono ?_; rintro e w2 ⟨rfl, rfl⟩))
                    go_ret2
                    exact rfields_done [] (pn + 1) (by rw [← HNX.out, HN.out]) (Sl.nil _ _) (by omega) hbel
                  · rw [fieldsAt_after hps (.inl hnw)] at hnx
                    have HNX := Lib.hid hnx
                    have HNW := Lib.hid hnw
                    clear hn59 hnx
                    go_wp2_with (first | (have _t := tokW; go_at_call 93; refine (ref_white _ _).mono ?_; rintro e w' ⟨rfl, rfl⟩; rw [HNW.out]) | (go_at_call 93; refine (ref_white _ _).mono ?_; rintro e w' ⟨rfl, rfl⟩; rw [Hw.out]; have tokW : True := trivial) | (go_at_call 94; refine (HCQ.out _).mono ?_; rintro e w2 ⟨rfl, rfl⟩) | (at_builtin; refine wpList_append_sl _ rfl (.tmp 59) (.tmp 64) _ rfl E_fld elFld_good w.heap.size _ out rfl (hown.alloc elFld_good _) ⟨wr.heap.size, 0, none⟩ 1 [.string (S px), .int .i64 ((k : Int) + 1), .bool true] rfl ⟨px, (k : Int) + 1, true⟩ rfl (cells_new _ _ _ _) (oneCells rfl) rfl (by simp only [maxLen]; omega) (by omega) (by simp; omega) ?_; intro v1 w1 hown1 hg1 hat1))
                    have hb1 := below_own (hbel.alloc hbs _) (hown.alloc elFld_good _) hg1 (Nat.le_refl _) (by simp; omega)
                    go_roundw
                    case rel => exact ⟨pn, _, hpl1, rfl, hown1, by simp; omega, HNX.out, hb1⟩
                    case measure => simp [intOf]; omega
              · have hpe : fieldsAt s pn true (out ++ [⟨px, (k : Int) + 1, true⟩]) = fieldsAt s pn false (out ++ [⟨px, (k : Int) + 1, true⟩]) := by rw [fieldsAt_end s pn true _ (by omega), fieldsAt_end s pn false _ (by omega)]
                rw [hpe] at hnx
                have HNX := Lib.hid hnx
                clear hnx hpe
                go_wp2_with (first | (go_at_call 93; refine (ref_white _ _).mono ?_; rintro e w' ⟨rfl, rfl⟩; rw [Hw.out]) | (go_at_call 94; refine (HCQ.out _).mono ?_; rintro e w2 ⟨rfl, rfl⟩) | (at_builtin; refine wpList_append_sl _ rfl (.tmp 59) (.tmp 64) _ rfl E_fld elFld_good w.heap.size _ out rfl (hown.alloc elFld_good _) ⟨wr.heap.size, 0, none⟩ 1 [.string (S px), .int .i64 ((k : Int) + 1), .bool true] rfl ⟨px, (k : Int) + 1, true⟩ rfl (cells_new _ _ _ _) (oneCells rfl) rfl (by simp only [maxLen]; omega) (by omega) (by simp; omega) ?_; intro v1 w1 hown1 hg1 hat1))
                have hb1 := below_own (hbel.alloc hbs _) (hown.alloc elFld_good _) hg1 (Nat.le_refl _) (by simp; omega)
                go_roundw
                case rel => exact ⟨pn, _, hpl1, rfl, hown1, by simp; omega, HNX.out, hb1⟩
                case measure => simp [intOf]; omega
          · have c34 : ((s[k].toNat : Int) == 34) = false := beq_eq_false_iff_ne.2 fun e => h34 (byte_eq 34 e)
            have H34 := Lib.hid h34
            clear h34
            go_wp2_with (go_at_call 93; refine (ref_white _ _).mono ?_; rintro e w' ⟨rfl, rfl⟩; rw [Hw.out])
            go_loop [5] (fun x => ∃ j : Nat, k ≤ j ∧ j ≤ s.size ∧ x = .int .i64 j ∧ Hid (j - k ≤ wordLen s k)) (fun x => s.size - (intOf x).toNat)
            case atStart => exact ⟨k, Nat.le_refl _, hk, rfl, by unfold Hid; omega⟩
            case round =>
              obtain ⟨j, hkj, hjs, rfl, hjw⟩ := hrel
              by_cases hjl : j < s.size
              · cases hwb : wordB s[j]
                · have hst := Lib.hid (word_stop s k j hkj hjl hjw.out hwb)
                  have hhd := Lib.hid ((head_drop s j).trans (dif_pos hjl))
                  have HWB := Lib.hid hwb
                  have hj0 := Lib.hid (wordLen_zero hjl hwb)
                  clear hwb
                  by_cases hsp : whiteB s[j] = true ∨ s[j] = 59
                  · have hjk : ¬ j = k := by
                      rintro rfl
                      rcases hsp with h | h
                      · have hw2 := Hw.out; rw [h] at hw2; cases hw2
                      · exact H59.out h
                    have hj34 : s[j] ≠ 34 := by
                      rcases hsp with h | h
                      · intro e; rw [e] at h; revert h; decide
                      · rw [h]; decide
                    have hnx : fieldsAt s j false (out ++ [⟨(s.extract k j).data.toList, (k : Int) + 1, false⟩]) = q := by
                      rw [← hqk.out, fieldsAt_word s k out j hlt Hw.out H59.out H34.out hst.out hjk (by rw [hhd.out]; exact fun e => hj34 (Option.some.inj e)), word_text s k j hst.out]
                    have HNX := Lib.hid hnx
                    have hkj' : k < j := by omega
                    have hn59 : s[j] = 59 ∨ s[j] ≠ 59 := Classical.em _
                    clear hnx hj34 hjk
                    cases hwj : whiteB s[j]
                    · have h59j : s[j] = 59 := by
                        rcases hsp with h | h
                        · rw [hwj] at h; cases h
                        · exact h
                      have n59 : ((s[j].toNat : Int) != 59) = false := by rw [h59j]; rfl
                      have HWJ := Lib.hid hwj
                      clear hsp hn59 h59j
                      go_wp2_with (first | (go_at_call 93; refine (ref_white _ _).mono ?_; rintro e w' ⟨rfl, rfl⟩; rw [HWJ.out]) | (go_at_call 95; refine (ref_wordByte _ _).mono ?_; rintro e w' ⟨rfl, rfl⟩; rw [HWB.out]) | (at_builtin; refine wpList_append_sl _ rfl (.tmp 97) (.tmp 105) _ rfl E_fld elFld_good w.heap.size _ out rfl (hown.alloc elFld_good _) ⟨wr.heap.size, 0, none⟩ 1 [.string (s.extract k j), .int .i64 ((k : Int) + 1), .bool false] rfl ⟨(s.extract k j).data.toList, (k : Int) + 1, false⟩ rfl (cells_new _ _ _ _) (oneCells rfl) rfl (by simp only [maxLen]; omega) (by omega) (by simp; omega) ?_; intro v1 w1 hown1 hg1 hat1))
                      have hb1 := below_own (hbel.alloc hbs _) (hown.alloc elFld_good _) hg1 (Nat.le_refl _) (by simp; omega)
                      go_roundw
                      case rel => exact ⟨j, _, hjs, rfl, hown1, by simp; omega, HNX.out, hb1⟩
                      case measure => simp [intOf]; omega
                    · have HWJ := Lib.hid hwj
                      clear hsp hn59
                      go_wp2_with (first | (go_at_call 93; refine (ref_white _ _).mono ?_; rintro e w' ⟨rfl, rfl⟩; rw [HWJ.out]) | (go_at_call 95; refine (ref_wordByte _ _).mono ?_; rintro e w' ⟨rfl, rfl⟩; rw [HWB.out]) | (at_builtin; refine wpList_append_sl _ rfl (.tmp 97) (.tmp 105) _ rfl E_fld elFld_good w.heap.size _ out rfl (hown.alloc elFld_good _) ⟨wr.heap.size, 0, none⟩ 1 [.string (s.extract k j), .int .i64 ((k : Int) + 1), .bool false] rfl ⟨(s.extract k j).data.toList, (k : Int) + 1, false⟩ rfl (cells_new _ _ _ _) (oneCells rfl) rfl (by simp only [maxLen]; omega) (by omega) (by simp; omega) ?_; intro v1 w1 hown1 hg1 hat1))
                      have hb1 := below_own (hbel.alloc hbs _) (hown.alloc elFld_good _) hg1 (Nat.le_refl _) (by simp; omega)
                      go_roundw
                      case rel => exact ⟨j, _, hjs, rfl, hown1, by simp; omega, HNX.out, hb1⟩
                      case measure => simp [intOf]; omega
                  · have hw2 : whiteB s[j] = false := by rw [Bool.eq_false_iff]; exact fun h => hsp (.inl h)
                    have h592 : s[j] ≠ 59 := fun h => hsp (.inr h)
                    have n59 : ((s[j].toNat : Int) != 59) = true := by rw [bne_iff_ne]; exact fun e => h592 (byte_eq 59 e)
                    have hfin : q = ([], j + 1) := by
                      by_cases hb : j = k ∨ s[j] = 34
                      · rw [← hqk.out]
                        refine fieldsAt_word_bad s k out j hlt Hw.out H59.out H34.out hst.out ?_
                        rcases hb with hb | hb
                        · exact .inl hb
                        · exact .inr (by rw [hhd.out, hb])
                      · have hjk : ¬ j = k := fun h => hb (.inl h)
                        have hj34 : s[j] ≠ 34 := fun h => hb (.inr h)
                        rw [← hqk.out, fieldsAt_word s k out j hlt Hw.out H59.out H34.out hst.out hjk (by rw [hhd.out]; exact fun e => hj34 (Option.some.inj e))]
                        exact fieldsAt_word_bad s j _ j hjl hw2 h592 hj34 hj0.out (.inl rfl)
                    have HF := Lib.hid hfin
                    have HWJ := Lib.hid hw2
                    clear hfin hw2 h592 hsp
                    go_wp2_with (first | (go_at_call 93; refine (ref_white _ _).mono ?_; rintro e w' ⟨rfl, rfl⟩; rw [HWJ.out]) | (go_at_call 95; refine (ref_wordByte _ _).mono ?_; rintro e w' ⟨rfl, rfl⟩; rw [HWB.out]))
                    go_ret2
                    exact rfields_done [] (j + 1) HF.out (Sl.nil _ _) (by omega) hbel
                · have hnx := Lib.hid (word_next s k j hkj hjl hjw.out hwb)
                  have HWB := Lib.hid hwb
                  clear hwb
                  go_wp2_with (go_at_call 95; refine (ref_wordByte _ _).mono ?_; rintro e w' ⟨rfl, rfl⟩; rw [HWB.out])
                  go_round
                  case rel => exact ⟨j + 1, by omega, by omega, by go_num, hnx.out⟩
                  case measure => simp [intOf]; omega
              · obtain rfl : j = s.size := by omega
                have hst := Lib.hid (word_full s k hk hjw.out)
                have hhd := Lib.hid ((head_drop s s.size).trans (dif_neg (by omega)))
                have hnx : fieldsAt s s.size false (out ++ [⟨(s.extract k s.size).data.toList, (k : Int) + 1, false⟩]) = q := by
                  rw [← hqk.out, fieldsAt_word s k out s.size hlt Hw.out H59.out H34.out hst.out (by omega) (by rw [hhd.out]; simp), word_text s k s.size hst.out]
                have HNX := Lib.hid hnx
                clear hnx
                go_wp2_with (at_builtin; refine wpList_append_sl _ rfl (.tmp 97) (.tmp 105) _ rfl E_fld elFld_good w.heap.size _ out rfl (hown.alloc elFld_good _) ⟨wr.heap.size, 0, none⟩ 1 [.string (s.extract k s.size), .int .i64 ((k : Int) + 1), .bool false] rfl ⟨(s.extract k s.size).data.toList, (k : Int) + 1, false⟩ rfl (cells_new _ _ _ _) (oneCells rfl) rfl (by simp only [maxLen]; omega) (by omega) (by simp; omega) ?_; intro v1 w1 hown1 hg1 hat1)
                have hb1 := below_own (hbel.alloc hbs _) (hown.alloc elFld_good _) hg1 (Nat.le_refl _) (by simp; omega)
                go_roundw
                case rel => exact ⟨s.size, _, Nat.le_refl _, rfl, hown1, by simp; omega, HNX.out, hb1⟩
                case measure => simp [intOf]; omega
        · have Hw := Lib.hid hw
          go_wp2_with (go_at_call 93; refine (ref_white _ _).mono ?_; rintro e w' ⟨rfl, rfl⟩; rw [Hw.out])
          go_roundw
          case rel => exact ⟨k + 1, out, by omega, by go_num, hown, by omega, by unfold Hid; rw [← hqk.out, hat.out, if_pos Hw.out], hbel⟩
          case measure => simp [intOf]; omega
    · go_wp2
      go_ret2
      exact rfields_done out 0 (by rw [← hqk.out, fieldsAt_end s k false out (by omega)]) (hown.sl elFld_good) rfl hbel
end Go.Proofs.YtdgejeiiiholnaaGreatDoor
