/- The contract of text.fields. -/
import Derived.Test.YticfopjbaoigfaaGreatDoorT3
set_option linter.unusedSimpArgs false
set_option linter.unusedVariables false
namespace Go.Proofs.YticfopjbaoigfaaGreatDoor
open Go.RowKit

/-- What a function that hands back fields and a column leaves. -/
def FieldsPost (w : World) (q : List Fld × Nat) (e : Ending) (w' : World) : Prop :=
  ∃ v, e = .returned (.tuple #[v, .int .i64 q.2]) ∧ Sl 3 elFld w' (fun b => w.heap.size ≤ b ∧ b < w'.heap.size) v q.1 ∧ Below w.heap.size w w'
theorem fields_done {w w' : World} {q : List Fld × Nat} {v : Value} {n : Int} (x : List Fld) (m : Nat) (h : q = (x, m)) (hv : Sl 3 elFld w' (fun b => w.heap.size ≤ b ∧ b < w'.heap.size) v x) (hn : n = m) (hb : Below w.heap.size w w') :
    FieldsPost w q (.returned (.tuple #[v, .int .i64 n])) w' := ⟨v, by rw [h, hn], by rw [h]; exact hv, hb⟩

set_option maxRecDepth 100000 in
set_option maxHeartbeats 2000000 in
theorem text_fields (s : ByteArray) (w : World) (hs : s.size ≤ 1000000) :
    Calls Tryz.prog 65 #[.string s] w (FieldsPost w (fieldsS s.data.toList)) := by
  obtain ⟨q, hq⟩ : ∃ q, q = fieldsS s.data.toList := ⟨_, rfl⟩
  rw [← hq]
  have HQ := Lib.hid hq
  clear hq
  go_enter Tryz.func65, Tryz.ntmps65
  go_wp2
  go_loopw [4, 5, 6] (fun v a j wr => ∃ (k : Nat) (after : Bool) (out : List Fld), k ≤ s.size ∧ a = .bool after ∧ j = .int .i64 k ∧ OwnSl 3 elFld 83 w.heap.size wr v out ∧ out.length ≤ k ∧ Hid (fieldsAt s k after out = q) ∧ Below w.heap.size w wr)
    (fun _ _ j _ => s.size - (intOf j).toNat)
  case atStart => exact ⟨0, false, [], by omega, rfl, by go_num, OwnSl.nil _, by simp, (fieldsAt_zero s).trans HQ.out.symm, Below.refl _ _⟩
  case round =>
    obtain ⟨k, after, out, hk, rfl, rfl, hown, hout, hqk, hbel⟩ := hrel
    have hbs := hbel.size
    by_cases hlt : k < s.size
    · have hat := Lib.hid (fieldsAt_cons s k after out hlt)
      cases hw : whiteB s[k]
      · have Hw := Lib.hid hw
        by_cases h59 : s[k] = 59
        · have c59 : ((s[k].toNat : Int) == 59) = true := by rw [h59]; rfl
          have H59 := Lib.hid h59
          clear h59
          go_wp2_with (go_at_call 98; refine (text_white _ _).mono ?_; rintro e w' ⟨rfl, rfl⟩)
          go_ret2
          exact fields_done out 0 (by rw [← hqk.out, hat.out, if_neg (by rw [Hw.out]; simp), if_pos H59.out]) (hown.sl elFld_good) rfl hbel
        · have c59 : ((s[k].toNat : Int) == 59) = false := beq_eq_false_iff_ne.2 fun e => h59 (byte_eq 59 e)
          have H59 := Lib.hid h59
          clear h59
          cases after
          · by_cases h34 : s[k] = 34
            · have c34 : ((s[k].toNat : Int) == 34) = true := by rw [h34]; rfl
              have H34 := Lib.hid h34
              clear h34
              have HL := Lib.hid (quotedAt_len s (k + 1) [] hlt)
              obtain ⟨p, hp⟩ : ∃ p, p = quotedAt s (k + 1) [] := ⟨_, rfl⟩
              have HP := Lib.hid hp
              clear hp
              have hcq : ∀ W, Calls Tryz.prog 99 #[.string s, .int .i64 k] W fun e w' => e = .returned (.tuple #[.string (S p.1), .int .i64 p.2.1, .bool p.2.2]) ∧ Below W.heap.size W w' := by
                intro W; rw [HP.out]; exact text_quoted s k W hlt (by omega)
              have HCQ := Lib.hid hcq
              clear hcq
              obtain ⟨px, pn, pb⟩ := p
              have hpl : pn ≤ s.size ∧ (pb = true → k + 2 ≤ pn) := by
                have h1 := HL.out
                rw [← HP.out] at h1
                exact ⟨h1.2.1, h1.2.2⟩
              cases pb
              · go_wp2_with (first | (go_at_call 98; refine (text_white _ _).mono ?_; rintro e w' ⟨rfl, rfl⟩) | (go_at_call 99; refine (HCQ.out _).mono ?_; rintro e w2 ⟨rfl, hb2⟩))
                go_ret2
                exact fields_done [] (pn + 1) (by rw [← hqk.out, hat.out, if_neg (by rw [Hw.out]; simp), if_neg H59.out, if_neg (by simp), if_pos H34.out, ← HP.out]; rfl) (Sl.nil _ _) (by omega) (hbel.trans (hb2.mono hbs))
              · have hpn := hpl.2 rfl
                go_wp2_with (first | (go_at_call 98; refine (text_white _ _).mono ?_; rintro e w' ⟨rfl, rfl⟩) | (go_at_call 99; refine (HCQ.out _).mono ?_; rintro e w2 ⟨rfl, hb2⟩) | (at_builtin; refine wpList_append_sl _ rfl (.tmp 89) (.tmp 94) _ rfl E_fld elFld_good w.heap.size _ out rfl ((hown.below elFld_good hb2).alloc elFld_good _) ⟨w2.heap.size, 0, none⟩ 1 [.string (S px), .int .i64 ((k : Int) + 1), .bool true] rfl ⟨px, (k : Int) + 1, true⟩ rfl (cells_new _ _ _ _) (oneCells rfl) rfl (by simp only [maxLen]; omega) (by omega) (by have := hb2.size; simp; omega) ?_; intro v1 w1 hown1 hg1 hat1))
                have hb1 := below_own ((hbel.trans (hb2.mono hbs)).alloc (by have := hb2.size; omega) _) ((hown.below elFld_good hb2).alloc elFld_good _) hg1 (Nat.le_refl _) (by have := hb2.size; simp; omega)
                go_roundw
                case rel => exact ⟨pn, true, _, hpl.1, rfl, rfl, hown1, by simp; omega, by unfold Hid; rw [← hqk.out, hat.out, if_neg (by rw [Hw.out]; simp), if_neg H59.out, if_neg (by simp), if_pos H34.out, ← HP.out]; rfl, hb1⟩
                case measure => simp [intOf]; omega
            · have c34 : ((s[k].toNat : Int) == 34) = false := beq_eq_false_iff_ne.2 fun e => h34 (byte_eq 34 e)
              have H34 := Lib.hid h34
              clear h34
              go_wp2_with (go_at_call 98; refine (text_white _ _).mono ?_; rintro e w' ⟨rfl, rfl⟩)
              go_loop [10] (fun x => ∃ j : Nat, k ≤ j ∧ j ≤ s.size ∧ x = .int .i64 j ∧ Hid (j - k ≤ wordLen s k)) (fun x => s.size - (intOf x).toNat)
              case atStart => exact ⟨k, Nat.le_refl _, hk, rfl, by unfold Hid; omega⟩
              case round =>
                obtain ⟨j, hkj, hjs, rfl, hjw⟩ := hrel
                by_cases hjl : j < s.size
                · cases hwb : wordB s[j]
                  · have hst := Lib.hid (word_stop s k j hkj hjl hjw.out hwb)
                    have hhd := Lib.hid ((head_drop s j).trans (dif_pos hjl))
                    by_cases hjk : j = k
                    · have e1 : ((j : Int) == (k : Int)) = true := beq_iff_eq.2 (by omega)
                      have Hjk := Lib.hid hjk
                      clear hjk
                      go_wp2_with (go_at_call 100; refine (text_wordByte _ _).mono ?_; rintro e w' ⟨rfl, rfl⟩)
                      go_ret2
                      exact fields_done [] (j + 1) (by rw [← hqk.out, fieldsAt_word_bad s k out j hlt Hw.out H59.out H34.out hst.out (.inl Hjk.out)]) (Sl.nil _ _) (by omega) hbel
                    · have e1 : ((j : Int) == (k : Int)) = false := beq_eq_false_iff_ne.2 (by omega)
                      have hkj' : k < j := by omega
                      have Hjk := Lib.hid hjk
                      clear hjk
                      by_cases hj34 : s[j] = 34
                      · have c34j : ((s[j].toNat : Int) == 34) = true := by rw [hj34]; rfl
                        have H34j := Lib.hid hj34
                        clear hj34
                        go_wp2_with (go_at_call 100; refine (text_wordByte _ _).mono ?_; rintro e w' ⟨rfl, rfl⟩)
                        go_ret2
                        exact fields_done [] (j + 1) (by rw [← hqk.out, fieldsAt_word_bad s k out j hlt Hw.out H59.out H34.out hst.out (.inr (by rw [hhd.out, H34j.out]))]) (Sl.nil _ _) (by omega) hbel
                      · have c34j : ((s[j].toNat : Int) == 34) = false := beq_eq_false_iff_ne.2 fun e => hj34 (byte_eq 34 e)
                        have H34j := Lib.hid hj34
                        clear hj34
                        go_wp2_with (first | (go_at_call 100; refine (text_wordByte _ _).mono ?_; rintro e w' ⟨rfl, rfl⟩) | (at_builtin; refine wpList_append_sl _ rfl (.tmp 45) (.tmp 53) _ rfl E_fld elFld_good w.heap.size _ out rfl (hown.alloc elFld_good _) ⟨wr.heap.size, 0, none⟩ 1 [.string (s.extract k j), .int .i64 ((k : Int) + 1), .bool false] rfl ⟨(s.extract k j).data.toList, (k : Int) + 1, false⟩ rfl (cells_new _ _ _ _) (oneCells rfl) rfl (by simp only [maxLen]; omega) (by omega) (by simp; omega) ?_; intro v1 w1 hown1 hg1 hat1))
                        have hb1 := below_own (hbel.alloc (by omega) _) (hown.alloc elFld_good _) hg1 (Nat.le_refl _) (by simp; omega)
                        go_roundw
                        case rel => exact ⟨j, false, _, hjs, rfl, rfl, hown1, by simp; omega, by unfold Hid; rw [← hqk.out, fieldsAt_word s k out j hlt Hw.out H59.out H34.out hst.out Hjk.out (by rw [hhd.out]; exact fun e => H34j.out (Option.some.inj e)), word_text s k j hst.out], hb1⟩
                        case measure => simp [intOf]; omega
                  · have hnx := Lib.hid (word_next s k j hkj hjl hjw.out hwb)
                    go_wp2_with (go_at_call 100; refine (text_wordByte _ _).mono ?_; rintro e w' ⟨rfl, rfl⟩)
                    go_round
                    case rel => exact ⟨j + 1, by omega, by omega, by go_num, hnx.out⟩
                    case measure => simp [intOf]; omega
                · obtain rfl : j = s.size := by omega
                  have hst := Lib.hid (word_full s k hk hjw.out)
                  have hhd := Lib.hid ((head_drop s s.size).trans (dif_neg (by omega)))
                  have e1 : ((s.size : Int) == (k : Int)) = false := beq_eq_false_iff_ne.2 (by omega)
                  go_wp2_with (first | (go_at_call 100; refine (text_wordByte _ _).mono ?_; rintro e w' ⟨rfl, rfl⟩) | (at_builtin; refine wpList_append_sl _ rfl (.tmp 45) (.tmp 53) _ rfl E_fld elFld_good w.heap.size _ out rfl (hown.alloc elFld_good _) ⟨wr.heap.size, 0, none⟩ 1 [.string (s.extract k s.size), .int .i64 ((k : Int) + 1), .bool false] rfl ⟨(s.extract k s.size).data.toList, (k : Int) + 1, false⟩ rfl (cells_new _ _ _ _) (oneCells rfl) rfl (by simp only [maxLen]; omega) (by omega) (by simp; omega) ?_; intro v1 w1 hown1 hg1 hat1))
                  have hb1 := below_own (hbel.alloc (by omega) _) (hown.alloc elFld_good _) hg1 (Nat.le_refl _) (by simp; omega)
                  go_roundw
                  case rel => exact ⟨s.size, false, _, Nat.le_refl _, rfl, rfl, hown1, by simp; omega, by unfold Hid; rw [← hqk.out, fieldsAt_word s k out s.size hlt Hw.out H59.out H34.out hst.out (by omega) (by rw [hhd.out]; simp), word_text s k s.size hst.out], hb1⟩
                  case measure => simp [intOf]; omega
          · go_wp2_with (go_at_call 98; refine (text_white _ _).mono ?_; rintro e w' ⟨rfl, rfl⟩)
            go_ret2
            exact fields_done [] (k + 1) (by rw [← hqk.out, hat.out, if_neg (by rw [Hw.out]; simp), if_neg H59.out, if_pos trivial]) (Sl.nil _ _) (by omega) hbel
      · have Hw := Lib.hid hw
        go_wp2_with (go_at_call 98; refine (text_white _ _).mono ?_; rintro e w' ⟨rfl, rfl⟩)
        go_roundw
        case rel => exact ⟨k + 1, false, out, by omega, rfl, by go_num, hown, by omega, by unfold Hid; rw [← hqk.out, hat.out, if_pos Hw.out], hbel⟩
        case measure => simp [intOf]; omega
    · go_wp2
      go_ret2
      exact fields_done out 0 (by rw [← hqk.out, fieldsAt_end s k after out (by omega)]) (hown.sl elFld_good) rfl hbel
end Go.Proofs.YticfopjbaoigfaaGreatDoor
