/- The reference's Text of a side. -/
import Derived.Test.YtfljohhocgaheaaDoorF3
import Derived.Test.YtfljohhocgaheaaDoorQ5
import Derived.Test.YtfljohhocgaheaaDoorQ3
set_option linter.unusedSimpArgs false
set_option linter.unusedVariables false
namespace Go.Proofs.YtfljohhocgaheaaDoor
open Go.RowKit

theorem setCell_size (w : World) (p : Addr) (u : Value) : (w.setCell p u).heap.size = w.heap.size := by simp [World.setCell]
/-- A line in block L while it is made: its fields in a row of the call's own. -/
structure LnSt (wr W : World) (L : Nat) (v : Value) (fl : List Fld) : Prop where
  blk : Blk W L 52 #[.int .i64 0, v]
  own : OwnSl 3 elFld 49 wr.heap.size W v fl
  bel : Below wr.heap.size wr W
  hL : wr.heap.size ≤ L
theorem base_alloc {wr W : World} (h : Below wr.heap.size wr W) (o : Obj) : wr.heap.size ≤ (W.alloc o).heap.size := by have := h.size; simp; omega
theorem base_alloc2 {B : Nat} {wr W : World} (h0 : B ≤ wr.heap.size) (h : Below wr.heap.size wr W) (o : Obj) : B ≤ (W.alloc o).heap.size := Nat.le_trans h0 (base_alloc h o)
theorem ln_start (wr : World) (a b : ByteArray) : LnSt wr ((wr.alloc (.cells #[.string a, .int .i64 0, .bool false, .string b, .int .i64 0, .bool false] 49)).alloc (.cells #[.int .i64 0, .slice (some ⟨wr.heap.size, 0, none⟩) 2 2] 52)) (wr.heap.size + 1) (.slice (some ⟨wr.heap.size, 0, none⟩) 2 2) [wordF a.data.toList, wordF b.data.toList] := by
  have h := own_two wr a b
  have hb : Below wr.heap.size wr (wr.alloc (.cells #[.string a, .int .i64 0, .bool false, .string b, .int .i64 0, .bool false] 49)) := Below.alloc (Below.refl _ _) (Nat.le_refl _) _
  have hz : (wr.alloc (.cells #[.string a, .int .i64 0, .bool false, .string b, .int .i64 0, .bool false] 49)).heap.size = wr.heap.size + 1 := by simp
  obtain ⟨W, hW⟩ : ∃ x, x = wr.alloc (.cells #[.string a, .int .i64 0, .bool false, .string b, .int .i64 0, .bool false] 49) := ⟨_, rfl⟩
  rw [← hW] at h hb hz ⊢
  exact ⟨by rw [← hz]; exact Blk.new W _ _, h.alloc elFld_good _, Below.alloc hb (by omega) _, by omega⟩
theorem ln_app {wr W W' : World} {L : Nat} {v v' : Value} {fl : List Fld} {x : Fld} {o : Obj} (h : LnSt wr W L v fl) (hown : OwnSl 3 elFld 49 wr.heap.size W' v' (fl ++ [x])) (hg : (W.alloc o).grownBy W' v.ownBlock) :
    LnSt wr (W'.setCell ⟨L, 1, none⟩ v') L v' (fl ++ [x]) ∧ Blk W' L 52 #[.int .i64 0, v] ∧ Below wr.heap.size wr W' := by
  have hb := h.blk.alloc o
  have ho := h.own.alloc elFld_good o
  have hk : Blk W' L 52 #[.int .i64 0, v] := hb.grown hg (own_ne ho hb (by decide))
  have hz := h.bel.size
  have hbel : Below wr.heap.size wr W' := below_own (Below.alloc h.bel hz o) ho hg (Nat.le_refl _) (by simp; omega)
  exact ⟨⟨hk.set_ 1 v', hown.grown elFld_good ((Only.refl L W').setCell (p := ⟨L, 1, none⟩) (.inl rfl) _) fun b hb e => own_ne hown hk (by decide) (by rw [hb, e]), Below.setCell hbel h.hL _, h.hL⟩, hk, hbel⟩
set_option maxRecDepth 100000 in
set_option maxHeartbeats 4000000 in
theorem rsq_Text (q : Sqd) (pv : Value) (w : World) (h : Sl 1 elStr w (· < w.heap.size) pv q.players) (hn : q.name.length ≤ 1000000000) (hl : ∀ p ∈ q.players, p.length ≤ 1000000000) (hs : checkS q = 0 → (writeS (sqLines q)).length ≤ 1000000000) (hc11 : checkS q = 0 → q.players.length ≤ 11) :
    Calls Tryd.prog 13 #[sqV q pv] w (TextPost w (textS q)) := by
  unfold sqV
  obtain ⟨A, c, rfl, hc, hc'⟩ := h.shape
  obtain ⟨res, hres⟩ : ∃ r, r = textS q := ⟨_, rfl⟩
  rw [← hres]
  obtain ⟨w0, hw0⟩ : ∃ W, W = w.alloc (.cells #[.string (S q.name), .slice A q.players.length c, .int .i64 q.cap, .int .i64 q.kee] 24) := ⟨_, rfl⟩
  have hb0 : Below w.heap.size w w0 := by rw [hw0]; exact Below.alloc (Below.refl _ _) (Nat.le_refl _) _
  have hz0 : w0.heap.size = w.heap.size + 1 := by rw [hw0]; simp
  have h0 : Sl 1 elStr w0 (· < w.heap.size) (.slice A q.players.length c) q.players := h.keep elStr_good (Same.below hb0 fun _ h => h) fun _ h => h
  have hck := rsq_Check q (.slice A q.players.length c) w0 (h0.keep elStr_good (Same.refl _ _) fun b hb => by omega) hn hl
  unfold sqV at hck
  have hblk : Blk w0 w.heap.size 24 #[.string (S q.name), .slice A q.players.length c, .int .i64 q.cap, .int .i64 q.kee] := by rw [hw0]; exact Blk.new w _ _
  obtain ⟨e, he⟩ : ∃ e, e = checkS q := ⟨_, rfl⟩
  rw [← he] at hck
  by_cases hz : e = 0
  · have hck' : Calls Tryd.prog 20 #[.agg #[.string (S q.name), .slice A q.players.length c, .int .i64 q.cap, .int .i64 q.kee]] w0 fun x w1 => x = .returned (.int .i64 0) ∧ Below w.heap.size w w1 ∧ w0.heap.size ≤ w1.heap.size ∧ Blk w1 w.heap.size 24 #[.string (S q.name), .slice A q.players.length c, .int .i64 q.cap, .int .i64 q.kee] := by
      refine hck.mono ?_
      rintro x w1 ⟨rfl, hb1⟩
      exact ⟨by rw [hz], hb0.trans (hb1.mono (by omega)), hb1.size, hblk.below hb1 (by omega)⟩
    have hres' : res = (writeS (sqLines q), 0) := by rw [hres, textS, ← he, if_neg (by simp [hz])]
    have hs' := hs (by rw [← he, hz])
    have h11 := hc11 (by rw [← he, hz])
    rw [hw0] at hck'
    have HCK := Lib.hid hck'
    have HS := Lib.hid hs'
    have HL := Lib.hid h
    have HR := Lib.hid hres'
    clear hck hck' hs hs' h hres hres' he hblk h0 hn hl hz hc11 hb0 hz0 hw0
    go_enter Tryd.func13, Tryd.ntmps13
    go_wp2_with (go_at_call 20; refine HCK.out.mono ?_; rintro x w1 ⟨rfl, hb1, hz1, hk1⟩; have y0 := hk1.cell 0; have y1 := hk1.cell 1; simp only [List.getElem?_toArray, List.getElem?_cons_zero, List.getElem?_cons_succ] at y0 y1; have hk2 := (hk1.alloc (.cells #[.string ⟨#[83, 73, 68, 69]⟩, .int .i64 0, .bool false, .string (S q.name), .int .i64 0, .bool false] 49)).alloc (.cells #[.int .i64 0, .slice (some ⟨w1.heap.size, 0, none⟩) 2 2] 52); have y2 := hk2.cell 1; simp only [List.getElem?_toArray, List.getElem?_cons_zero, List.getElem?_cons_succ] at y2; have HB1 := Lib.hid hb1; have HK1 := Lib.hid hk1; clear hb1 hk1 hk2)
    have hst := txt_start w1 q.name
    unfold txtW at hst
    have HST := Lib.hid hst
    clear hst
    go_loopw [5, 24] (fun v i wr => ∃ (k : Nat) (out : List Lin), k ≤ q.players.length ∧ i = .int .i64 k ∧ SplitInv w1.heap.size w1 wr v noD out [] ∧ Hid (out ++ playerLines q (q.players.drop k) k = sqLines q) ∧ out.length ≤ k + 1)
      (fun _ i _ => q.players.length - (intOf i).toNat)
    case atStart => exact ⟨0, _, Nat.zero_le _, rfl, HST.out, by unfold Hid; rfl, by simp⟩
    case round =>
      obtain ⟨k, out, hk, rfl, hinv, hqk, hout⟩ := hrel
      have hww : Below w.heap.size w wr := HB1.out.trans (hinv.hb.mono (by have := HB1.out.size; omega))
      have hsq := HK1.out.below hinv.hb HK1.out.lt
      have hzr := hinv.hz
      have hz1' := HK1.out.lt
      by_cases hlt : k < q.players.length
      · obtain ⟨b, o, rfl, hF, hcu⟩ := HL.out.str_at hlt
        have hcell : wr.cell? ⟨b, o + k, none⟩ = some (.string (S q.players[k])) := (hww.cell (p := ⟨b, o + k, none⟩) hF).trans hcu
        have hqk' := hqk.out
        rw [playerLines_drop hlt] at hqk'
        obtain ⟨p, hp⟩ : ∃ p, p = q.players[k] := ⟨_, rfl⟩
        rw [← hp] at hcell hqk'
        have hla : LnSt wr ((wr.alloc (.cells #[.string ⟨#[80, 76, 65, 89, 69, 82]⟩, .int .i64 0, .bool false, .string (S p), .int .i64 0, .bool false] 49)).alloc (.cells #[.int .i64 0, .slice (some ⟨wr.heap.size, 0, none⟩) 2 2] 52)) (wr.heap.size + 1) (.slice (some ⟨wr.heap.size, 0, none⟩) 2 2) [wordF sPLAYER, wordF p] := ln_start wr ⟨#[80, 76, 65, 89, 69, 82]⟩ (S p)
        have ya2 := hsq.cell 2
        have ya3 := hsq.cell 3
        simp only [List.getElem?_toArray, List.getElem?_cons_zero, List.getElem?_cons_succ] at ya2 ya3
        have hza : ((wr.alloc (.cells #[.string ⟨#[80, 76, 65, 89, 69, 82]⟩, .int .i64 0, .bool false, .string (S p), .int .i64 0, .bool false] 49)).alloc (.cells #[.int .i64 0, .slice (some ⟨wr.heap.size, 0, none⟩) 2 2] 52)).heap.size = wr.heap.size + 2 := by simp
        have hRz : w.heap.size < wr.heap.size := by omega
        have HZA := Lib.hid hza
        have HLA := Lib.hid hla
        have HSQ := Lib.hid hsq
        have HI := Lib.hid hinv
        clear hza hla hsq hinv hp hcu hww hF hqk
        by_cases hcap : (k : Int) + 1 = q.cap
        · have e1 : (q.cap == (k : Int) + 1) = true := beq_iff_eq.2 hcap.symm
          by_cases hkee : (k : Int) + 1 = q.kee
          · have e2 : (q.kee == (k : Int) + 1) = true := beq_iff_eq.2 hkee.symm
            rw [playerLine, if_pos hcap, if_pos hkee] at hqk'
            have HQK := Lib.hid hqk'
            clear hqk' hcap hkee
            go_wp2_with (first | (at_builtin; refine wpList_append_sl _ rfl (.tmp 40) (.tmp 42) _ rfl E_fld elFld_good wr.heap.size _ [wordF sPLAYER, wordF p] rfl (HLA.out.own.alloc elFld_good _) ⟨wr.heap.size + 2, 0, none⟩ 1 [.string ⟨#[67, 65, 80, 84, 65, 73, 78]⟩, .int .i64 0, .bool false] rfl (wordF sCAPTAIN) rfl (cells_at _ _ HZA.out _ _) (oneCells rfl) rfl (by simp [maxLen]) (by simp) (base_alloc HLA.out.bel _) ?_; intro v5 w5 hown5 hg5 hat5; have hl5 := ln_app HLA.out hown5 hg5; have hbb5 := hl5.2.2; obtain ⟨A5, c5, rfl, hc5, hd5⟩ := (hown5.sl elFld_good).shape; have u0 := hl5.2.1.cell 0; have u1 := hl5.2.1.cell 1; have uf := hl5.2.1.frozen 1; simp only [List.getElem?_toArray, List.getElem?_cons_zero, List.getElem?_cons_succ] at u0 u1; have hRz5 : w.heap.size < w5.heap.size := Nat.lt_of_lt_of_le hRz hbb5.size; have hz5 := hbb5.size; have HL5 : Hid (LnSt wr (w5.setCell ⟨wr.heap.size + 1, 1, none⟩ (.slice A5 3 c5)) (wr.heap.size + 1) (.slice A5 3 c5) ([wordF sPLAYER, wordF p] ++ [wordF sCAPTAIN])) := hl5.1; have hsq5 := HSQ.out.below HL5.out.bel hRz; have ya2 := hsq5.cell 2; have ya3 := hsq5.cell 3; simp only [List.getElem?_toArray, List.getElem?_cons_zero, List.getElem?_cons_succ] at ya2 ya3; have HZ5 : Hid ((w5.setCell ⟨wr.heap.size + 1, 1, none⟩ (.slice A5 3 c5)).heap.size = w5.heap.size) := setCell_size _ _ _; clear hown5 hg5 hat5 hsq5 hbb5 hl5) | (at_builtin; refine wpList_append_sl _ rfl (.tmp 51) (.tmp 53) _ rfl E_fld elFld_good wr.heap.size _ ([wordF sPLAYER, wordF p] ++ [wordF sCAPTAIN]) rfl (HL5.out.own.alloc elFld_good _) ⟨w5.heap.size, 0, none⟩ 1 [.string ⟨#[75, 69, 69, 80, 69, 82]⟩, .int .i64 0, .bool false] rfl (wordF sKEEPER) rfl (cells_at _ _ HZ5.out _ _) (oneCells rfl) rfl (by simp [maxLen]) (by simp) (base_alloc HL5.out.bel _) ?_; intro v6 w6 hown6 hg6 hat6; have hl6 := ln_app HL5.out hown6 hg6; have hbb6 := hl6.2.2; obtain ⟨A6, c6, rfl, hc6, hd6⟩ := (hown6.sl elFld_good).shape; have u0 := hl6.2.1.cell 0; have u1 := hl6.2.1.cell 1; have uf := hl6.2.1.frozen 1; simp only [List.getElem?_toArray, List.getElem?_cons_zero, List.getElem?_cons_succ] at u0 u1; have hRz6 : w.heap.size < w6.heap.size := Nat.lt_of_lt_of_le hRz hbb6.size; have hz6 := hbb6.size; have HL6 : Hid (LnSt wr (w6.setCell ⟨wr.heap.size + 1, 1, none⟩ (.slice A6 4 c6)) (wr.heap.size + 1) (.slice A6 4 c6) (([wordF sPLAYER, wordF p] ++ [wordF sCAPTAIN]) ++ [wordF sKEEPER])) := hl6.1; have hsq6 := HSQ.out.below HL6.out.bel hRz; have ya2 := hsq6.cell 2; have ya3 := hsq6.cell 3; simp only [List.getElem?_toArray, List.getElem?_cons_zero, List.getElem?_cons_succ] at ya2 ya3; have HZ6 : Hid ((w6.setCell ⟨wr.heap.size + 1, 1, none⟩ (.slice A6 4 c6)).heap.size = w6.heap.size) := setCell_size _ _ _; clear hown6 hg6 hat6 hsq6 hbb6 hl6) | (at_builtin; refine wpList_append_g _ rfl (.tmp 56) (.tmp 58) _ rfl E_lin elLin_good w1.heap.size _ (lineG w1.heap.size ((w6.setCell ⟨wr.heap.size + 1, 1, none⟩ (.slice A6 4 c6)).alloc _) _ _) out rfl ((HI.out.below HL6.out.bel).below ((Below.refl _ _).alloc (Nat.le_refl _) _)).hv ⟨w6.heap.size, 0, none⟩ 1 [.int .i64 0, .slice A6 4 c6] rfl ⟨0, ([wordF sPLAYER, wordF p] ++ [wordF sCAPTAIN] ++ [wordF sKEEPER])⟩ rfl (cells_at _ _ HZ6.out _ _) (oneCells rfl) (fun b hb => ⟨hb.2.1, hb.2.2.1⟩) (HI.out.fields_el HL6.out.bel (HL6.out.own.sl elFld_good) _) (by simp only [maxLen]; omega) (by omega) (base_alloc2 HI.out.hz HL6.out.bel _) ?_; intro v4 w4 hown4 hg4 hat4))
            go_roundw
            case rel => exact ⟨k + 1, _, by omega, by go_num, ((HI.out.below HL6.out.bel).below ((Below.refl _ _).alloc (Nat.le_refl _) _)).line hown4 hg4 hat4, by unfold Hid; rw [← HQK.out, List.append_assoc]; rfl, by simp; omega⟩
            case measure => simp [intOf]; omega
          · have e2 : (q.kee == (k : Int) + 1) = false := beq_eq_false_iff_ne.2 fun e => hkee e.symm
            rw [playerLine, if_pos hcap, if_neg hkee] at hqk'
            have HQK := Lib.hid hqk'
            clear hqk' hcap hkee
            go_wp2_with (first | (at_builtin; refine wpList_append_sl _ rfl (.tmp 40) (.tmp 42) _ rfl E_fld elFld_good wr.heap.size _ [wordF sPLAYER, wordF p] rfl (HLA.out.own.alloc elFld_good _) ⟨wr.heap.size + 2, 0, none⟩ 1 [.string ⟨#[67, 65, 80, 84, 65, 73, 78]⟩, .int .i64 0, .bool false] rfl (wordF sCAPTAIN) rfl (cells_at _ _ HZA.out _ _) (oneCells rfl) rfl (by simp [maxLen]) (by simp) (base_alloc HLA.out.bel _) ?_; intro v5 w5 hown5 hg5 hat5; have hl5 := ln_app HLA.out hown5 hg5; have hbb5 := hl5.2.2; obtain ⟨A5, c5, rfl, hc5, hd5⟩ := (hown5.sl elFld_good).shape; have u0 := hl5.2.1.cell 0; have u1 := hl5.2.1.cell 1; have uf := hl5.2.1.frozen 1; simp only [List.getElem?_toArray, List.getElem?_cons_zero, List.getElem?_cons_succ] at u0 u1; have hRz5 : w.heap.size < w5.heap.size := Nat.lt_of_lt_of_le hRz hbb5.size; have hz5 := hbb5.size; have HL5 : Hid (LnSt wr (w5.setCell ⟨wr.heap.size + 1, 1, none⟩ (.slice A5 3 c5)) (wr.heap.size + 1) (.slice A5 3 c5) ([wordF sPLAYER, wordF p] ++ [wordF sCAPTAIN])) := hl5.1; have hsq5 := HSQ.out.below HL5.out.bel hRz; have ya2 := hsq5.cell 2; have ya3 := hsq5.cell 3; simp only [List.getElem?_toArray, List.getElem?_cons_zero, List.getElem?_cons_succ] at ya2 ya3; have HZ5 : Hid ((w5.setCell ⟨wr.heap.size + 1, 1, none⟩ (.slice A5 3 c5)).heap.size = w5.heap.size) := setCell_size _ _ _; clear hown5 hg5 hat5 hsq5 hbb5 hl5) | (at_builtin; refine wpList_append_g _ rfl (.tmp 56) (.tmp 58) _ rfl E_lin elLin_good w1.heap.size _ (lineG w1.heap.size ((w5.setCell ⟨wr.heap.size + 1, 1, none⟩ (.slice A5 3 c5)).alloc _) _ _) out rfl ((HI.out.below HL5.out.bel).below ((Below.refl _ _).alloc (Nat.le_refl _) _)).hv ⟨w5.heap.size, 0, none⟩ 1 [.int .i64 0, .slice A5 3 c5] rfl ⟨0, ([wordF sPLAYER, wordF p] ++ [wordF sCAPTAIN] ++ [])⟩ rfl (cells_at _ _ HZ5.out _ _) (oneCells rfl) (fun b hb => ⟨hb.2.1, hb.2.2.1⟩) (HI.out.fields_el HL5.out.bel (HL5.out.own.sl elFld_good) _) (by simp only [maxLen]; omega) (by omega) (base_alloc2 HI.out.hz HL5.out.bel _) ?_; intro v4 w4 hown4 hg4 hat4))
            go_roundw
            case rel => exact ⟨k + 1, _, by omega, by go_num, ((HI.out.below HL5.out.bel).below ((Below.refl _ _).alloc (Nat.le_refl _) _)).line hown4 hg4 hat4, by unfold Hid; rw [← HQK.out, List.append_assoc]; rfl, by simp; omega⟩
            case measure => simp [intOf]; omega
        · have e1 : (q.cap == (k : Int) + 1) = false := beq_eq_false_iff_ne.2 fun e => hcap e.symm
          by_cases hkee : (k : Int) + 1 = q.kee
          · have e2 : (q.kee == (k : Int) + 1) = true := beq_iff_eq.2 hkee.symm
            rw [playerLine, if_neg hcap, if_pos hkee] at hqk'
            have HQK := Lib.hid hqk'
            clear hqk' hcap hkee
            go_wp2_with (first | (at_builtin; refine wpList_append_sl _ rfl (.tmp 51) (.tmp 53) _ rfl E_fld elFld_good wr.heap.size _ [wordF sPLAYER, wordF p] rfl (HLA.out.own.alloc elFld_good _) ⟨wr.heap.size + 2, 0, none⟩ 1 [.string ⟨#[75, 69, 69, 80, 69, 82]⟩, .int .i64 0, .bool false] rfl (wordF sKEEPER) rfl (cells_at _ _ HZA.out _ _) (oneCells rfl) rfl (by simp [maxLen]) (by simp) (base_alloc HLA.out.bel _) ?_; intro v6 w6 hown6 hg6 hat6; have hl6 := ln_app HLA.out hown6 hg6; have hbb6 := hl6.2.2; obtain ⟨A6, c6, rfl, hc6, hd6⟩ := (hown6.sl elFld_good).shape; have u0 := hl6.2.1.cell 0; have u1 := hl6.2.1.cell 1; have uf := hl6.2.1.frozen 1; simp only [List.getElem?_toArray, List.getElem?_cons_zero, List.getElem?_cons_succ] at u0 u1; have hRz6 : w.heap.size < w6.heap.size := Nat.lt_of_lt_of_le hRz hbb6.size; have hz6 := hbb6.size; have HL6 : Hid (LnSt wr (w6.setCell ⟨wr.heap.size + 1, 1, none⟩ (.slice A6 3 c6)) (wr.heap.size + 1) (.slice A6 3 c6) ([wordF sPLAYER, wordF p] ++ [wordF sKEEPER])) := hl6.1; have hsq6 := HSQ.out.below HL6.out.bel hRz; have ya2 := hsq6.cell 2; have ya3 := hsq6.cell 3; simp only [List.getElem?_toArray, List.getElem?_cons_zero, List.getElem?_cons_succ] at ya2 ya3; have HZ6 : Hid ((w6.setCell ⟨wr.heap.size + 1, 1, none⟩ (.slice A6 3 c6)).heap.size = w6.heap.size) := setCell_size _ _ _; clear hown6 hg6 hat6 hsq6 hbb6 hl6) | (at_builtin; refine wpList_append_g _ rfl (.tmp 56) (.tmp 58) _ rfl E_lin elLin_good w1.heap.size _ (lineG w1.heap.size ((w6.setCell ⟨wr.heap.size + 1, 1, none⟩ (.slice A6 3 c6)).alloc _) _ _) out rfl ((HI.out.below HL6.out.bel).below ((Below.refl _ _).alloc (Nat.le_refl _) _)).hv ⟨w6.heap.size, 0, none⟩ 1 [.int .i64 0, .slice A6 3 c6] rfl ⟨0, ([wordF sPLAYER, wordF p] ++ [] ++ [wordF sKEEPER])⟩ rfl (cells_at _ _ HZ6.out _ _) (oneCells rfl) (fun b hb => ⟨hb.2.1, hb.2.2.1⟩) (HI.out.fields_el HL6.out.bel (HL6.out.own.sl elFld_good) _) (by simp only [maxLen]; omega) (by omega) (base_alloc2 HI.out.hz HL6.out.bel _) ?_; intro v4 w4 hown4 hg4 hat4))
            go_roundw
            case rel => exact ⟨k + 1, _, by omega, by go_num, ((HI.out.below HL6.out.bel).below ((Below.refl _ _).alloc (Nat.le_refl _) _)).line hown4 hg4 hat4, by unfold Hid; rw [← HQK.out, List.append_assoc]; rfl, by simp; omega⟩
            case measure => simp [intOf]; omega
          · have e2 : (q.kee == (k : Int) + 1) = false := beq_eq_false_iff_ne.2 fun e => hkee e.symm
            rw [playerLine, if_neg hcap, if_neg hkee] at hqk'
            have HQK := Lib.hid hqk'
            clear hqk' hcap hkee
            go_wp2_with (first | (at_builtin; refine wpList_append_g _ rfl (.tmp 56) (.tmp 58) _ rfl E_lin elLin_good w1.heap.size _ (lineG w1.heap.size (((wr.alloc (.cells #[.string ⟨#[80, 76, 65, 89, 69, 82]⟩, .int .i64 0, .bool false, .string (S p), .int .i64 0, .bool false] 49)).alloc (.cells #[.int .i64 0, .slice (some ⟨wr.heap.size, 0, none⟩) 2 2] 52)).alloc _) _ _) out rfl ((HI.out.below HLA.out.bel).below ((Below.refl _ _).alloc (Nat.le_refl _) _)).hv ⟨wr.heap.size + 2, 0, none⟩ 1 [.int .i64 0, .slice (some ⟨wr.heap.size, 0, none⟩) 2 2] rfl ⟨0, ([wordF sPLAYER, wordF p] ++ [] ++ [])⟩ rfl (cells_at _ _ HZA.out _ _) (oneCells rfl) (fun b hb => ⟨hb.2.1, hb.2.2.1⟩) (HI.out.fields_el HLA.out.bel (HLA.out.own.sl elFld_good) _) (by simp only [maxLen]; omega) (by omega) (base_alloc2 HI.out.hz HLA.out.bel _) ?_; intro v4 w4 hown4 hg4 hat4))
            go_roundw
            case rel => exact ⟨k + 1, _, by omega, by go_num, ((HI.out.below HLA.out.bel).below ((Below.refl _ _).alloc (Nat.le_refl _) _)).line hown4 hg4 hat4, by unfold Hid; rw [← HQK.out, List.append_assoc]; rfl, by simp; omega⟩
            case measure => simp [intOf]; omega
      · have hke : k = q.players.length := by omega
        have ho := hqk.out
        rw [List.drop_eq_nil_of_le (by omega), playerLines, List.append_nil] at ho
        subst ho
        have hwr := ref_Write _ (sqLines q) wr (hinv.hv.sl elLin_good (fun b hb => hb.2.1) fun b _ h => h) HS.out
        obtain ⟨Av, cv, hv, hcv, hcv'⟩ := (hinv.hv.sl elLin_good (F := (· < wr.heap.size)) (fun b hb => hb.2.1) fun b _ h => h).shape
        subst hv
        have HWR := Lib.hid hwr
        have HWW := Lib.hid hww
        clear hwr hww hinv hsq hqk
        go_wp2_with (go_at_call 29; refine HWR.out.mono ?_; rintro x w9 ⟨rfl, hb9⟩)
        refine bodyPost_ret (v := .tuple #[.string (S (writeS (sqLines q))), .int .i64 0]) (by simp [results, Tryd.results13, go_sem]) rfl ⟨?_, HWW.out.trans (hb9.mono HWW.out.size)⟩
        rw [HR.out]
  · have hres' : res = ([], e) := by rw [hres, textS, if_pos (by rw [← he]; exact hz), ← he]
    have e0 : (e != 0) = true := by simp [hz]
    have hck' : Calls Tryd.prog 20 #[.agg #[.string (S q.name), .slice A q.players.length c, .int .i64 q.cap, .int .i64 q.kee]] w0 fun x w1 => x = .returned (.int .i64 e) ∧ Below w.heap.size w w1 := by
      refine hck.mono ?_
      rintro x w1 ⟨rfl, hb1⟩
      exact ⟨rfl, hb0.trans (hb1.mono (by omega))⟩
    rw [hw0] at hck'
    have HCK := Lib.hid hck'
    have HR := Lib.hid hres'
    clear hck hck' hres hres' he hblk h0 h hn hl hz hs hc11 hb0 hz0 hw0
    go_enter Tryd.func13, Tryd.ntmps13
    go_wp2_with (go_at_call 20; refine HCK.out.mono ?_; rintro x w1 ⟨rfl, hb1⟩)
    refine bodyPost_ret (v := .tuple #[.string ⟨#[]⟩, .int .i64 e]) (by simp [results, Tryd.results13, go_sem]) rfl ⟨?_, hb1⟩
    rw [HR.out]
    rfl
end Go.Proofs.YtfljohhocgaheaaDoor
