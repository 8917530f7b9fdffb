/- The contract of squad.Text. -/
import Derived.Test.YtfljohhocgaheaaDoorP5
import Derived.Test.YtfljohhocgaheaaDoorT6
import Derived.Test.YtfljohhocgaheaaDoorT7
import Derived.Test.YtfljohhocgaheaaDoorQ2
set_option linter.unusedSimpArgs false
set_option linter.unusedVariables false
namespace Go.Proofs.YtfljohhocgaheaaDoor
open Go.RowKit

/-- A slice literal is a row of the call's own. -/
theorem own_lit {α : Type} {size e : Nat} {R : World → (Nat → Prop) → List Value → α → Prop} (w : World) (css : List (List Value)) (l : List α) (hl : css.length = l.length) (hsz : ∀ cs ∈ css, cs.length = size) (hm : l.length ≤ maxLen)
    (hel : ∀ (i : Nat) (a : α) (cs : List Value), l[i]? = some a → css[i]? = some cs → R (w.alloc (.cells css.flatten.toArray e)) NoG cs a) :
    OwnSl size R e w.heap.size (w.alloc (.cells css.flatten.toArray e)) (.slice (some ⟨w.heap.size, 0, none⟩) l.length l.length) l := by
  have hf : css.flatten.length = css.length * size := by
    clear hl hel
    induction css with
    | nil => simp
    | cons x css ih => rw [List.flatten_cons, List.length_append, ih (fun cs hc => hsz cs (by simp [hc])), hsz x (by simp), List.length_cons, Nat.succ_mul]; omega
  refine ⟨css, hl, ⟨by rw [hf, hl], .inr ⟨w.heap.size, l.length, css.flatten.toArray, rfl, Nat.le_refl _, heap_alloc_new w _, Nat.le_refl _, hm, by simp only [List.size_toArray]; rw [hf, hl], ?_⟩⟩, hsz, hel⟩
  rw [List.take_of_length_le (by rw [hf, hl]; exact Nat.le_refl _)]
theorem own_two (w : World) (a b : ByteArray) : OwnSl 3 elFld 49 w.heap.size (w.alloc (.cells #[.string a, .int .i64 0, .bool false, .string b, .int .i64 0, .bool false] 49)) (.slice (some ⟨w.heap.size, 0, none⟩) 2 2) [wordF a.data.toList, wordF b.data.toList] :=
  own_lit w [[.string a, .int .i64 0, .bool false], [.string b, .int .i64 0, .bool false]] [wordF a.data.toList, wordF b.data.toList] rfl (by simp) (by simp [maxLen]) fun i x cs h1 h2 => by
    have hlt := (List.getElem?_eq_some_iff.1 h1).1
    have : i = 0 ∨ i = 1 := by simp at hlt; omega
    rcases this with rfl | rfl
    · simp at h1 h2; subst h1; subst h2; rfl
    · simp at h1 h2; subst h1; subst h2; rfl
theorem cells_at (w : World) (n : Nat) (hn : w.heap.size = n) (cs : List Value) (e : TypeId) : ∀ j u, cs[j]? = some u → (w.alloc (.cells cs.toArray e)).cell? ((⟨n, 0, none⟩ : Addr).add j) = some u := by
  subst hn; exact cells_new w cs e (0, 0)
def TextPost (w : World) (r : List UInt8 × Int) (e : Ending) (w' : World) : Prop := e = .returned (.tuple #[.string (S r.1), .int .i64 r.2]) ∧ Below w.heap.size w w'
def noD : Value := .slice none 0 0
/-- The world with the first line laid. -/
def txtW (w1 : World) (n : ByteArray) : World := (w1.alloc (.cells #[.string ⟨#[83, 73, 68, 69]⟩, .int .i64 0, .bool false, .string n, .int .i64 0, .bool false] 49)).alloc (.cells #[.int .i64 0, .slice (some ⟨w1.heap.size, 0, none⟩) 2 2] 52)
theorem txt_start (w1 : World) (n : List UInt8) : SplitInv w1.heap.size w1 (txtW w1 (S n)) (.slice (some ⟨w1.heap.size + 1, 0, none⟩) 1 1) noD [⟨0, [wordF sSIDE, wordF n]⟩] [] := by
  have h2 := own_two w1 ⟨#[83, 73, 68, 69]⟩ (S n)
  obtain ⟨W, hW⟩ : ∃ W, W = w1.alloc (.cells #[.string ⟨#[83, 73, 68, 69]⟩, .int .i64 0, .bool false, .string (S n), .int .i64 0, .bool false] 49) := ⟨_, rfl⟩
  have hz : W.heap.size = w1.heap.size + 1 := by rw [hW]; simp
  have hb : Below w1.heap.size w1 W := by rw [hW]; exact Below.alloc (Below.refl _ _) (Nat.le_refl _) _
  unfold txtW
  rw [← hW] at h2 ⊢
  have hb2 : Below w1.heap.size w1 (W.alloc (.cells #[.int .i64 0, .slice (some ⟨w1.heap.size, 0, none⟩) 2 2] 52)) := Below.alloc hb (by omega) _
  have hsl : Sl 3 elFld W (fun b => w1.heap.size ≤ b ∧ b < W.heap.size) (.slice (some ⟨w1.heap.size, 0, none⟩) 2 2) [wordF sSIDE, wordF n] := h2.sl elFld_good
  refine ⟨⟨[[.int .i64 0, .slice (some ⟨w1.heap.size, 0, none⟩) 2 2]], rfl, ⟨rfl, .inr ⟨w1.heap.size + 1, 1, _, rfl, by omega, by rw [← hz]; exact heap_alloc_new W _, Nat.le_refl _, by simp [maxLen], rfl, rfl⟩⟩, by simp, fun i a cs h1 h2 => ?_⟩, OwnSl.nil _, hb2, by simp; omega⟩
  have hlt := (List.getElem?_eq_some_iff.1 h1).1
  have : i = 0 := by simp at hlt; exact hlt
  subst this
  simp at h1 h2
  subst h1; subst h2
  refine ⟨_, rfl, hsl.keep elFld_good (Same.below (Below.alloc (Below.refl W.heap.size W) (Nat.le_refl _) _) fun b hb => hb.2) fun b hb => ⟨hb.1, by simp; omega, ?_, by simp [noD, Value.ownBlock]⟩⟩
  intro e
  have : w1.heap.size + 1 = b := by simpa [Value.ownBlock] using e
  omega
theorem playerLines_drop {q : Sqd} {k : Nat} {l : List (List UInt8)} (h : k < l.length) (i : Nat) : playerLines q (l.drop k) i = playerLine q i l[k] :: playerLines q (l.drop (k + 1)) (i + 1) := by
  rw [List.drop_eq_getElem_cons h, playerLines]
set_option maxRecDepth 100000 in
set_option maxHeartbeats 20000000 in
theorem sq_Text (q : Sqd) (pv : Value) (w : World) (hg : Glob w) (h : Sl 1 elStr w (· < w.heap.size) pv q.players) (hn : q.name.length ≤ 1000000000) (hl : ∀ p ∈ q.players, p.length ≤ 1000000000) (hs : checkS q = 0 → (writeS (sqLines q)).length ≤ 1000000000) (hc11 : checkS q = 0 → q.players.length ≤ 11) :
    Calls Tryd.prog 12 #[sqV q pv] w (TextPost w (textS q)) := by
  unfold sqV
  obtain ⟨A, c, rfl, hc, hc'⟩ := h.shape
  obtain ⟨res, hres⟩ : ∃ r, r = textS q := ⟨_, rfl⟩
  rw [← hres]
  obtain ⟨w0, hw0⟩ : ∃ W, W = w.alloc (.cells #[.string (S q.name), .slice A q.players.length c, .int .i64 q.cap, .int .i64 q.kee] 24) := ⟨_, rfl⟩
  have hb0 : Below w.heap.size w w0 := by rw [hw0]; exact Below.alloc (Below.refl _ _) (Nat.le_refl _) _
  have hz0 : w0.heap.size = w.heap.size + 1 := by rw [hw0]; simp
  have h0 : Sl 1 elStr w0 (· < w.heap.size) (.slice A q.players.length c) q.players := h.keep elStr_good (Same.below hb0 fun _ h => h) fun _ h => h
  have hck := sq_Check q (.slice A q.players.length c) w0 (h0.keep elStr_good (Same.refl _ _) fun b hb => by omega) hn hl
  unfold sqV at hck
  have hblk : Blk w0 w.heap.size 24 #[.string (S q.name), .slice A q.players.length c, .int .i64 q.cap, .int .i64 q.kee] := by rw [hw0]; exact Blk.new w _ _
  obtain ⟨e, he⟩ : ∃ e, e = checkS q := ⟨_, rfl⟩
  rw [← he] at hck
  by_cases hz : e = 0
  · have hck' : Calls Tryd.prog 18 #[.agg #[.string (S q.name), .slice A q.players.length c, .int .i64 q.cap, .int .i64 q.kee]] w0 fun x w1 => x = .returned (.int .i64 0) ∧ Below w.heap.size w w1 ∧ w0.heap.size ≤ w1.heap.size ∧ Blk w1 w.heap.size 24 #[.string (S q.name), .slice A q.players.length c, .int .i64 q.cap, .int .i64 q.kee] := by
      refine hck.mono ?_
      rintro x w1 ⟨rfl, hb1⟩
      exact ⟨by rw [hz], hb0.trans (hb1.mono (by omega)), hb1.size, hblk.below hb1 (by omega)⟩
    have hres' : res = (writeS (sqLines q), 0) := by rw [hres, textS, ← he, if_neg (by simp [hz])]
    have hs' := hs (by rw [← he, hz])
    have h11 := hc11 (by rw [← he, hz])
    rw [hw0] at hck'
    have HCK := Lib.hid hck'
    have HS := Lib.hid hs'
    have HL := Lib.hid h
    have HR := Lib.hid hres'
    have HG := Lib.hid hg
    clear hck hck' hs hs' h hres hres' he hblk h0 hn hl hz hc11 hb0 hg hz0 hw0
    go_enter Tryd.func12, Tryd.ntmps12
    go_wp2_with (go_at_call 18; refine HCK.out.mono ?_; rintro x w1 ⟨rfl, hb1, hz1, hk1⟩; have y0 := hk1.cell 0; have y1 := hk1.cell 1; simp only [List.getElem?_toArray, List.getElem?_cons_zero, List.getElem?_cons_succ] at y0 y1; have hk2 := (hk1.alloc (.cells #[.string ⟨#[83, 73, 68, 69]⟩, .int .i64 0, .bool false, .string (S q.name), .int .i64 0, .bool false] 49)).alloc (.cells #[.int .i64 0, .slice (some ⟨w1.heap.size, 0, none⟩) 2 2] 52); have y2 := hk2.cell 1; simp only [List.getElem?_toArray, List.getElem?_cons_zero, List.getElem?_cons_succ] at y2; have HB1 := Lib.hid hb1; have HK1 := Lib.hid hk1; clear hb1 hk1 hk2)
    have hst := txt_start w1 q.name
    unfold txtW at hst
    have HST := Lib.hid hst
    clear hst
    go_loopw [5, 24] (fun v i wr => ∃ (k : Nat) (out : List Lin), k ≤ q.players.length ∧ i = .int .i64 k ∧ SplitInv w1.heap.size w1 wr v noD out [] ∧ Hid (out ++ playerLines q (q.players.drop k) k = sqLines q) ∧ out.length ≤ k + 1)
      (fun _ i _ => q.players.length - (intOf i).toNat)
    case atStart => exact ⟨0, _, Nat.zero_le _, rfl, HST.out, by unfold Hid; rfl, by simp⟩
    case round =>
      obtain ⟨k, out, hk, rfl, hinv, hqk, hout⟩ := hrel
      have hww : Below w.heap.size w wr := HB1.out.trans (hinv.hb.mono (by have := HB1.out.size; omega))
      have hsq := HK1.out.below hinv.hb HK1.out.lt
      have hzr := hinv.hz
      have hz1' := HK1.out.lt
      by_cases hlt : k < q.players.length
      · obtain ⟨b, o, rfl, hF, hcu⟩ := HL.out.str_at hlt
        have hcell : wr.cell? ⟨b, o + k, none⟩ = some (.string (S q.players[k])) := (hww.cell (p := ⟨b, o + k, none⟩) hF).trans hcu
        have hqk' := hqk.out
        rw [playerLines_drop hlt] at hqk'
        obtain ⟨p, hp⟩ : ∃ p, p = q.players[k] := ⟨_, rfl⟩
        rw [← hp] at hcell hqk'
        have hsqa := hsq.alloc (.cells #[.string ⟨#[80, 76, 65, 89, 69, 82]⟩, .int .i64 0, .bool false, .string (S p), .int .i64 0, .bool false] 49)
        have ya2 := hsqa.cell 2
        have ya3 := hsqa.cell 3
        simp only [List.getElem?_toArray, List.getElem?_cons_zero, List.getElem?_cons_succ] at ya2 ya3
        have hfa := own_two wr ⟨#[80, 76, 65, 89, 69, 82]⟩ (S p)
        have hba : Below wr.heap.size wr (wr.alloc (.cells #[.string ⟨#[80, 76, 65, 89, 69, 82]⟩, .int .i64 0, .bool false, .string (S p), .int .i64 0, .bool false] 49)) := Below.alloc (Below.refl _ _) (Nat.le_refl _) _
        have hza : (wr.alloc (.cells #[.string ⟨#[80, 76, 65, 89, 69, 82]⟩, .int .i64 0, .bool false, .string (S p), .int .i64 0, .bool false] 49)).heap.size = wr.heap.size + 1 := by simp
        have HZA := Lib.hid hza
        have HFA := Lib.hid hfa
        have HBA := Lib.hid hba
        have HSQ := Lib.hid hsq
        have HI := Lib.hid hinv
        clear hza hfa hba hsqa hsq hinv hp hcu hww hF hqk
        by_cases hcap : (k : Int) + 1 = q.cap
        · have e1 : ((k : Int) + 1 == q.cap) = true := beq_iff_eq.2 hcap
          by_cases hkee : (k : Int) + 1 = q.kee
          · have e2 : ((k : Int) + 1 == q.kee) = true := beq_iff_eq.2 hkee
            rw [playerLine, if_pos hcap, if_pos hkee] at hqk'
            have HQK := Lib.hid hqk'
            clear hqk' hcap hkee
            go_wp2_with (first | (at_builtin; refine wpList_append_sl _ rfl (.tmp 38) (.tmp 40) _ rfl E_fld elFld_good wr.heap.size _ [wordF sPLAYER, wordF p] rfl (HFA.out.alloc elFld_good _) ⟨wr.heap.size + 1, 0, none⟩ 1 [.string ⟨#[67, 65, 80, 84, 65, 73, 78]⟩, .int .i64 0, .bool false] rfl (wordF sCAPTAIN) rfl (cells_at _ _ HZA.out _ _) (oneCells rfl) rfl (by simp [maxLen]) (by simp) (by have := HBA.out.size; simp; omega) ?_; intro v5 w5 hown5 hg5 hat5; have hbb5 : Below wr.heap.size wr w5 := below_own (Below.alloc HBA.out (by have := HBA.out.size; omega) _) (HFA.out.alloc elFld_good _) hg5 (Nat.le_refl _) (by have := HBA.out.size; simp; omega); obtain ⟨A5, c5, rfl, hc5, hd5⟩ := (hown5.sl elFld_good).shape; have hsq5 := HSQ.out.below hbb5 (by omega); have ya3 := hsq5.cell 3; simp only [List.getElem?_toArray, List.getElem?_cons_zero, List.getElem?_cons_succ] at ya3; have HF5 := Lib.hid hown5; have HBB5 := Lib.hid hbb5; clear hown5 hg5 hat5 hsq5 hbb5) | (at_builtin; refine wpList_append_sl _ rfl (.tmp 47) (.tmp 49) _ rfl E_fld elFld_good wr.heap.size _ ([wordF sPLAYER, wordF p] ++ [wordF sCAPTAIN]) rfl (HF5.out.alloc elFld_good _) ⟨w5.heap.size, 0, none⟩ 1 [.string ⟨#[75, 69, 69, 80, 69, 82]⟩, .int .i64 0, .bool false] rfl (wordF sKEEPER) rfl (cells_new _ _ _ _) (oneCells rfl) rfl (by simp [maxLen]) (by simp) (by have := HBB5.out.size; simp; omega) ?_; intro v6 w6 hown6 hg6 hat6; have hbb6 : Below wr.heap.size wr w6 := below_own (Below.alloc HBB5.out (by have := HBB5.out.size; omega) _) (HF5.out.alloc elFld_good _) hg6 (Nat.le_refl _) (by have := HBB5.out.size; simp; omega); obtain ⟨A6, c6, rfl, hc6, hd6⟩ := (hown6.sl elFld_good).shape; have hsq6 := HSQ.out.below hbb6 (by omega); have ya3 := hsq6.cell 3; simp only [List.getElem?_toArray, List.getElem?_cons_zero, List.getElem?_cons_succ] at ya3; have HF6 := Lib.hid hown6; have HBB6 := Lib.hid hbb6; clear hown6 hg6 hat6 hsq6 hbb6) | (at_builtin; refine wpList_append_g _ rfl (.tmp 51) (.tmp 54) _ rfl E_lin elLin_good w1.heap.size _ (lineG w1.heap.size (w6.alloc _) _ _) out rfl ((HI.out.below HBB6.out).below ((Below.refl _ _).alloc (Nat.le_refl _) _)).hv ⟨w6.heap.size, 0, none⟩ 1 [.int .i64 0, .slice A6 ([wordF sPLAYER, wordF p] ++ [wordF sCAPTAIN] ++ [wordF sKEEPER]).length c6] rfl ⟨0, ([wordF sPLAYER, wordF p] ++ [wordF sCAPTAIN] ++ [wordF sKEEPER])⟩ rfl (cells_new _ _ _ _) (oneCells rfl) (fun b hb => ⟨hb.2.1, hb.2.2.1⟩) (HI.out.fields_el HBB6.out (HF6.out.sl elFld_good) _) (by simp only [maxLen]; omega) (by omega) (by have := HI.out.hz; have := HBB6.out.size; simp; omega) ?_; intro v4 w4 hown4 hg4 hat4))
            go_roundw
            case rel => exact ⟨k + 1, _, by omega, by go_num, ((HI.out.below HBB6.out).below ((Below.refl _ _).alloc (Nat.le_refl _) _)).line hown4 hg4 hat4, by unfold Hid; rw [← HQK.out, List.append_assoc]; rfl, by simp; omega⟩
            case measure => simp [intOf]; omega
          · have e2 : ((k : Int) + 1 == q.kee) = false := beq_eq_false_iff_ne.2 hkee
            rw [playerLine, if_pos hcap, if_neg hkee] at hqk'
            have HQK := Lib.hid hqk'
            clear hqk' hcap hkee
            go_wp2_with (first | (at_builtin; refine wpList_append_sl _ rfl (.tmp 38) (.tmp 40) _ rfl E_fld elFld_good wr.heap.size _ [wordF sPLAYER, wordF p] rfl (HFA.out.alloc elFld_good _) ⟨wr.heap.size + 1, 0, none⟩ 1 [.string ⟨#[67, 65, 80, 84, 65, 73, 78]⟩, .int .i64 0, .bool false] rfl (wordF sCAPTAIN) rfl (cells_at _ _ HZA.out _ _) (oneCells rfl) rfl (by simp [maxLen]) (by simp) (by have := HBA.out.size; simp; omega) ?_; intro v5 w5 hown5 hg5 hat5; have hbb5 : Below wr.heap.size wr w5 := below_own (Below.alloc HBA.out (by have := HBA.out.size; omega) _) (HFA.out.alloc elFld_good _) hg5 (Nat.le_refl _) (by have := HBA.out.size; simp; omega); obtain ⟨A5, c5, rfl, hc5, hd5⟩ := (hown5.sl elFld_good).shape; have hsq5 := HSQ.out.below hbb5 (by omega); have ya3 := hsq5.cell 3; simp only [List.getElem?_toArray, List.getElem?_cons_zero, List.getElem?_cons_succ] at ya3; have HF5 := Lib.hid hown5; have HBB5 := Lib.hid hbb5; clear hown5 hg5 hat5 hsq5 hbb5) | (at_builtin; refine wpList_append_g _ rfl (.tmp 51) (.tmp 54) _ rfl E_lin elLin_good w1.heap.size _ (lineG w1.heap.size (w5.alloc _) _ _) out rfl ((HI.out.below HBB5.out).below ((Below.refl _ _).alloc (Nat.le_refl _) _)).hv ⟨w5.heap.size, 0, none⟩ 1 [.int .i64 0, .slice A5 ([wordF sPLAYER, wordF p] ++ [wordF sCAPTAIN]).length c5] rfl ⟨0, ([wordF sPLAYER, wordF p] ++ [wordF sCAPTAIN] ++ [])⟩ rfl (cells_new _ _ _ _) (oneCells rfl) (fun b hb => ⟨hb.2.1, hb.2.2.1⟩) (HI.out.fields_el HBB5.out (HF5.out.sl elFld_good) _) (by simp only [maxLen]; omega) (by omega) (by have := HI.out.hz; have := HBB5.out.size; simp; omega) ?_; intro v4 w4 hown4 hg4 hat4))
            go_roundw
            case rel => exact ⟨k + 1, _, by omega, by go_num, ((HI.out.below HBB5.out).below ((Below.refl _ _).alloc (Nat.le_refl _) _)).line hown4 hg4 hat4, by unfold Hid; rw [← HQK.out, List.append_assoc]; rfl, by simp; omega⟩
            case measure => simp [intOf]; omega
        · have e1 : ((k : Int) + 1 == q.cap) = false := beq_eq_false_iff_ne.2 hcap
          by_cases hkee : (k : Int) + 1 = q.kee
          · have e2 : ((k : Int) + 1 == q.kee) = true := beq_iff_eq.2 hkee
            rw [playerLine, if_neg hcap, if_pos hkee] at hqk'
            have HQK := Lib.hid hqk'
            clear hqk' hcap hkee
            go_wp2_with (first | (at_builtin; refine wpList_append_sl _ rfl (.tmp 47) (.tmp 49) _ rfl E_fld elFld_good wr.heap.size _ [wordF sPLAYER, wordF p] rfl (HFA.out.alloc elFld_good _) ⟨wr.heap.size + 1, 0, none⟩ 1 [.string ⟨#[75, 69, 69, 80, 69, 82]⟩, .int .i64 0, .bool false] rfl (wordF sKEEPER) rfl (cells_at _ _ HZA.out _ _) (oneCells rfl) rfl (by simp [maxLen]) (by simp) (by have := HBA.out.size; simp; omega) ?_; intro v6 w6 hown6 hg6 hat6; have hbb6 : Below wr.heap.size wr w6 := below_own (Below.alloc HBA.out (by have := HBA.out.size; omega) _) (HFA.out.alloc elFld_good _) hg6 (Nat.le_refl _) (by have := HBA.out.size; simp; omega); obtain ⟨A6, c6, rfl, hc6, hd6⟩ := (hown6.sl elFld_good).shape; have hsq6 := HSQ.out.below hbb6 (by omega); have ya3 := hsq6.cell 3; simp only [List.getElem?_toArray, List.getElem?_cons_zero, List.getElem?_cons_succ] at ya3; have HF6 := Lib.hid hown6; have HBB6 := Lib.hid hbb6; clear hown6 hg6 hat6 hsq6 hbb6) | (at_builtin; refine wpList_append_g _ rfl (.tmp 51) (.tmp 54) _ rfl E_lin elLin_good w1.heap.size _ (lineG w1.heap.size (w6.alloc _) _ _) out rfl ((HI.out.below HBB6.out).below ((Below.refl _ _).alloc (Nat.le_refl _) _)).hv ⟨w6.heap.size, 0, none⟩ 1 [.int .i64 0, .slice A6 ([wordF sPLAYER, wordF p] ++ [wordF sKEEPER]).length c6] rfl ⟨0, ([wordF sPLAYER, wordF p] ++ [] ++ [wordF sKEEPER])⟩ rfl (cells_new _ _ _ _) (oneCells rfl) (fun b hb => ⟨hb.2.1, hb.2.2.1⟩) (HI.out.fields_el HBB6.out (HF6.out.sl elFld_good) _) (by simp only [maxLen]; omega) (by omega) (by have := HI.out.hz; have := HBB6.out.size; simp; omega) ?_; intro v4 w4 hown4 hg4 hat4))
            go_roundw
            case rel => exact ⟨k + 1, _, by omega, by go_num, ((HI.out.below HBB6.out).below ((Below.refl _ _).alloc (Nat.le_refl _) _)).line hown4 hg4 hat4, by unfold Hid; rw [← HQK.out, List.append_assoc]; rfl, by simp; omega⟩
            case measure => simp [intOf]; omega
          · have e2 : ((k : Int) + 1 == q.kee) = false := beq_eq_false_iff_ne.2 hkee
            rw [playerLine, if_neg hcap, if_neg hkee] at hqk'
            have HQK := Lib.hid hqk'
            clear hqk' hcap hkee
            go_wp2_with (first | (at_builtin; refine wpList_append_g _ rfl (.tmp 51) (.tmp 54) _ rfl E_lin elLin_good w1.heap.size _ (lineG w1.heap.size ((wr.alloc (.cells #[.string ⟨#[80, 76, 65, 89, 69, 82]⟩, .int .i64 0, .bool false, .string (S p), .int .i64 0, .bool false] 49)).alloc _) _ _) out rfl ((HI.out.below HBA.out).below ((Below.refl _ _).alloc (Nat.le_refl _) _)).hv ⟨wr.heap.size + 1, 0, none⟩ 1 [.int .i64 0, .slice (some ⟨wr.heap.size, 0, none⟩) 2 2] rfl ⟨0, ([wordF sPLAYER, wordF p] ++ [] ++ [])⟩ rfl (cells_at _ _ HZA.out _ _) (oneCells rfl) (fun b hb => ⟨hb.2.1, hb.2.2.1⟩) (HI.out.fields_el HBA.out (HFA.out.sl elFld_good) _) (by simp only [maxLen]; omega) (by omega) (by have := HI.out.hz; have := HBA.out.size; simp; omega) ?_; intro v4 w4 hown4 hg4 hat4))
            go_roundw
            case rel => exact ⟨k + 1, _, by omega, by go_num, ((HI.out.below HBA.out).below ((Below.refl _ _).alloc (Nat.le_refl _) _)).line hown4 hg4 hat4, by unfold Hid; rw [← HQK.out, List.append_assoc]; rfl, by simp; omega⟩
            case measure => simp [intOf]; omega
      · have hke : k = q.players.length := by omega
        have ho := hqk.out
        rw [List.drop_eq_nil_of_le (by omega), playerLines, List.append_nil] at ho
        subst ho
        have hwr := text_Write _ (sqLines q) wr (HG.out.below hww) (hinv.hv.sl elLin_good (fun b hb => hb.2.1) fun b _ h => h) HS.out
        obtain ⟨Av, cv, hv, hcv, hcv'⟩ := (hinv.hv.sl elLin_good (F := (· < wr.heap.size)) (fun b hb => hb.2.1) fun b _ h => h).shape
        subst hv
        have HWR := Lib.hid hwr
        have HWW := Lib.hid hww
        clear hwr hww hinv hsq hqk
        go_wp2_with (go_at_call 28; refine HWR.out.mono ?_; rintro x w9 ⟨rfl, hb9⟩)
        refine bodyPost_ret (v := .tuple #[.string (S (writeS (sqLines q))), .int .i64 0]) (by simp [results, Tryd.results12, go_sem]) rfl ⟨?_, HWW.out.trans (hb9.mono HWW.out.size)⟩
        rw [HR.out]
  · have hres' : res = ([], e) := by rw [hres, textS, if_pos (by rw [← he]; exact hz), ← he]
    have e0 : (e != 0) = true := by simp [hz]
    have hck' : Calls Tryd.prog 18 #[.agg #[.string (S q.name), .slice A q.players.length c, .int .i64 q.cap, .int .i64 q.kee]] w0 fun x w1 => x = .returned (.int .i64 e) ∧ Below w.heap.size w w1 := by
      refine hck.mono ?_
      rintro x w1 ⟨rfl, hb1⟩
      exact ⟨rfl, hb0.trans (hb1.mono (by omega))⟩
    rw [hw0] at hck'
    have HCK := Lib.hid hck'
    have HR := Lib.hid hres'
    clear hck hck' hres hres' he hblk h0 h hn hl hz hs hc11 hb0 hg hz0 hw0
    go_enter Tryd.func12, Tryd.ntmps12
    go_wp2_with (go_at_call 18; refine HCK.out.mono ?_; rintro x w1 ⟨rfl, hb1⟩)
    refine bodyPost_ret (v := .tuple #[.string ⟨#[]⟩, .int .i64 e]) (by simp [results, Tryd.results12, go_sem]) rfl ⟨?_, hb1⟩
    rw [HR.out]
    rfl
end Go.Proofs.YtfljohhocgaheaaDoor
