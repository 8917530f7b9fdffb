/- The contract of chance.Parse. Conditions: the library's tables lie as they should; the text is shorter than 4 GB. -/
import Derived.Test.YtfnfbojaiikigaaGreatDoorH10
import Derived.Test.YtfnfbojaiikigaaGreatDoorT6
set_option linter.unusedSimpArgs false
set_option linter.unusedVariables false
namespace Go.Proofs.YtfnfbojaiikigaaGreatDoor
open Go.RowKit

theorem pieces_mem (c : UInt8) : ∀ (l : List UInt8), ∀ p ∈ pieces c l, p.length ≤ l.length := by
  intro l
  induction l with
  | nil => intro p hp; simp [pieces] at hp; subst hp; simp
  | cons x l ih =>
    intro p hp
    rw [pieces] at hp
    split at hp
    · rcases List.mem_cons.1 hp with rfl | hp
      · simp
      · have := ih p hp; simp; omega
    · cases hq : pieces c l with
      | nil => rw [hq] at hp; simp at hp; subst hp; simp
      | cons q r =>
        rw [hq] at hp
        rcases List.mem_cons.1 hp with rfl | hp
        · have := ih q (by rw [hq]; simp); simp; omega
        · have := ih p (by rw [hq]; simp [hp]); simp; omega
theorem cut_le (l sep : List UInt8) : (Lib.cut l sep).1.length ≤ l.length ∧ (Lib.cut l sep).2.1.length ≤ l.length := by
  unfold Lib.cut
  split
  · simp; omega
  · simp
theorem trimSuffix_le (l p : List UInt8) : (Lib.trimSuffix l p).length ≤ l.length := by unfold Lib.trimSuffix; split <;> simp <;> omega
theorem E_otc : ElemOf Tryz.prog 42 46 3 24 := ElemOf.mk (z := .agg #[.int .i64 0, .bool false, .int .i64 0]) Tryz.underlying42 (by kernel_rfl) rfl (by decide)
/-- Outcomes and an error, handed back. -/
def OtcPost (w : World) (r : List Otc × Int) (e : Ending) (w' : World) : Prop :=
  ∃ v, e = .returned (.tuple #[v, .int .i64 r.2]) ∧ Sl 3 elOtc w' (fun x => w.heap.size ≤ x ∧ x < w'.heap.size) v r.1 ∧ Below w.heap.size w w'
@[go_sem] theorem build_otc3 (x y : Int) (b : Bool) (w : World) : (Instr.build 46 #[(0, .int .i64 x), (1, .bool b), (2, .int .i64 y)]).run Tryz.prog w = .ok (.agg #[.int .i64 x, .bool b, .int .i64 y]) w := run_build w 46 _ _ (by kernel_rfl)
set_option maxRecDepth 100000 in
set_option maxHeartbeats 1000000 in
theorem ch_Parse (s : ByteArray) (w : World) (hg : GlobN w) (hs : s.size ≤ 1000000000) : Calls Tryz.prog 39 #[.string s] w (OtcPost w (parseC s.data.toList)) := by
  obtain ⟨z, hz⟩ : ∃ z, z = parseC s.data.toList := ⟨_, rfl⟩
  rw [← hz]
  unfold parseC at hz
  obtain ⟨ps, hps⟩ : ∃ ps, ps = pieces 32 s.data.toList := ⟨_, rfl⟩
  have ks := str_Split 32 s w hg.glob (by omega)
  have hplen := pieces_len 32 s.data.toList
  have hpmem := pieces_mem 32 s.data.toList
  have hsl : s.data.toList.length = s.size := by simp
  rw [← hps] at hz ks hplen hpmem
  rw [hsl] at hplen hpmem
  have KS := Lib.hid ks
  have HZ := Lib.hid hz
  have HG := Lib.hid hg
  have HPM := Lib.hid hpmem
  clear hz ks hg hps hpmem hsl
  go_enter Tryz.func39, Tryz.ntmps39
  go_wp2_with (go_at_call 78; refine KS.out.mono ?_; rintro e w1 ⟨v1, rfl, hs1, hb1⟩; obtain ⟨A, c, rfl, hc, hc2⟩ := hs1.shape; have HS1 := Lib.hid hs1; have HB1 := Lib.hid hb1; clear hs1 hb1)
  go_loopw [4, 20] (fun v i wr => ∃ k : Nat, k ≤ ps.length ∧ i = .int .i64 k ∧ Below w1.heap.size w1 wr ∧ OwnSl 3 elOtc 46 w1.heap.size wr v ((ps.take k).map pieceO) ∧ Hid ((ps.take k).all pieceOk = true)) (fun _ i _ => ps.length - (intOf i).toNat)
  case atStart => exact ⟨0, Nat.zero_le _, rfl, Below.refl _ _, OwnSl.nil _, Lib.hid rfl⟩
  case round =>
    obtain ⟨k, hk, rfl, hbw, hown, hall⟩ := hrel
    have hbb := HB1.out.trans (hbw.mono HB1.out.size)
    have HBB := Lib.hid hbb
    have HBW := Lib.hid hbw
    have HO := Lib.hid hown
    by_cases hlt : k < ps.length
    · obtain ⟨pb, po, rfl, hpF, p0'⟩ := HS1.out.str_at hlt
      have p0 := (hbw.cell (p := ⟨pb, po + k, none⟩) hpF.2).trans p0'
      have hpl := HPM.out _ (List.getElem_mem hlt)
      have htk : ps.take (k + 1) = ps.take k ++ [ps[k]] := List.take_succ_eq_append_getElem hlt
      have hbad : pieceOk ps[k] = false → ps.all pieceOk = false := fun h => by
        rw [Bool.eq_false_iff]; intro h2
        have := List.all_eq_true.1 h2 _ (List.getElem_mem hlt)
        rw [h] at this; cases this
      obtain ⟨p, hp⟩ : ∃ p, p = ps[k] := ⟨_, rfl⟩
      rw [← hp] at p0 hpl htk hbad
      have c1 := cut_le p [58]
      have kc : ∀ W, Below w.heap.size w W → Calls Tryz.prog 79 #[.string (S p), .string ⟨#[58]⟩] W fun e W' => e = .returned (.tuple #[.string (S (Lib.cut p [58]).1), .string (S (Lib.cut p [58]).2.1), .bool (Lib.cut p [58]).2.2]) ∧ Below W.heap.size W W' := fun W hW => by
        refine (Tryz.strings_Cut_shaped (S p) ⟨#[58]⟩ W (HG.out.below hW).glob.shaped (by rw [S_size]; omega)).mono ?_
        rintro e W' ⟨rfl, n, rfl⟩
        exact ⟨rfl, Below.drewN_ (Below.refl _ _) _⟩
      have kx : ∀ W, Calls Tryz.prog 80 #[.string (S (Lib.cut p [58]).1), .string ⟨#[87]⟩] W fun e W' => e = .returned (.tuple #[.string (S (partA p)), .bool (partW p)]) ∧ W = W' := fun W => by
        refine (Tryz.strings_CutSuffix (S (Lib.cut p [58]).1) ⟨#[87]⟩ W (by rw [S_size]; omega)).mono ?_
        rintro e W' ⟨rfl, rfl⟩
        exact ⟨rfl, rfl⟩
      have hpa : (partA p).length ≤ 1000000000 := by have := trimSuffix_le (Lib.cut p [58]).1 [87]; unfold partA; omega
      have hpb : (partB p).length ≤ 1000000000 := by unfold partB; omega
      have kn1 := fun W (hW : Below w.heap.size w W) => text_Number (S (partA p)) 0 7 W (HG.out.below hW) (by rw [S_size]; omega)
      have kn2 := fun W (hW : Below w.heap.size w W) => text_Number (S (partB p)) 1 16 W (HG.out.below hW) (by rw [S_size]; omega)
      simp only [S_data] at kn1 kn2
      have hpo : pieceO p = ⟨(numberS (partA p) 0 7).1, partW p, (numberS (partB p) 1 16).1⟩ := rfl
      have hpk : pieceOk p = (decide ((numberS (partA p) 0 7).2 = 0) && decide ((numberS (partB p) 1 16).2 = 0)) := rfl
      have hcb : (Lib.cut p [58]).2.1 = partB p := rfl
      rw [hcb] at kc
      obtain ⟨⟨n1, e1⟩, hn1⟩ : ∃ q, q = numberS (partA p) 0 7 := ⟨_, rfl⟩
      obtain ⟨⟨n2, e2⟩, hn2⟩ : ∃ q, q = numberS (partB p) 1 16 := ⟨_, rfl⟩
      rw [← hn1] at kn1 hpo hpk
      rw [← hn2] at kn2 hpo hpk
      dsimp only at kn1 kn2 hpo hpk
      obtain ⟨pa, hpae⟩ : ∃ pa, pa = partA p := ⟨_, rfl⟩
      obtain ⟨pbb, hpbe⟩ : ∃ pb, pb = partB p := ⟨_, rfl⟩
      obtain ⟨pw, hpwe⟩ : ∃ pw, pw = partW p := ⟨_, rfl⟩
      obtain ⟨ca, hcae⟩ : ∃ ca, ca = (Lib.cut p [58]).1 := ⟨_, rfl⟩
      obtain ⟨cw, hcwe⟩ : ∃ cw, cw = (Lib.cut p [58]).2.2 := ⟨_, rfl⟩
      rw [← hcae] at kc kx
      rw [← hcwe, ← hpbe] at kc
      rw [← hpae, ← hpwe] at kx
      rw [← hpae] at kn1
      rw [← hpbe] at kn2
      rw [← hpwe] at hpo
      have KC := Lib.hid kc
      have KX := Lib.hid kx
      have KN1 := Lib.hid kn1
      have KN2 := Lib.hid kn2
      have HTK := Lib.hid htk
      have HPO := Lib.hid hpo
      have HPK := Lib.hid hpk
      have HBAD := Lib.hid hbad
      have hlen : ((ps.take k).map pieceO).length = k := by simp; omega
      have HLN := Lib.hid hlen
      clear hbw hown hbb hpl htk hbad c1 kc kx hpa hpb kn1 kn2 hpo hpk hcb hn1 hn2 hpae hpbe hpwe hcae hcwe hp p0' hlen
      by_cases he1 : e1 = 0
      · by_cases he2 : e2 = 0
        · have HOKP := Lib.hid (show pieceOk p = true by rw [HPK.out, he1, he2]; rfl)
          subst he1
          subst he2
          go_wp2_with (first
            | (go_at_call 79; refine (KC.out _ HBB.out).mono ?_; rintro e w2 ⟨rfl, hb2⟩; have HB2 := Lib.hid (HBB.out.trans (hb2.mono HBB.out.size)); have HO2 := Lib.hid (HO.out.below elOtc_good hb2); have HC2 := Lib.hid (HBW.out.trans (hb2.mono HBW.out.size)); clear hb2)
            | (go_at_call 80; refine (KX.out _).mono ?_; rintro e w3 ⟨rfl, rfl⟩)
            | (go_at_call 81; clear tokN; refine (KN2.out _ HB4.out).mono ?_; rintro e w5 ⟨rfl, hb5⟩; have HB5 := Lib.hid (HB4.out.trans (hb5.mono HB4.out.size)); have HO5 := Lib.hid (HO4.out.below elOtc_good hb5); have HC5 := Lib.hid (HC4.out.trans (hb5.mono HC4.out.size)); clear hb5)
            | (go_at_call 81; refine (KN1.out _ HB2.out).mono ?_; rintro e w4 ⟨rfl, hb4⟩; have HB4 := Lib.hid (HB2.out.trans (hb4.mono HB2.out.size)); have HO4 := Lib.hid (HO2.out.below elOtc_good hb4); have HC4 := Lib.hid (HC2.out.trans (hb4.mono HC2.out.size)); have tokN : True := trivial; clear hb4)
            | (at_builtin; refine wpList_append_sl _ rfl (.tmp 51) (.tmp 56) _ rfl E_otc elOtc_good w1.heap.size _ ((ps.take k).map pieceO) rfl (HO5.out.alloc elOtc_good _) ⟨w5.heap.size, 0, none⟩ 1 [.int .i64 n1, .bool pw, .int .i64 n2] rfl ⟨n1, pw, n2⟩ rfl (cells_new _ _ _ _) (oneCells rfl) rfl (by rw [HLN.out]; simp only [maxLen]; omega) (by rw [HLN.out]; omega) (by have := HC5.out.size; simp; omega) ?_; intro v6 w6 hown6 hg6 hat6; have hb6 : Below w1.heap.size w1 w6 := below_own (Below.alloc HC5.out HC5.out.size (.cells #[.int .i64 n1, .bool pw, .int .i64 n2] 46)) (HO5.out.alloc elOtc_good (.cells #[.int .i64 n1, .bool pw, .int .i64 n2] 46)) hg6 (Nat.le_refl _) (by have := HC5.out.size; simp; omega); have HO6 := Lib.hid hown6; have HB6 := Lib.hid hb6; clear hown6 hg6 hat6 hb6))
          go_roundw
          case rel => exact ⟨k + 1, by omega, by go_num, HB6.out, by rw [HTK.out, List.map_append]; show OwnSl 3 elOtc _ _ _ _ ((ps.take k).map pieceO ++ [pieceO p]); rw [HPO.out]; exact HO6.out, Lib.hid (by rw [HTK.out, List.all_append, hall.out]; simp [HOKP.out])⟩
          case measure => simp [intOf]; omega
        · have HZ2 := Lib.hid (show z = ([], 4) by rw [HZ.out, if_pos (HBAD.out (by rw [HPK.out, he1, decide_eq_false he2, Bool.and_false]))])
          have g2 : (e2 != 0) = true := by rw [bne_iff_ne]; exact he2
          subst he1
          clear he2
          go_wp2_with (first
            | (go_at_call 79; refine (KC.out _ HBB.out).mono ?_; rintro e w2 ⟨rfl, hb2⟩; have HB2 := Lib.hid (HBB.out.trans (hb2.mono HBB.out.size)); clear hb2)
            | (go_at_call 80; refine (KX.out _).mono ?_; rintro e w3 ⟨rfl, rfl⟩)
            | (go_at_call 81; clear tokN; refine (KN2.out _ HB4.out).mono ?_; rintro e w5 ⟨rfl, hb5⟩; have HB5 := Lib.hid (HB4.out.trans (hb5.mono HB4.out.size)); clear hb5)
            | (go_at_call 81; refine (KN1.out _ HB2.out).mono ?_; rintro e w4 ⟨rfl, hb4⟩; have HB4 := Lib.hid (HB2.out.trans (hb4.mono HB2.out.size)); have tokN : True := trivial; clear hb4))
          go_ret2
          exact ⟨_, by rw [HZ2.out] <;> rfl, by rw [HZ2.out]; exact Sl.nil _ _, HB5.out⟩
      · have HZ2 := Lib.hid (show z = ([], 4) by rw [HZ.out, if_pos (HBAD.out (by rw [HPK.out, decide_eq_false he1, Bool.false_and]))])
        have g1 : (e1 != 0) = true := by rw [bne_iff_ne]; exact he1
        clear he1
        go_wp2_with (first
          | (go_at_call 79; refine (KC.out _ HBB.out).mono ?_; rintro e w2 ⟨rfl, hb2⟩; have HB2 := Lib.hid (HBB.out.trans (hb2.mono HBB.out.size)); clear hb2)
          | (go_at_call 80; refine (KX.out _).mono ?_; rintro e w3 ⟨rfl, rfl⟩)
          | (go_at_call 81; clear tokN; refine (KN2.out _ HB4.out).mono ?_; rintro e w5 ⟨rfl, hb5⟩; have HB5 := Lib.hid (HB4.out.trans (hb5.mono HB4.out.size)); clear hb5)
          | (go_at_call 81; refine (KN1.out _ HB2.out).mono ?_; rintro e w4 ⟨rfl, hb4⟩; have HB4 := Lib.hid (HB2.out.trans (hb4.mono HB2.out.size)); have tokN : True := trivial; clear hb4))
        go_ret2
        exact ⟨_, by rw [HZ2.out] <;> rfl, by rw [HZ2.out]; exact Sl.nil _ _, HB5.out⟩
    · obtain rfl : k = ps.length := by omega
      have hsl := hown.sl elOtc_good
      have ha := hall.out
      rw [List.take_of_length_le (Nat.le_refl _)] at hsl ha
      have hz1 := HZ.out
      rw [ha, if_neg (by simp)] at hz1
      obtain ⟨d, hd⟩ : ∃ d, d = ps.map pieceO := ⟨_, rfl⟩
      rw [← hd] at hsl hz1
      obtain ⟨B, c5, rfl, hc5, hc6⟩ := hsl.shape
      have kt := ch_Text d _ wr (HG.out.below hbb) (hsl.keep elOtc_good (Same.refl _ _) fun b h => h.2)
      obtain ⟨⟨t, et⟩, hte⟩ : ∃ q, q = textC d := ⟨_, rfl⟩
      rw [← hte] at kt hz1
      dsimp only at kt hz1
      have KT := Lib.hid kt
      have HSL := Lib.hid hsl
      have hz11 := HB1.out.size
      have HZ11 := Lib.hid hz11
      clear hbw hown hbb hsl ha kt hte hd hall hz11
      by_cases het : et = 0
      · by_cases hts : t = s.data.toList
        · have HZ2 := Lib.hid (show z = (d, 0) by rw [hz1, if_neg (fun h => h.elim (fun h => h het) (fun h => h hts))])
          have g1 : (t == s.toList) = true := by rw [ByteArray.toList_eq]; exact beq_iff_eq.2 hts
          subst het
          clear hz1 hts
          go_wp2_with (go_at_call 82; refine KT.out.mono ?_; rintro e w2 ⟨rfl, hb2⟩; have HB2 := Lib.hid hb2; clear hb2)
          go_ret2
          refine ⟨_, by rw [HZ2.out] <;> rfl, ?_, HBB.out.trans (HB2.out.mono HBB.out.size)⟩
          rw [HZ2.out]
          exact HSL.out.keep elOtc_good (Same.below HB2.out fun b h => h.2) fun b h => ⟨by have := h.1; have := HZ11.out; omega, Nat.lt_of_lt_of_le h.2 HB2.out.size⟩
        · have HZ2 := Lib.hid (show z = ([], 4) by rw [hz1, if_pos (.inr hts)])
          have g1 : (t == s.toList) = false := by rw [ByteArray.toList_eq]; exact beq_eq_false_iff_ne.2 hts
          subst het
          clear hz1 hts
          go_wp2_with (go_at_call 82; refine KT.out.mono ?_; rintro e w2 ⟨rfl, hb2⟩; have HB2 := Lib.hid hb2; clear hb2)
          go_ret2
          exact ⟨_, by rw [HZ2.out] <;> rfl, by rw [HZ2.out]; exact Sl.nil _ _, HBB.out.trans (HB2.out.mono HBB.out.size)⟩
      · have HZ2 := Lib.hid (show z = ([], 4) by rw [hz1, if_pos (.inl het)])
        have g1 : (et != 0) = true := by rw [bne_iff_ne]; exact het
        clear hz1 het
        go_wp2_with (go_at_call 82; refine KT.out.mono ?_; rintro e w2 ⟨rfl, hb2⟩; have HB2 := Lib.hid hb2; clear hb2)
        go_ret2
        exact ⟨_, by rw [HZ2.out] <;> rfl, by rw [HZ2.out]; exact Sl.nil _ _, HBB.out.trans (HB2.out.mono HBB.out.size)⟩
end Go.Proofs.YtfnfbojaiikigaaGreatDoor
