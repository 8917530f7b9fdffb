/- The contract of the reference's Parse. -/
import Derived.Test.YtoeeodemimndlaaGreatDoorH21
import Derived.Test.YtoeeodemimndlaaGreatDoorH23
import Derived.Test.YtoeeodemimndlaaGreatDoorP53
import Derived.Test.YtoeeodemimndlaaGreatDoorP1
set_option linter.unusedSimpArgs false
set_option linter.unusedVariables false
namespace Go.Proofs.YtoeeodemimndlaaGreatDoor
section

theorem pieces_no2 (c : UInt8) : ∀ l : List UInt8, c ∉ l → pieces c l = [l] := by
  intro l
  induction l with
  | nil => intro _; rfl
  | cons b l ih =>
    intro h
    rw [pieces, if_neg (by rintro rfl; simp at h), ih (by simp at h; exact h.2)]
theorem pieces_app2 (c : UInt8) : ∀ (l r : List UInt8), c ∉ l → pieces c (l ++ c :: r) = l :: pieces c r := by
  intro l
  induction l with
  | nil => intro r _; rw [List.nil_append, pieces, if_pos rfl]
  | cons b l ih =>
    intro r h
    rw [List.cons_append, pieces, if_neg (by rintro rfl; simp at h), ih r (by simp at h; exact h.2)]
/-- Up to place i, the piece under way beginning at st; what is done is in order. -/
structure PcInv (l : List UInt8) (st i : Nat) (done : List (List UInt8)) : Prop where
  sti : st ≤ i
  il : i ≤ l.length
  eq : pieces 32 l = done ++ pieces 32 (l.drop st)
  no : ∀ j, st ≤ j → j < i → l[j]? ≠ some 32
  ok : done.all pieceOk = true
theorem PcInv.start (l : List UInt8) : PcInv l 0 0 [] := ⟨Nat.le_refl _, Nat.zero_le _, rfl, fun j _ h => by omega, rfl⟩
theorem PcInv.skip {l : List UInt8} {st i : Nat} {done : List (List UInt8)} (h : PcInv l st i done) (hi : i < l.length) (hb : l[i]? ≠ some 32) : PcInv l st (i + 1) done :=
  ⟨by have := h.sti; omega, hi, h.eq, fun j h1 h2 => by
    by_cases e : j = i
    · subst e; exact hb
    · exact h.no j h1 (by omega), h.ok⟩
theorem PcInv.none {l : List UInt8} {st i : Nat} {done : List (List UInt8)} (h : PcInv l st i done) : (32 : UInt8) ∉ (l.drop st).take (i - st) := by
  intro hm
  obtain ⟨j, hj⟩ := List.mem_iff_getElem?.1 hm
  rw [List.getElem?_take] at hj
  split at hj
  · rw [List.getElem?_drop] at hj
    exact h.no (st + j) (by omega) (by omega) hj
  · cases hj
theorem PcInv.cutEq {l : List UInt8} {st i : Nat} {done : List (List UInt8)} (h : PcInv l st i done) (hi : i < l.length) (hb : l[i] = 32) : pieces 32 l = done ++ (l.drop st).take (i - st) :: pieces 32 (l.drop (i + 1)) := by
  have e : l.drop st = (l.drop st).take (i - st) ++ 32 :: l.drop (i + 1) := by
    have e1 := (List.take_append_drop (i - st) (l.drop st)).symm
    rw [List.drop_drop, show st + (i - st) = i by have := h.sti; omega, List.drop_eq_getElem_cons hi, hb] at e1
    exact e1
  have e2 : pieces 32 (l.drop st) = (l.drop st).take (i - st) :: pieces 32 (l.drop (i + 1)) := by
    conv => lhs; rw [e]
    exact pieces_app2 32 _ _ h.none
  rw [h.eq, e2]
theorem PcInv.cut {l : List UInt8} {st i : Nat} {done : List (List UInt8)} (h : PcInv l st i done) (hi : i < l.length) (hb : l[i] = 32) (hk : pieceOk ((l.drop st).take (i - st)) = true) : PcInv l (i + 1) (i + 1) (done ++ [(l.drop st).take (i - st)]) :=
  ⟨Nat.le_refl _, hi, by rw [h.cutEq hi hb]; simp, fun j h1 h2 => by omega, by rw [List.all_append, h.ok]; simp [hk]⟩
theorem PcInv.endEq {l : List UInt8} {st : Nat} {done : List (List UInt8)} (h : PcInv l st l.length done) : pieces 32 l = done ++ [(l.drop st).take (l.length - st)] := by
  have h2 := h.none
  have e : (l.drop st).take (l.length - st) = l.drop st := List.take_of_length_le (by rw [List.length_drop]; omega)
  rw [e] at h2 ⊢
  rw [h.eq, pieces_no2 32 _ h2]
theorem all_bad {l : List (List UInt8)} {p : List UInt8} (hm : p ∈ l) (h : pieceOk p = false) : l.all pieceOk = false := by
  rw [Bool.eq_false_iff]; intro h2
  have := List.all_eq_true.1 h2 p hm
  rw [h] at this; cases this
end
open Go.RowKit

theorem ext_mid (s : ByteArray) (a b : Nat) : (s.extract a b).data.toList = (s.data.toList.drop a).take (b - a) := by
  simp [ByteArray.data_extract, Array.toList_extract, List.extract_eq_take_drop]
/-- What the reference's loop knows at place k. -/
def ParS (l : List UInt8) (st k : Nat) (done : List (List UInt8)) : Prop :=
  (k ≤ l.length ∧ PcInv l st k done) ∨ (k = l.length + 1 ∧ pieces 32 l = done ∧ done.all pieceOk = true)
set_option maxRecDepth 100000 in
set_option maxHeartbeats 2000000 in
theorem ref_Parse (s : ByteArray) (w : World) (hs : s.size ≤ 1000000) : Calls Tryz.prog 23 #[.string s] w (OtcPost w (parseC s.data.toList)) := by
  have hsl : s.data.toList.length = s.size := by simp
  obtain ⟨z, hz⟩ : ∃ z, z = parseC s.data.toList := ⟨_, rfl⟩
  rw [← hz]
  unfold parseC at hz
  have HZ := Lib.hid hz
  clear hz
  go_enter Tryz.func23, Tryz.ntmps23
  go_wp2
  go_loopw [4, 5, 6] (fun v sv i wr => ∃ (k st : Nat) (done : List (List UInt8)), k ≤ s.size + 1 ∧ st ≤ k ∧ i = .int .i64 k ∧ sv = .int .i64 st ∧ Below w.heap.size w wr ∧ OwnSl 3 elOtc 57 w.heap.size wr v (done.map pieceO) ∧ done.length ≤ k ∧ Hid (ParS s.data.toList st k done)) (fun _ _ i _ => s.size + 1 - (intOf i).toNat)
  case atStart => exact ⟨0, 0, [], by omega, Nat.le_refl _, rfl, rfl, Below.refl _ _, OwnSl.nil _, Nat.le_refl _, Lib.hid (.inl ⟨Nat.zero_le _, PcInv.start _⟩)⟩
  case round =>
    obtain ⟨k, st, done, hk, hst, rfl, rfl, hb, hown, hdl, HS⟩ := hrel
    have HB := Lib.hid hb
    clear hb
    by_cases hle : k ≤ s.size
    · have hkk : (k : Int) ≤ (s.size : Int) := by omega
      have hinv : PcInv s.data.toList st k done := by
        rcases HS.out with hx | hx
        · exact hx.2
        · exact absurd hx.1 (by omega)
      have HO := Lib.hid hown
      clear hown HS
      by_cases hlt : k < s.size
      · have hgk : s.data.toList[k]? = some s[k] := by rw [List.getElem?_eq_getElem (by rw [hsl]; exact hlt)]; rfl
        by_cases h32 : s[k] = 32
        · have t1 : ((s[k].toNat : Int) != 32) = false := by rw [h32]; rfl
          have hl32 : s.data.toList[k]'(by rw [hsl]; exact hlt) = 32 := by rw [List.getElem?_eq_getElem (by rw [hsl]; exact hlt)] at hgk; rw [Option.some.inj hgk]; exact h32
          clear h32 hgk
          obtain ⟨p, hp⟩ : ∃ p, s.extract st k = p := ⟨_, rfl⟩
          have hpl : p.data.toList = (s.data.toList.drop st).take (k - st) := by rw [← hp, ext_mid]
          have hps : p.size ≤ 1000000 := by have e : p.size = p.data.toList.length := by simp
                                            rw [e, hpl, List.length_take, List.length_drop, hsl]; omega
          have ko := fun W => ref_outcome p W hps
          unfold PiecePost at ko
          rw [hpl] at ko
          have heq := hinv.cutEq (by rw [hsl]; exact hlt) hl32
          have hbad : pieceOk ((s.data.toList.drop st).take (k - st)) = false → z = ([], 4) := fun h => by
            rw [HZ.out, if_pos (all_bad (by rw [heq]; simp) h)]
          obtain ⟨pc, hpc⟩ : ∃ pc, pc = (s.data.toList.drop st).take (k - st) := ⟨_, rfl⟩
          rw [← hpc] at ko hbad heq
          have hnx : pieceOk pc = true → ParS s.data.toList (k + 1) (k + 1) (done ++ [pc]) := fun h => by
            subst hpc
            exact .inl ⟨by omega, hinv.cut (by rw [hsl]; exact hlt) hl32 h⟩
          obtain ⟨okb, hokb⟩ : ∃ b, b = pieceOk pc := ⟨_, rfl⟩
          rw [← hokb] at ko hbad hnx
          have KO := Lib.hid ko
          have HBAD := Lib.hid hbad
          have HNX := Lib.hid hnx
          have HDL := Lib.hid hdl
          clear ko hbad hnx heq hpc hokb hpl hinv hdl
          cases okb
          case false =>
            have HZ2 := Lib.hid (show z = ([], 4) by first | exact HBAD.out rfl | exact HBAD.out trivial)
            go_wp2_with (go_at_call 54; refine (KO.out _).mono ?_; rintro e w4 ⟨o, rfl, ho, hb4⟩; have HB4 := Lib.hid (HB.out.trans (hb4.mono HB.out.size)); clear hb4)
            go_ret2
            exact ⟨_, by rw [HZ2.out] <;> rfl, by rw [HZ2.out]; exact Sl.nil _ _, HB4.out.alloc HB4.out.size _⟩
          case true =>
            go_wp2_with (first
              | (go_at_call 54; refine (KO.out _).mono ?_; rintro e w4 ⟨o, rfl, ho, hb4⟩; obtain ⟨ru, wk, wt⟩ := o; have HOE := Lib.hid (ho rfl); have HO4 := Lib.hid (HO.out.below elOtc_good hb4); have HB4 := Lib.hid (HB.out.trans (hb4.mono HB.out.size)); have hz4 : (w4.alloc (.cells #[.int .i64 ru, .bool wk, .int .i64 wt] 57)).heap.size = w4.heap.size + 1 := (by simp); have HCN := Lib.hid (cells_new (w4.alloc (.cells #[.int .i64 ru, .bool wk, .int .i64 wt] 57)) [.int .i64 ru, .bool wk, .int .i64 wt] 57 (0, 0)); have HZ4 := Lib.hid hz4; clear ho hb4 hz4)
              | (at_builtin; refine wpList_append_sl _ rfl (.tmp 37) (.tmp 39) _ rfl E_otc elOtc_good w.heap.size _ (done.map pieceO) rfl ((HO4.out.alloc elOtc_good _).alloc elOtc_good _) ⟨w4.heap.size + 1, 0, none⟩ 1 [.int .i64 ru, .bool wk, .int .i64 wt] rfl ⟨ru, wk, wt⟩ rfl (by rw [← HZ4.out]; exact HCN.out) (oneCells rfl) rfl (by rw [List.length_map]; have := HDL.out; simp only [maxLen]; omega) (by rw [List.length_map]; have := HDL.out; omega) (by have := HB4.out.size; simp; omega) ?_; intro v6 w6 hown6 hg6 hat6; have hb6 : Below w.heap.size w w6 := below_own (Below.alloc (Below.alloc HB4.out HB4.out.size (.cells #[.int .i64 ru, .bool wk, .int .i64 wt] 57)) (by have := HB4.out.size; simp; omega) (.cells #[.int .i64 ru, .bool wk, .int .i64 wt] 57)) ((HO4.out.alloc elOtc_good (.cells #[.int .i64 ru, .bool wk, .int .i64 wt] 57)).alloc elOtc_good (.cells #[.int .i64 ru, .bool wk, .int .i64 wt] 57)) hg6 (Nat.le_refl _) (by have := HB4.out.size; simp; omega); have HO6 := Lib.hid hown6; have HB6 := Lib.hid hb6; clear hown6 hg6 hat6 hb6))
            go_roundw
            case rel => exact ⟨k + 1, k + 1, done ++ [pc], by omega, by omega, by go_num, by go_num, HB6.out, by rw [List.map_append]; show OwnSl 3 elOtc _ _ _ _ (done.map pieceO ++ [pieceO pc]); rw [← HOE.out]; exact HO6.out, by rw [List.length_append]; have := HDL.out; simp; omega, Lib.hid (by first | exact HNX.out rfl | exact HNX.out trivial)⟩
            case measure => simp [intOf] <;> omega
        · have t1 : ((s[k].toNat : Int) != 32) = true := by
            rw [bne_iff_ne]; intro h; apply h32; apply UInt8.toNat.inj; have : s[k].toNat = 32 := by omega
            rw [this]; rfl
          have HS2 := Lib.hid (show ParS s.data.toList st (k + 1) done from .inl ⟨by omega, hinv.skip (by rw [hsl]; exact hlt) (by rw [hgk]; intro h; exact h32 (Option.some.inj h))⟩)
          clear hinv hgk h32
          go_wp2
          go_roundw
          case rel => exact ⟨k + 1, st, done, by omega, by omega, by go_num, rfl, HB.out, HO.out, by omega, HS2⟩
          case measure => simp [intOf]; omega
      · obtain rfl : k = s.size := by omega
        rw [← hsl] at hinv
        obtain ⟨p, hp⟩ : ∃ p, s.extract st s.size = p := ⟨_, rfl⟩
        have hpl : p.data.toList = (s.data.toList.drop st).take (s.size - st) := by rw [← hp, ext_mid]
        have hps : p.size ≤ 1000000 := by have e : p.size = p.data.toList.length := by simp
                                          rw [e, hpl, List.length_take, List.length_drop, hsl]; omega
        have ko := fun W => ref_outcome p W hps
        unfold PiecePost at ko
        rw [hpl] at ko
        have heq := hinv.endEq; rw [hsl] at heq
        have hbad : pieceOk ((s.data.toList.drop st).take (s.size - st)) = false → z = ([], 4) := fun h => by
          rw [HZ.out, if_pos (all_bad (by rw [heq]; simp) h)]
        obtain ⟨pc, hpc⟩ : ∃ pc, pc = (s.data.toList.drop st).take (s.size - st) := ⟨_, rfl⟩
        rw [← hpc] at ko hbad heq
        have hnx : pieceOk pc = true → ParS s.data.toList (s.size + 1) (s.size + 1) (done ++ [pc]) := fun h => by
          subst hpc
          exact .inr ⟨by rw [hsl], heq, by rw [List.all_append, hinv.ok]; simp [h]⟩
        obtain ⟨okb, hokb⟩ : ∃ b, b = pieceOk pc := ⟨_, rfl⟩
        rw [← hokb] at ko hbad hnx
        have KO := Lib.hid ko
        have HBAD := Lib.hid hbad
        have HNX := Lib.hid hnx
        have HDL := Lib.hid hdl
        clear ko hbad hnx heq hpc hokb hpl hinv hdl
        cases okb
        case false =>
          have HZ2 := Lib.hid (show z = ([], 4) by first | exact HBAD.out rfl | exact HBAD.out trivial)
          go_wp2_with (go_at_call 54; refine (KO.out _).mono ?_; rintro e w4 ⟨o, rfl, ho, hb4⟩; have HB4 := Lib.hid (HB.out.trans (hb4.mono HB.out.size)); clear hb4)
          go_ret2
          exact ⟨_, by rw [HZ2.out] <;> rfl, by rw [HZ2.out]; exact Sl.nil _ _, HB4.out.alloc HB4.out.size _⟩
        case true =>
          go_wp2_with (first
            | (go_at_call 54; refine (KO.out _).mono ?_; rintro e w4 ⟨o, rfl, ho, hb4⟩; obtain ⟨ru, wk, wt⟩ := o; have HOE := Lib.hid (ho rfl); have HO4 := Lib.hid (HO.out.below elOtc_good hb4); have HB4 := Lib.hid (HB.out.trans (hb4.mono HB.out.size)); have hz4 : (w4.alloc (.cells #[.int .i64 ru, .bool wk, .int .i64 wt] 57)).heap.size = w4.heap.size + 1 := (by simp); have HCN := Lib.hid (cells_new (w4.alloc (.cells #[.int .i64 ru, .bool wk, .int .i64 wt] 57)) [.int .i64 ru, .bool wk, .int .i64 wt] 57 (0, 0)); have HZ4 := Lib.hid hz4; clear ho hb4 hz4)
            | (at_builtin; refine wpList_append_sl _ rfl (.tmp 37) (.tmp 39) _ rfl E_otc elOtc_good w.heap.size _ (done.map pieceO) rfl ((HO4.out.alloc elOtc_good _).alloc elOtc_good _) ⟨w4.heap.size + 1, 0, none⟩ 1 [.int .i64 ru, .bool wk, .int .i64 wt] rfl ⟨ru, wk, wt⟩ rfl (by rw [← HZ4.out]; exact HCN.out) (oneCells rfl) rfl (by rw [List.length_map]; have := HDL.out; simp only [maxLen]; omega) (by rw [List.length_map]; have := HDL.out; omega) (by have := HB4.out.size; simp; omega) ?_; intro v6 w6 hown6 hg6 hat6; have hb6 : Below w.heap.size w w6 := below_own (Below.alloc (Below.alloc HB4.out HB4.out.size (.cells #[.int .i64 ru, .bool wk, .int .i64 wt] 57)) (by have := HB4.out.size; simp; omega) (.cells #[.int .i64 ru, .bool wk, .int .i64 wt] 57)) ((HO4.out.alloc elOtc_good (.cells #[.int .i64 ru, .bool wk, .int .i64 wt] 57)).alloc elOtc_good (.cells #[.int .i64 ru, .bool wk, .int .i64 wt] 57)) hg6 (Nat.le_refl _) (by have := HB4.out.size; simp; omega); have HO6 := Lib.hid hown6; have HB6 := Lib.hid hb6; clear hown6 hg6 hat6 hb6))
          go_roundw
          case rel => exact ⟨s.size + 1, s.size + 1, done ++ [pc], by omega, by omega, by go_num, by go_num, HB6.out, by rw [List.map_append]; show OwnSl 3 elOtc _ _ _ _ (done.map pieceO ++ [pieceO pc]); rw [← HOE.out]; exact HO6.out, by rw [List.length_append]; have := HDL.out; simp; omega, Lib.hid (by first | exact HNX.out rfl | exact HNX.out trivial)⟩
          case measure => simp [intOf] <;> omega
    · obtain rfl : k = s.size + 1 := by omega
      rcases HS.out with hx | ⟨hk1, hpe, hall⟩
      · exact absurd hx.1 (by omega)
      have hsl2 := hown.sl elOtc_good
      have hz1 := HZ.out
      rw [hpe, hall, if_neg (by simp)] at hz1
      obtain ⟨d, hd⟩ : ∃ d, d = done.map pieceO := ⟨_, rfl⟩
      rw [← hd] at hsl2 hz1
      obtain ⟨B, c5, rfl, hc5, hc6⟩ := hsl2.shape
      have kt := ref_Text d _ wr (hsl2.keep elOtc_good (Same.refl _ _) fun b h => h.2)
      obtain ⟨⟨t, et⟩, hte⟩ : ∃ q, q = textC d := ⟨_, rfl⟩
      rw [← hte] at kt hz1
      dsimp only at kt hz1
      have KT := Lib.hid kt
      have HSL := Lib.hid hsl2
      have hkk : ¬ ((s.size + 1 : Nat) : Int) ≤ (s.size : Int) := by omega
      clear hown hsl2 kt hte hd hall hpe HS hdl
      by_cases het : et = 0
      · by_cases hts : t = s.data.toList
        · have HZ2 := Lib.hid (show z = (d, 0) by rw [hz1, if_neg (fun h => h.elim (fun h => h het) (fun h => h hts))])
          have g1 : (t == s.toList) = true := by rw [ByteArray.toList_eq]; exact beq_iff_eq.2 hts
          subst het
          clear hz1 hts
          go_wp2_with (go_at_call 20; refine KT.out.mono ?_; rintro e w2 ⟨rfl, hb2⟩; have HB2 := Lib.hid hb2; clear hb2)
          go_ret2
          refine ⟨_, by rw [HZ2.out] <;> rfl, ?_, HB.out.trans (HB2.out.mono HB.out.size)⟩
          rw [HZ2.out]
          exact HSL.out.keep elOtc_good (Same.below HB2.out fun b h => h.2) fun b h => ⟨h.1, Nat.lt_of_lt_of_le h.2 HB2.out.size⟩
        · have HZ2 := Lib.hid (show z = ([], 4) by rw [hz1, if_pos (.inr hts)])
          have g1 : (t == s.toList) = false := by rw [ByteArray.toList_eq]; exact beq_eq_false_iff_ne.2 hts
          subst het
          clear hz1 hts
          go_wp2_with (go_at_call 20; refine KT.out.mono ?_; rintro e w2 ⟨rfl, hb2⟩; have HB2 := Lib.hid hb2; clear hb2)
          go_ret2
          exact ⟨_, by rw [HZ2.out] <;> rfl, by rw [HZ2.out]; exact Sl.nil _ _, HB.out.trans (HB2.out.mono HB.out.size)⟩
      · have HZ2 := Lib.hid (show z = ([], 4) by rw [hz1, if_pos (.inl het)])
        have g1 : (et != 0) = true := by rw [bne_iff_ne]; exact het
        clear hz1 het
        go_wp2_with (go_at_call 20; refine KT.out.mono ?_; rintro e w2 ⟨rfl, hb2⟩; have HB2 := Lib.hid hb2; clear hb2)
        go_ret2
        exact ⟨_, by rw [HZ2.out] <;> rfl, by rw [HZ2.out]; exact Sl.nil _ _, HB.out.trans (HB2.out.mono HB.out.size)⟩
set_option maxRecDepth 100000 in
set_option maxHeartbeats 2000000 in
/-- The walk of ChanceParses: both read every text alike. -/
theorem law_CParses (s : ByteArray) (w : World) (hg : GlobN w) (hs : s.size ≤ maxLen) :
    Calls Tryz.prog 6 #[.string s] w fun e w' => e = .returned (.bool true) ∧ Below w.heap.size w w' := by
  unfold maxLen at hs
  have HAW := Lib.hid (law42_awake w hg)
  have tok0 : True := trivial
  by_cases h1000 : 1000 < s.size
  · have hl : (1000 : Int) < (s.size : Int) := by omega
    clear hg h1000
    go_enter Tryz.func6, Tryz.ntmps6
    go_wp2_with (clear tok0; go_at_call 11; refine HAW.out.mono ?_; rintro e w1 ⟨rfl, hb1⟩; have HB1 := Lib.hid hb1; clear hb1; have tok1 : True := trivial)
    go_ret
    exact ⟨rfl, HB1.out⟩
  have hl : ¬ (1000 : Int) < (s.size : Int) := by omega
  have k1 := fun W (hW : Below w.heap.size w W) => ch_Parse s W (hg.below hW) (by omega)
  have k2 := fun W => ref_Parse s W (by omega)
  generalize parseC s.data.toList = r at *
  obtain ⟨d, x⟩ := r
  have K1 := Lib.hid k1
  have K2 := Lib.hid k2
  clear k1 k2 hg h1000
  go_enter Tryz.func6, Tryz.ntmps6
  go_wp2_with (first
    | (clear tok0; go_at_call 11; refine HAW.out.mono ?_; rintro e w1 ⟨rfl, hb1⟩; have HB1 := Lib.hid hb1; clear hb1; have tok1 : True := trivial)
    | (clear tok1; go_at_call 21; refine (K1.out _ HB1.out).mono ?_; rintro e w2 ⟨v2, rfl, hs2, hb2⟩; obtain ⟨A2, c2, rfl, _⟩ := hs2.shape; have HS2 := Lib.hid (hs2.keep elOtc_good (Same.refl _ _) fun b h => h.2 : Sl 3 elOtc w2 (· < w2.heap.size) (.slice A2 d.length c2) d); have HB2 := Lib.hid (HB1.out.trans (hb2.mono HB1.out.size)); clear hs2 hb2; have tok2 : True := trivial)
    | (clear tok2; go_at_call 23; refine (K2.out _).mono ?_; rintro e w3 ⟨v3, rfl, hs3, hb3⟩; obtain ⟨A3, c3, rfl, _⟩ := hs3.shape; have HS3 := Lib.hid hs3; have HT3 := Lib.hid (otc_below HS2.out hb3); have HB3 := Lib.hid (HB2.out.trans (hb3.mono HB2.out.size)); clear hs3 hb3; have tok3 : True := trivial)
    | (clear tok3; go_at_call 22; refine (law_equal d _ _ _ _ _ HT3.out HS3.out).mono ?_; rintro e w5 ⟨rfl, hb5⟩; have HB5 := Lib.hid (HB3.out.trans (hb5.mono HB3.out.size)); clear hb5; have tok5 : True := trivial))
  go_ret
  exact ⟨rfl, HB5.out⟩
end Go.Proofs.YtoeeodemimndlaaGreatDoor
