/- The contract of the law's helper few. -/
import Derived.Test.YtfljohhocgaheaaDoorL1
set_option linter.unusedSimpArgs false
set_option linter.unusedVariables false
namespace Go.Proofs.YtfljohhocgaheaaDoor
open Go.RowKit

def fewS (q : Sqd) : Sqd := { q with name := q.name.take 20, players := (q.players.take 13).map (·.take 20) }
theorem S_extract (l : List UInt8) (k : Nat) : (S l).extract 0 k = S (l.take k) := by
  have : ((S l).extract 0 k).data.toList = l.take k := by rw [Lib.extract_data]; simp
  rw [← S_of ((S l).extract 0 k), this]
theorem few_str (l : List UInt8) : (S l).extract 0 (min (l.length : Int) 20).toNat = S (l.take 20) := by
  rw [S_extract]
  congr 1
  by_cases h : l.length ≤ 20
  · rw [show (min (l.length : Int) 20).toNat = l.length from by omega, List.take_length, List.take_of_length_le h]
  · rw [show (min (l.length : Int) 20).toNat = 20 from by omega]
theorem OwnG.drew {α : Type} {size e base : Nat} {R : World → (Nat → Prop) → List Value → α → Prop} {G : Nat → Prop} {w : World} {v : Value} {l : List α} (hR : Good R) (h : OwnG size R e base w v G l) : OwnG size R e base w.drew v G l :=
  h.keep hR (fun _ _ => rfl) (fun _ h => h) (fun _ _ => rfl)
theorem OwnSl.drew {α : Type} {size e base : Nat} {R : World → (Nat → Prop) → List Value → α → Prop} {w : World} {v : Value} {l : List α} (hR : Good R) (h : OwnSl size R e base w v l) : OwnSl size R e base w.drew v l := OwnG.drew hR h
theorem few_ret {R' : Ending → World → Prop} {a : Act} {w : World} {x0 x1 x2 x3 : Value} {g : Nat} (h2 : a.tmps[2]? = some (.pointer (some ⟨g, 0, none⟩))) (hb : Blk w g 24 #[x0, x1, x2, x3])
    (hd : a.defers = []) (hR : R' (.returned (.agg #[x0, x1, x2, x3])) w) : bodyPost Tryd.prog Tryd.f11 R' .ret a w := by
  obtain ⟨r0, r1, r2, r3, _⟩ := hb.four
  refine bodyPost_ret (v := .agg #[x0, x1, x2, x3]) (by simp [results, Tryd.results11, go_sem, h2, r0, r1, r2, r3]) hd hR
theorem few_end {w W2 wr : World} {a : Act} {q : Sqd} {d0 d1 d2 d3 : Value} {A : Option Addr} {n cp : Nat} {pl : List (List UInt8)} (hz2 : W2.heap.size = w.heap.size + 2) (hb2 : Below w.heap.size w W2) (hbel : Below W2.heap.size W2 wr)
    (hown : OwnSl 1 elStr 9 W2.heap.size wr (.slice A n cp) pl) (hpl : pl = (fewS q).players) (hk : Blk wr (w.heap.size + 1) 24 #[d0, d1, d2, d3])
    (h2 : a.tmps[2]? = some (.pointer (some ⟨w.heap.size + 1, 0, none⟩))) (hd : a.defers = []) :
    bodyPost Tryd.prog Tryd.f11 (SqPost w (fewS q)) .ret a (((((wr.setCell ⟨w.heap.size, 1, none⟩ (.slice A n cp)).setCell ⟨w.heap.size + 1, 0, none⟩ (.string (S (q.name.take 20)))).setCell ⟨w.heap.size + 1, 1, none⟩ (.slice A n cp)).setCell ⟨w.heap.size + 1, 2, none⟩ (.int .i64 q.cap)).setCell ⟨w.heap.size + 1, 3, none⟩ (.int .i64 q.kee)) := by
  have hk1 : Blk (wr.setCell ⟨w.heap.size, 1, none⟩ (.slice A n cp)) (w.heap.size + 1) 24 #[d0, d1, d2, d3] := hk.far (p := ⟨w.heap.size, 1, none⟩) (by show w.heap.size + 1 ≠ w.heap.size; omega) _
  have ho1 := (Only.refl w.heap.size wr).setCell (p := ⟨w.heap.size, 1, none⟩) (.inl rfl) (.slice A n cp)
  have hzr := hbel.size
  have hs1 := ho1.size
  obtain ⟨W1, hW1⟩ : ∃ x, x = wr.setCell ⟨w.heap.size, 1, none⟩ (.slice A n cp) := ⟨_, rfl⟩
  rw [← hW1] at hk1 ho1 hs1 ⊢
  have hk4 := blk_put4 hk1 (.string (S (q.name.take 20))) (.slice A n cp) (.int .i64 q.cap) (.int .i64 q.kee)
  have ho4 := put4_only W1 (w.heap.size + 1) (.string (S (q.name.take 20))) (.slice A n cp) (.int .i64 q.cap) (.int .i64 q.kee)
  have hs4 := ho4.size
  refine few_ret h2 hk4 hd ⟨_, rfl, ?_, ?_⟩
  · rw [← hpl]
    have h1 := (hown.sl elStr_good).keep elStr_good (ho1.same fun b hb => ⟨hb.2, by have := hb.1; omega⟩) (fun b h => h)
    exact h1.keep elStr_good (ho4.same fun b hb => ⟨by have := hb.2; omega, by have := hb.1; omega⟩) (fun b hb => ⟨by have := hb.1; omega, by have := hb.2; show b < (put4 W1 _ _ _ _ _).heap.size; omega⟩)
  · exact ((hb2.trans (hbel.mono (by omega))).trans (ho1.below (Nat.le_refl _) (by omega))).trans (ho4.below (by omega) (by omega))
theorem few_take {l : List (List UInt8)} {k : Nat} (h : k < l.length) : (l.take (k + 1)).map (·.take 20) = (l.take k).map (·.take 20) ++ [l[k].take 20] := by
  rw [List.take_succ_eq_append_getElem h, List.map_append]; rfl
set_option maxRecDepth 100000 in
set_option maxHeartbeats 4000000 in
theorem law_few (q : Sqd) (pv : Value) (w : World) (h : Lies w q pv) :
    Calls Tryd.prog 11 #[sqV q pv] w (SqPost w (fewS q)) := by
  unfold sqV
  obtain ⟨A, c, rfl, hc, hc'⟩ := Sl.shape h
  have H := Lib.hid h
  clear h
  go_enter Tryd.func11, Tryd.ntmps11
  go_wp2
  rw [few_str]
  obtain ⟨wa, hwa⟩ : ∃ x, x = w.alloc (.cells #[.string (S (q.name.take 20)), .slice A q.players.length c, .int .i64 q.cap, .int .i64 q.kee] 24) := ⟨_, rfl⟩
  have hba : Below w.heap.size w wa := by rw [hwa]; exact Below.alloc (Below.refl _ _) (Nat.le_refl _) _
  have hka : Blk wa w.heap.size 24 #[.string (S (q.name.take 20)), .slice A q.players.length c, .int .i64 q.cap, .int .i64 q.kee] := by rw [hwa]; exact Blk.new w _ _
  have hza : wa.heap.size = w.heap.size + 1 := by rw [hwa]; simp
  have hk2 := hka.alloc (.cells #[.string ⟨#[]⟩, .slice none 0 0, .int .i64 0, .int .i64 0] 24)
  have hr2 : Blk (wa.alloc (.cells #[.string ⟨#[]⟩, .slice none 0 0, .int .i64 0, .int .i64 0] 24)) (w.heap.size + 1) 24 #[.string ⟨#[]⟩, .slice none 0 0, .int .i64 0, .int .i64 0] := by rw [← hza]; exact Blk.new wa _ _
  have hb2 : Below w.heap.size w (wa.alloc (.cells #[.string ⟨#[]⟩, .slice none 0 0, .int .i64 0, .int .i64 0] 24)) := Below.alloc hba (by omega) _
  rw [← hwa]
  obtain ⟨W2, hW2⟩ : ∃ x, x = wa.alloc (.cells #[.string ⟨#[]⟩, .slice none 0 0, .int .i64 0, .int .i64 0] 24) := ⟨_, rfl⟩
  have hz2 : W2.heap.size = w.heap.size + 2 := by rw [hW2]; simp; omega
  rw [← hW2] at hk2 hr2 hb2 ⊢
  have HK2 := Lib.hid hk2
  have HR2 := Lib.hid hr2
  have HB2 := Lib.hid hb2
  have HZ2 := Lib.hid hz2
  clear hwa hba hka hza hk2 hr2 hb2 hz2 hW2
  go_loopw [3, 4] (fun v i wr => ∃ (k : Nat), k ≤ 13 ∧ k ≤ q.players.length ∧ i = .int .i64 k ∧ OwnSl 1 elStr 9 W2.heap.size wr v ((q.players.take k).map (·.take 20)) ∧ Below W2.heap.size W2 wr)
    (fun _ i _ => 13 - (intOf i).toNat)
  case atStart => exact ⟨0, by omega, Nat.zero_le _, rfl, OwnSl.nil _, Below.refl _ _⟩
  case round =>
    obtain ⟨k, hk13, hk, rfl, hown, hbel⟩ := hrel
    have hzr := hbel.size
    have hkr := HK2.out.below hbel HK2.out.lt
    obtain ⟨x0, x1, x2, x3, g0, g1, g2, g3⟩ := hkr.four
    have HKR := Lib.hid hkr
    have HO := Lib.hid hown
    clear hkr hown
    by_cases hlt : k < q.players.length
    · by_cases h13 : k < 13
      · obtain ⟨b, o, rfl, hF, hcu⟩ := H.out.str_at hlt
        have hF2 : b < W2.heap.size := by rw [HZ2.out]; exact Nat.lt_of_lt_of_le hF (by omega)
        have hcell : wr.cell? ⟨b, o + k, none⟩ = some (.string (S q.players[k])) := (hbel.cell (p := ⟨b, o + k, none⟩) hF2).trans ((HB2.out.cell (p := ⟨b, o + k, none⟩) hF).trans hcu)
        have hcell2 : W2.cell? ⟨b, o + k, none⟩ = some (.string (S q.players[k])) := (HB2.out.cell (p := ⟨b, o + k, none⟩) hF).trans hcu
        have HTK := Lib.hid (few_take hlt)
        obtain ⟨p, hp⟩ : ∃ p, p = q.players[k] := ⟨_, rfl⟩
        rw [← hp] at hcell hcell2 HTK
        clear hcu hp
        go_wp2
        have hm0 : (0 : Int) ≤ min (p.length : Int) 20 := by omega
        have hm1 : min (p.length : Int) 20 ≤ (p.length : Int) := by omega
        have hlen : ((q.players.take k).map (·.take 20)).length = k := by simp; omega
        go_region_held3 (fun w' => w'.cell? ⟨w.heap.size, 1, none⟩ = some (.slice (some ⟨b, o, none⟩) q.players.length c) ∧ w'.cell? ⟨b, o + k, none⟩ = some (.string (S p)))
          (first | go_keep | exact ⟨y1, yp⟩) (first | (refine step_append_el rfl (.tmp 24) (.tmp 38) _ rfl E_str elStr_good W2.heap.size u3 ((q.players.take k).map (·.take 20)) rfl (OwnSl.drew elStr_good (HO.out.alloc elStr_good _)) ⟨wr.heap.size, 0, none⟩ 1 [.string ((S p).extract 0 (min (p.length : Int) 20).toNat)] rfl (p.take 20) rfl (cells_new _ _ _ _) (oneCells rfl) (by rw [few_str]; rfl) (by simp [maxLen]; omega) (by simp; omega) (by simp; omega) ?_; intro g3 cap3 w3 hown3 hg3 hat3; rw [hlen] at hown3; have hbel3 : Below W2.heap.size W2 w3 := below_own (Below.drew (Below.alloc hbel (by omega) (.cells #[.string ((S p).extract 0 (min (p.length : Int) 20).toNat)] 9))) (OwnSl.drew elStr_good (HO.out.alloc elStr_good (.cells #[.string ((S p).extract 0 (min (p.length : Int) 20).toNat)] 9))) hg3 (Nat.le_refl _) (by simp; omega); have y1 : w3.cell? ⟨w.heap.size, 1, none⟩ = some (.slice (some ⟨b, o, none⟩) q.players.length c) := (HK2.out.below hbel3 HK2.out.lt).cell 1; have yp : w3.cell? ⟨b, o + k, none⟩ = some (.string (S p)) := (hbel3.cell (p := ⟨b, o + k, none⟩) hF2).trans hcell2; have HO3 := Lib.hid hown3; have HB3 := Lib.hid hbel3; clear hown3 hg3 hat3 hbel3))
        go_wp2
        go_roundw
        case rel => exact ⟨k + 1, by omega, by omega, by go_num, by rw [HTK.out]; exact HO3.out, HB3.out⟩
        case measure => simp [intOf]; omega
      · have h13' : ¬ (k : Int) < 13 := by omega
        obtain ⟨A', c', hv, hc3, hc4⟩ := (HO.out.sl elStr_good).shape
        obtain ⟨pl, hpl⟩ : ∃ pl, pl = (q.players.take k).map (·.take 20) := ⟨_, rfl⟩
        rw [← hpl] at hv HO
        subst hv
        have hfin : pl = (fewS q).players := by rw [hpl]; show _ = (q.players.take 13).map _; rw [show k = 13 from by omega]
        have hrr := HR2.out.below hbel HR2.out.lt
        obtain ⟨r0, r1, r2, r3, f0, f1, f2, f3⟩ := hrr.four
        have HRR := Lib.hid hrr
        have HF := Lib.hid hfin
        clear hrr hfin hpl
        go_wp2
        exact few_end HZ2.out HB2.out hbel HO.out HF.out HRR.out rfl rfl
    · have hlt' : ¬ (k : Int) < q.players.length := by omega
      obtain ⟨A', c', hv, hc3, hc4⟩ := (HO.out.sl elStr_good).shape
      obtain ⟨pl, hpl⟩ : ∃ pl, pl = (q.players.take k).map (·.take 20) := ⟨_, rfl⟩
      rw [← hpl] at hv HO
      subst hv
      have hfin : pl = (fewS q).players := by rw [hpl]; show _ = (q.players.take 13).map _; rw [List.take_of_length_le (by omega), List.take_of_length_le (by omega)]
      have hrr := HR2.out.below hbel HR2.out.lt
      obtain ⟨r0, r1, r2, r3, f0, f1, f2, f3⟩ := hrr.four
      have HRR := Lib.hid hrr
      have HF := Lib.hid hfin
      clear hrr hfin hpl
      go_wp2
      exact few_end HZ2.out HB2.out hbel HO.out HF.out HRR.out rfl rfl
end Go.Proofs.YtfljohhocgaheaaDoor
