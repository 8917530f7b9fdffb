/- The contract of squad.Check. -/
import Derived.Test.YtfljohhocgaheaaDoorQ1
import Derived.Test.YtfljohhocgaheaaDoorT2
set_option linter.unusedSimpArgs false
set_option linter.unusedVariables false
namespace Go.Proofs.YtfljohhocgaheaaDoor
open Go.RowKit

theorem playersErr_step {l : List (List UInt8)} {k : Nat} (h : k < l.length) : playersErr (l.drop k) (l.take k) = if nameS l[k] = false then 5 else if l[k] ∈ l.take k then 7 else playersErr (l.drop (k + 1)) (l.take (k + 1)) := by
  rw [List.drop_eq_getElem_cons h, playersErr, List.take_succ_eq_append_getElem h]
/-- The first k elements. -/
theorem Sl.take {α : Type} {size : Nat} {R : World → (Nat → Prop) → List Value → α → Prop} {w : World} {F : Nat → Prop} {A : Option Addr} {n c k : Nat} {l : List α} (h : Sl size R w F (.slice A n c) l) (hk : k ≤ l.length) : Sl size R w F (.slice A k c) (l.take k) := by
  obtain ⟨A', c', hv, hl, hc, hA⟩ := h
  injection hv with h1 h2 h3
  subst h1; subst h3
  have hlen : (l.take k).length = k := by simp; omega
  refine ⟨A, c, by rw [hlen], by omega, hc, fun h0 => ?_⟩
  obtain ⟨b, o, e, hF, hel⟩ := hA (by omega)
  refine ⟨b, o, e, hF, fun i a hi => ?_⟩
  rw [List.getElem?_take] at hi
  split at hi
  · exact hel i a hi
  · cases hi

set_option maxRecDepth 100000 in
set_option maxHeartbeats 4000000 in
theorem sq_Check (q : Sqd) (pv : Value) (w : World) (h : Sl 1 elStr w (· < w.heap.size) pv q.players) (hn : q.name.length ≤ 1000000000) (hl : ∀ p ∈ q.players, p.length ≤ 1000000000) :
    Calls Tryd.prog 18 #[sqV q pv] w fun e w' => e = .returned (.int .i64 (checkS q)) ∧ Below w.heap.size w w' := by
  unfold sqV
  obtain ⟨t, ht⟩ : ∃ t, t = checkS q := ⟨_, rfl⟩
  rw [← ht]
  unfold checkS at ht
  obtain ⟨A, c, rfl, hc, hc'⟩ := h.shape
  have H := Lib.hid h
  clear h
  have hb0 := (Below.refl w.heap.size w).alloc (Nat.le_refl _) (Obj.cells #[.string (S q.name), .slice A q.players.length c, .int .i64 q.cap, .int .i64 q.kee] 24)
  have hk0 := Blk.new w 24 #[.string (S q.name), .slice A q.players.length c, .int .i64 q.cap, .int .i64 q.kee]
  have HB0 := Lib.hid hb0
  have HK0 := Lib.hid hk0
  clear hb0 hk0
  cases hname : nameS q.name
  · rw [if_pos hname] at ht
    have HT := Lib.hid ht
    clear ht hl
    go_enter Tryd.func18, Tryd.ntmps18
    go_wp2_with (go_at_call 44; refine (text_Name (S q.name) _ (by simp only [S_size, maxLen]; omega)).mono ?_; rintro e w1 ⟨rfl, hb1⟩)
    go_ret
    rw [HT.out]
    exact ⟨rfl, HB0.out.trans (hb1.mono (by simp))⟩
  · rw [if_neg (by rw [hname]; simp)] at ht
    by_cases hlen : q.players.length < 2 ∨ 11 < q.players.length
    · rw [if_pos hlen] at ht
      have HT := Lib.hid ht
      clear ht hl
      rcases hlen with hlen | hlen
      · have d1 : (q.players.length : Int) < 2 := by omega
        go_enter Tryd.func18, Tryd.ntmps18
        go_wp2_with (go_at_call 44; refine (text_Name (S q.name) _ (by simp only [S_size, maxLen]; omega)).mono ?_; rintro e w1 ⟨rfl, hb1⟩; have z1 := (HK0.out.below hb1 (by simp)).cell 1; simp only [List.getElem?_toArray, List.getElem?_cons_zero, List.getElem?_cons_succ] at z1)
        go_ret
        rw [HT.out]
        exact ⟨rfl, HB0.out.trans (hb1.mono (by simp))⟩
      · have d1 : ¬ (q.players.length : Int) < 2 := by omega
        have d2 : (11 : Int) < (q.players.length : Int) := by omega
        go_enter Tryd.func18, Tryd.ntmps18
        go_wp2_with (go_at_call 44; refine (text_Name (S q.name) _ (by simp only [S_size, maxLen]; omega)).mono ?_; rintro e w1 ⟨rfl, hb1⟩; have z1 := (HK0.out.below hb1 (by simp)).cell 1; simp only [List.getElem?_toArray, List.getElem?_cons_zero, List.getElem?_cons_succ] at z1)
        go_ret
        rw [HT.out]
        exact ⟨rfl, HB0.out.trans (hb1.mono (by simp))⟩
    · rw [if_neg hlen] at ht
      have d1 : ¬ (q.players.length : Int) < 2 := by omega
      have d2 : ¬ (11 : Int) < (q.players.length : Int) := by omega
      have HT := Lib.hid ht
      have HN := Lib.hid hlen
      have HLL := Lib.hid hl
      clear ht hlen hl
      go_enter Tryd.func18, Tryd.ntmps18
      go_wp2_with (go_at_call 44; refine (text_Name (S q.name) _ (by simp only [S_size, maxLen]; omega)).mono ?_; rintro e w1 ⟨rfl, hb1⟩; have z1 := (HK0.out.below hb1 (by simp)).cell 1; simp only [List.getElem?_toArray, List.getElem?_cons_zero, List.getElem?_cons_succ] at z1)
      have hs1 : w.heap.size < w1.heap.size := by have := hb1.size; simp at this; omega
      have hbw1 := Lib.hid (HB0.out.trans (hb1.mono (by simp)))
      have hkw1 := Lib.hid (HK0.out.below hb1 (by simp))
      clear hb1
      go_loopw [22] (fun i wr => ∃ k : Nat, k ≤ q.players.length ∧ i = .int .i64 k ∧ Below w.heap.size w wr ∧ w.heap.size < wr.heap.size ∧ Hid (Blk wr w.heap.size 24 #[.string (S q.name), .slice A q.players.length c, .int .i64 q.cap, .int .i64 q.kee]) ∧ Hid (playersErr (q.players.drop k) (q.players.take k) = playersErr q.players []))
        (fun i _ => q.players.length - (intOf i).toNat)
      case atStart => exact ⟨0, Nat.zero_le _, rfl, hbw1.out, hs1, hkw1.out, rfl⟩
      case round =>
        obtain ⟨k, hk, rfl, hbel, hsz, hblk, hpe⟩ := hrel
        by_cases hlt : k < q.players.length
        · obtain ⟨b, o, rfl, hbF, hcell⟩ := H.out.str_at hlt
          have hstep := Lib.hid (playersErr_step hlt)
          have hpl := HLL.out q.players[k] (List.getElem_mem hlt)
          obtain ⟨p, hp⟩ : ∃ p, p = q.players[k] := ⟨_, rfl⟩
          have HS : Hid (playersErr (q.players.drop k) (q.players.take k) = if nameS p = false then 5 else if p ∈ q.players.take k then 7 else playersErr (q.players.drop (k + 1)) (q.players.take (k + 1))) := by unfold Hid; rw [hp]; exact hstep.out
          rw [← hp] at hcell hpl
          clear hp hstep
          have y0 : wr.cell? ⟨b, o + k, none⟩ = some (.string (S p)) := (hbel.cell (p := ⟨b, o + k, none⟩) hbF).trans hcell
          clear hcell
          cases hnp : nameS p
          · have HNP := Lib.hid hnp
            go_wp2_with (go_at_call 44; refine (text_Name (S p) _ (by simp only [S_size, maxLen]; omega)).mono ?_; rintro e w2 ⟨rfl, hb2⟩)
            go_ret
            have h5 : playersErr q.players [] = 5 := by rw [← hpe.out, HS.out, if_pos HNP.out]
            rw [HT.out, if_pos (by rw [h5]; decide), h5]
            exact ⟨rfl, hbel.trans (hb2.mono (by omega))⟩
          · have HNP := Lib.hid hnp
            have htk := Lib.hid (Sl.take H.out hk)
            by_cases hin : p ∈ q.players.take k
            · have HIN := Lib.hid hin
              clear hin
              go_wp2_with (first | (go_at_call 44; refine (text_Name (S p) _ (by simp only [S_size, maxLen]; omega)).mono ?_; rintro e w2 ⟨rfl, hb2⟩; have z2 := (hblk.out.below hb2 (by omega)).cell 1; simp only [List.getElem?_toArray, List.getElem?_cons_zero, List.getElem?_cons_succ] at z2) | (go_at_call 45; refine (str_Contains _ (q.players.take k) (S p) _ _ (htk.out.keep elStr_good (Same.below (hbel.trans (hb2.mono (by omega))) fun _ h => h) fun _ h => h)).mono ?_; rintro e w3 ⟨rfl, rfl⟩; rw [S_data, decide_eq_true HIN.out]))
              go_ret
              have h7 : playersErr q.players [] = 7 := by rw [← hpe.out, HS.out, if_neg (by rw [HNP.out]; simp), if_pos HIN.out]
              rw [HT.out, if_pos (by rw [h7]; decide), h7]
              exact ⟨rfl, hbel.trans (hb2.mono (by omega))⟩
            · have HIN := Lib.hid hin
              clear hin
              go_wp2_with (first | (go_at_call 44; refine (text_Name (S p) _ (by simp only [S_size, maxLen]; omega)).mono ?_; rintro e w2 ⟨rfl, hb2⟩; have z2 := (hblk.out.below hb2 (by omega)).cell 1; simp only [List.getElem?_toArray, List.getElem?_cons_zero, List.getElem?_cons_succ] at z2) | (go_at_call 45; refine (str_Contains _ (q.players.take k) (S p) _ _ (htk.out.keep elStr_good (Same.below (hbel.trans (hb2.mono (by omega))) fun _ h => h) fun _ h => h)).mono ?_; rintro e w3 ⟨rfl, rfl⟩; rw [S_data, decide_eq_false HIN.out]))
              go_roundw
              case rel => exact ⟨k + 1, by omega, by go_num, hbel.trans (hb2.mono (by omega)), by have := hb2.size; omega, hblk.out.below hb2 (by omega), by unfold Hid; rw [← hpe.out, HS.out, if_neg (by rw [HNP.out]; simp), if_neg HIN.out]⟩
              case measure => simp [intOf]; omega
        · have h0 : playersErr q.players [] = 0 := by rw [← hpe.out, List.drop_of_length_le (by omega)]; rfl
          have HT' := HT.out
          rw [if_neg (by rw [h0]; simp)] at HT'
          have HTT := Lib.hid HT'
          clear h0 HT' hpe
          have c0 : wr.cell? ⟨w.heap.size, 0, none⟩ = some (.string (S q.name)) := hblk.out.cell 0
          have c1 : wr.cell? ⟨w.heap.size, 1, none⟩ = some (.slice A q.players.length c) := hblk.out.cell 1
          have c2 : wr.cell? ⟨w.heap.size, 2, none⟩ = some (.int .i64 q.cap) := hblk.out.cell 2
          have c3 : wr.cell? ⟨w.heap.size, 3, none⟩ = some (.int .i64 q.kee) := hblk.out.cell 3
          have htit : ∀ n W, Below w.heap.size w W → Calls Tryd.prog 23 #[.agg #[.string (S q.name), .slice A q.players.length c, .int .i64 q.cap, .int .i64 q.kee], .int .i64 n] W fun e w' => e = .returned (.string (S (titleS q n))) ∧ Below W.heap.size W w' := fun n W hW =>
            sq_Title q (.slice A q.players.length c) n W (H.out.keep elStr_good (Same.below hW fun _ h => h) fun b h => Nat.lt_of_lt_of_le h hW.size) HLL.out
          have HTI := Lib.hid htit
          clear htit
          obtain ⟨t1, ht1⟩ : ∃ t1, t1 = titleS q q.cap := ⟨_, rfl⟩
          obtain ⟨t2, ht2⟩ : ∃ t2, t2 = titleS q q.kee := ⟨_, rfl⟩
          have H1 := HTI.out q.cap
          have H2 := HTI.out q.kee
          rw [← ht1] at H1
          rw [← ht2] at H2
          rw [← ht1, ← ht2] at HTT
          have HH1 := Lib.hid H1
          have HH2 := Lib.hid H2
          clear H1 H2 HTI ht1 ht2
          have HKB := hblk
          by_cases h1 : t1 = []
          · have e1 : t1.isEmpty = true := by rw [h1]; rfl
            have G1 := Lib.hid h1
            clear h1
            go_wp2_with (go_at_call 23; refine (HH1.out _ hbel).mono ?_; rintro e w4 ⟨rfl, hb4⟩; have hk4 := hblk.out.below hb4 (by omega); have v0 := hk4.cell 0; have v1 := hk4.cell 1; have v2 := hk4.cell 2; have v3 := hk4.cell 3; simp only [List.getElem?_toArray, List.getElem?_cons_zero, List.getElem?_cons_succ] at v0 v1 v2 v3; clear hk4; have tok : True := trivial)
            go_ret
            rw [HTT.out, if_pos (.inl G1.out)]
            exact ⟨rfl, hbel.trans (hb4.mono (by omega))⟩
          · have e1 : t1.isEmpty = false := by simpa using h1
            have G1 := Lib.hid h1
            clear h1
            by_cases h2 : t2 = []
            · have e2 : t2.isEmpty = true := by rw [h2]; rfl
              have G2 := Lib.hid h2
              clear h2
              go_wp2_with (first | (have _t := tok; go_at_call 23; refine (HH2.out _ (hbel.trans (hb4.mono (by omega)))).mono ?_; rintro e w5 ⟨rfl, hb5⟩) | (go_at_call 23; refine (HH1.out _ hbel).mono ?_; rintro e w4 ⟨rfl, hb4⟩; have hk4 := hblk.out.below hb4 (by omega); have v0 := hk4.cell 0; have v1 := hk4.cell 1; have v2 := hk4.cell 2; have v3 := hk4.cell 3; simp only [List.getElem?_toArray, List.getElem?_cons_zero, List.getElem?_cons_succ] at v0 v1 v2 v3; clear hk4; have tok : True := trivial))
              go_ret
              rw [HTT.out, if_pos (.inr G2.out)]
              exact ⟨rfl, (hbel.trans (hb4.mono (by omega))).trans (hb5.mono (by have := hb4.size; omega))⟩
            · have e2 : t2.isEmpty = false := by simpa using h2
              have G2 := Lib.hid h2
              clear h2
              go_wp2_with (first | (have _t := tok; go_at_call 23; refine (HH2.out _ (hbel.trans (hb4.mono (by omega)))).mono ?_; rintro e w5 ⟨rfl, hb5⟩) | (go_at_call 23; refine (HH1.out _ hbel).mono ?_; rintro e w4 ⟨rfl, hb4⟩; have hk4 := hblk.out.below hb4 (by omega); have v0 := hk4.cell 0; have v1 := hk4.cell 1; have v2 := hk4.cell 2; have v3 := hk4.cell 3; simp only [List.getElem?_toArray, List.getElem?_cons_zero, List.getElem?_cons_succ] at v0 v1 v2 v3; clear hk4; have tok : True := trivial))
              go_ret
              rw [HTT.out, if_neg (fun h => h.elim G1.out G2.out)]
              exact ⟨rfl, (hbel.trans (hb4.mono (by omega))).trans (hb5.mono (by have := hb4.size; omega))⟩
end Go.Proofs.YtfljohhocgaheaaDoor
