/- The reference's Check of a side. -/
import Derived.Test.YtfljohhocgaheaaDoorF1
set_option linter.unusedSimpArgs false
set_option linter.unusedVariables false
namespace Go.Proofs.YtfljohhocgaheaaDoor
open Go.RowKit

theorem indexF_bound (s : List UInt8) : ∀ (l : List (List UInt8)) (i k : Nat), l[k]? = some s → indexF s l i ≤ (i + k : Nat) ∧ (indexF s l i = (i + k : Nat) ↔ s ∉ l.take k) := by
  intro l
  induction l with
  | nil => intro i k h; simp at h
  | cons a l ih =>
    intro i k h
    rw [indexF]
    cases k with
    | zero =>
      simp at h
      subst h
      simp
    | succ k =>
      simp at h
      have hk := ih (i + 1) k h
      split
      · rename_i e
        subst e
        exact ⟨by omega, by simp; omega⟩
      · rename_i e
        refine ⟨by omega, ?_⟩
        rw [show (i + (k + 1) : Nat) = i + 1 + k from by omega, hk.2]
        simp [List.take_succ_cons]
        intro _ h; exact e h.symm
theorem indexS_at {l : List (List UInt8)} {k : Nat} (h : k < l.length) : indexS l l[k] = (k : Int) ↔ l[k] ∉ l.take k := by
  have := (indexF_bound l[k] l 0 k (List.getElem?_eq_getElem h)).2
  rw [Nat.zero_add] at this
  exact this
theorem titleS_nil {q : Sqd} (h : ∀ p ∈ q.players, nameS p = true) (n : Int) : titleS q n = [] ↔ (n < 1 ∨ (q.players.length : Int) < n) := by
  constructor
  · intro he
    refine Classical.byContradiction fun hn => ?_
    unfold titleS at he
    rw [if_neg hn] at he
    have hk : (n - 1).toNat < q.players.length := by omega
    have : q.players.getD (n - 1).toNat [] = q.players[(n - 1).toNat] := by
      rw [List.getD_eq_getElem?_getD, List.getElem?_eq_getElem hk]; rfl
    rw [this] at he
    exact (nameS_ne (h _ (List.getElem_mem hk))).1 (List.append_eq_nil_iff.1 (List.append_eq_nil_iff.1 he).1).1
  · intro hn
    unfold titleS
    rw [if_pos hn]

set_option maxRecDepth 100000 in
set_option maxHeartbeats 4000000 in
theorem rsq_Check (q : Sqd) (pv : Value) (w : World) (h : Sl 1 elStr w (· < w.heap.size) pv q.players) (hn : q.name.length ≤ 1000000000) (hl : ∀ p ∈ q.players, p.length ≤ 1000000000) :
    Calls Tryd.prog 20 #[sqV q pv] w fun e w' => e = .returned (.int .i64 (checkS q)) ∧ Below w.heap.size w w' := by
  unfold sqV
  obtain ⟨t, ht⟩ : ∃ t, t = checkS q := ⟨_, rfl⟩
  rw [← ht]
  unfold checkS at ht
  obtain ⟨A, c, rfl, hc, hc'⟩ := h.shape
  have H := Lib.hid h
  clear h
  obtain ⟨w0, hw0⟩ : ∃ x, x = w.alloc (.cells #[.string (S q.name), .slice A q.players.length c, .int .i64 q.cap, .int .i64 q.kee] 24) := ⟨_, rfl⟩
  have hb0 : Below w.heap.size w w0 := by rw [hw0]; exact (Below.refl w.heap.size w).alloc (Nat.le_refl _) _
  have hk0 : Blk w0 w.heap.size 24 #[.string (S q.name), .slice A q.players.length c, .int .i64 q.cap, .int .i64 q.kee] := by rw [hw0]; exact Blk.new w _ _
  have hnm : Calls Tryd.prog 47 #[.string (S q.name)] w0 fun e w' => e = .returned (.bool (nameS q.name)) ∧ w' = w0 := ref_Name (S q.name) w0 (by simp only [S_size, maxLen]; omega)
  rw [hw0] at hnm
  have HNM := Lib.hid hnm
  have HB0 := Lib.hid hb0
  have HK0 := Lib.hid hk0
  clear hnm hb0 hk0
  cases hname : nameS q.name
  · rw [if_pos hname] at ht
    have HT := Lib.hid ht
    clear ht hl
    go_enter Tryd.func20, Tryd.ntmps20
    go_wp2_with (go_at_call 47; refine HNM.out.mono ?_; rintro e w1 ⟨rfl, rfl⟩)
    go_ret
    rw [HT.out, ← hw0]
    exact ⟨rfl, HB0.out⟩
  · rw [if_neg (by rw [hname]; simp)] at ht
    by_cases hlen : q.players.length < 2 ∨ 11 < q.players.length
    · rw [if_pos hlen] at ht
      have HT := Lib.hid ht
      clear ht hl
      rcases hlen with hlen | hlen
      · have d1 : (q.players.length : Int) < 2 := by omega
        go_enter Tryd.func20, Tryd.ntmps20
        go_wp2_with (go_at_call 47; refine HNM.out.mono ?_; rintro e w1 ⟨rfl, rfl⟩)
        go_ret
        rw [HT.out, ← hw0]
        exact ⟨rfl, HB0.out⟩
      · have d1 : ¬ (q.players.length : Int) < 2 := by omega
        have d2 : (11 : Int) < (q.players.length : Int) := by omega
        go_enter Tryd.func20, Tryd.ntmps20
        go_wp2_with (go_at_call 47; refine HNM.out.mono ?_; rintro e w1 ⟨rfl, rfl⟩)
        go_ret
        rw [HT.out, ← hw0]
        exact ⟨rfl, HB0.out⟩
    · rw [if_neg hlen] at ht
      have d1 : ¬ (q.players.length : Int) < 2 := by omega
      have d2 : ¬ (11 : Int) < (q.players.length : Int) := by omega
      have HT := Lib.hid ht
      have HLL := Lib.hid hl
      clear ht hlen hl
      go_enter Tryd.func20, Tryd.ntmps20
      go_wp2_with (go_at_call 47; refine HNM.out.mono ?_; rintro e w1 ⟨rfl, rfl⟩)
      rw [← hw0]
      clear hw0 HNM
      go_loopw [22] (fun i wr => ∃ k : Nat, k ≤ q.players.length ∧ i = .int .i64 k ∧ Below w.heap.size w wr ∧ w.heap.size < wr.heap.size ∧ Hid (Blk wr w.heap.size 24 #[.string (S q.name), .slice A q.players.length c, .int .i64 q.cap, .int .i64 q.kee]) ∧ Hid (playersErr (q.players.drop k) (q.players.take k) = playersErr q.players []) ∧ Hid (∀ p ∈ q.players.take k, nameS p = true))
        (fun i _ => q.players.length - (intOf i).toNat)
      case atStart => exact ⟨0, Nat.zero_le _, rfl, HB0.out, HK0.out.lt, HK0.out, rfl, by unfold Hid; simp⟩
      case round =>
        obtain ⟨k, hk, rfl, hbel, hsz, hblk, hpe, hall⟩ := hrel
        obtain ⟨y0, y1, y2, y3, _⟩ := hblk.out.four
        by_cases hlt : k < q.players.length
        · obtain ⟨b, o, rfl, hbF, hcell⟩ := H.out.str_at hlt
          have hstep := playersErr_step hlt
          have hix := indexS_at hlt
          have hpl := HLL.out q.players[k] (List.getElem_mem hlt)
          have htk : q.players.take (k + 1) = q.players.take k ++ [q.players[k]] := List.take_succ_eq_append_getElem hlt
          obtain ⟨p, hp⟩ : ∃ p, p = q.players[k] := ⟨_, rfl⟩
          rw [← hp] at hcell hpl hstep hix htk
          have c0 : wr.cell? ⟨b, o + k, none⟩ = some (.string (S p)) := (hbel.cell (p := ⟨b, o + k, none⟩) hbF).trans hcell
          obtain ⟨j, hj⟩ : ∃ j, j = indexS q.players p := ⟨_, rfl⟩
          have hjb := indexS_le q.players p
          rw [← hj] at hix hjb
          have hnp : Calls Tryd.prog 47 #[.string (S p)] wr fun e w' => e = .returned (.bool (nameS p)) ∧ w' = wr := ref_Name (S p) wr (by simp only [S_size, maxLen]; omega)
          have hfi : Calls Tryd.prog 22 #[.agg #[.string (S q.name), .slice (some ⟨b, o, none⟩) q.players.length c, .int .i64 q.cap, .int .i64 q.kee], .string (S p)] wr fun e w' => e = .returned (.int .i64 (j + 1)) ∧ Below w.heap.size w w' ∧ w.heap.size < w'.heap.size ∧ Blk w' w.heap.size 24 #[.string (S q.name), .slice (some ⟨b, o, none⟩) q.players.length c, .int .i64 q.cap, .int .i64 q.kee] := by
            refine (rsq_Find q _ (S p) wr (H.out.keep elStr_good (Same.below hbel fun _ h => h) fun b h => by omega)).mono ?_
            rintro e w' ⟨rfl, hb⟩
            exact ⟨by rw [hj]; rfl, hbel.trans (hb.mono (by omega)), by have := hb.size; omega, hblk.out.below hb hsz⟩
          have HNP := Lib.hid hnp
          have HFI := Lib.hid hfi
          have HS := Lib.hid hstep
          have HTK := Lib.hid htk
          have HIX := Lib.hid hix
          clear hnp hfi hstep hcell hp hj htk hix
          cases hnn : nameS p
          · have HN5 := Lib.hid hnn
            go_wp2_with (go_at_call 47; refine HNP.out.mono ?_; rintro e w2 ⟨rfl, rfl⟩)
            go_ret
            have h5 : playersErr q.players [] = 5 := by rw [← hpe.out, HS.out, if_pos HN5.out]
            rw [HT.out, if_pos (by rw [h5]; decide), h5]
            exact ⟨rfl, hbel⟩
          · have HN5 := Lib.hid hnn
            by_cases hin : p ∈ q.players.take k
            · have hne : ¬ j = (k : Int) := fun e => (HIX.out.1 e) hin
              have e2 : (j + 1 != (k : Int) + 1) = true := by rw [bne_iff_ne]; omega
              have HIN := Lib.hid hin
              clear hin hne
              go_wp2_with (first | (go_at_call 47; refine HNP.out.mono ?_; rintro e w2 ⟨rfl, rfl⟩) | (go_at_call 22; refine HFI.out.mono ?_; rintro e w3 ⟨rfl, hb3, hs3, hk3⟩))
              go_ret
              have h7 : playersErr q.players [] = 7 := by rw [← hpe.out, HS.out, if_neg (by rw [HN5.out]; simp), if_pos HIN.out]
              rw [HT.out, if_pos (by rw [h7]; decide), h7]
              exact ⟨rfl, hb3⟩
            · have hne : j = (k : Int) := HIX.out.2 hin
              have e2 : (j + 1 != (k : Int) + 1) = false := by rw [bne_eq_false_iff_eq]; omega
              have HIN := Lib.hid hin
              clear hin hne
              go_wp2_with (first | (go_at_call 47; refine HNP.out.mono ?_; rintro e w2 ⟨rfl, rfl⟩) | (go_at_call 22; refine HFI.out.mono ?_; rintro e w3 ⟨rfl, hb3, hs3, hk3⟩; have HK3 := Lib.hid hk3; clear hk3))
              go_roundw
              case rel => exact ⟨k + 1, by omega, by go_num, hb3, hs3, HK3.out, by unfold Hid; rw [← hpe.out, HS.out, if_neg (by rw [HN5.out]; simp), if_neg HIN.out], by
                unfold Hid
                rw [HTK.out]
                intro p' hp'
                rcases List.mem_append.1 hp' with h | h
                · exact hall.out p' h
                · simp only [List.mem_singleton] at h; subst h; exact HN5.out⟩
              case measure => simp [intOf]; omega
        · have h0 : playersErr q.players [] = 0 := by rw [← hpe.out, List.drop_of_length_le (by omega)]; rfl
          have HT' := HT.out
          rw [if_neg (by rw [h0]; simp)] at HT'
          have hall' := hall.out
          rw [List.take_of_length_le (by omega)] at hall'
          simp only [titleS_nil hall'] at HT'
          clear hall hall' hpe h0
          have hf : ∀ (x : Int), (∃ e, e = t ∧ e = x) → Ending.returned (.int .i64 x) = Ending.returned (.int .i64 t) := by
            rintro x ⟨e, rfl, rfl⟩; rfl
          have HF := Lib.hid hf
          clear hf
          by_cases h1 : q.cap < 1
          · have r1 := Lib.hid (show t = 6 by rw [HT', if_pos (.inl (.inl h1))])
            clear HT'
            go_wp2
            go_ret
            exact ⟨by rw [r1.out]; rfl, hbel⟩
          · by_cases h2 : (q.players.length : Int) < q.cap
            · have r1 := Lib.hid (show t = 6 by rw [HT', if_pos (.inl (.inr h2))])
              clear HT'
              go_wp2
              go_ret
              exact ⟨by rw [r1.out]; rfl, hbel⟩
            · by_cases h3 : q.kee < 1
              · have r1 := Lib.hid (show t = 6 by rw [HT', if_pos (.inr (.inl h3))])
                clear HT'
                go_wp2
                go_ret
                exact ⟨by rw [r1.out]; rfl, hbel⟩
              · by_cases h4 : (q.players.length : Int) < q.kee
                · have r1 := Lib.hid (show t = 6 by rw [HT', if_pos (.inr (.inr h4))])
                  clear HT'
                  go_wp2
                  go_ret
                  exact ⟨by rw [r1.out]; rfl, hbel⟩
                · have r1 := Lib.hid (show t = 0 by rw [HT', if_neg (by omega)])
                  clear HT'
                  go_wp2
                  go_ret
                  exact ⟨by rw [r1.out]; rfl, hbel⟩
end Go.Proofs.YtfljohhocgaheaaDoor
