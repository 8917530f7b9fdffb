/- The contracts of rules.line and of the reference's line. Conditions: the words lie as a slice of strings, not many. -/
import Derived.Test.YtnacklbaphobbaaGreatDoorQG
import Derived.Test.YtnacklbaphobbaaGreatDoorPP
set_option linter.unusedSimpArgs false
set_option linter.unusedVariables false
namespace Go.Proofs.YtnacklbaphobbaaGreatDoor
open Go.RowKit

theorem own_slice {α : Type} {size e base : Nat} {R : World → (Nat → Prop) → List Value → α → Prop} {G : Nat → Prop} {w : World} {v : Value} {l : List α} (h : OwnG size R e base w v G l) (hl : 0 < l.length) :
    ∃ g n cap, v = .slice (some ⟨g, 0, none⟩) n cap := by
  obtain ⟨xs, _, ⟨_, h0⟩ | ⟨g, cap, cur, rfl, _⟩⟩ := h.owns
  · omega
  · exact ⟨g, _, cap, rfl⟩
def LinePost (w : World) (ws : List (List UInt8)) (e : Ending) (w' : World) : Prop :=
  ∃ A n c, e = .returned (.agg #[.int .i64 0, .slice A n c]) ∧ Sl 3 elFld w' (fun b => w.heap.size ≤ b ∧ b < w'.heap.size) (.slice A n c) (ws.map wordF) ∧ Below w.heap.size w w'
/-- A line that grows: its block, the row of its fields, the block of the result. -/
structure LnAt (w0 wr : World) (v : Value) (l : List Fld) : Prop where
  k0 : Blk wr w0.heap.size 55 #[.int .i64 0, .slice none 0 0]
  k1 : Blk wr (w0.heap.size + 1) 55 #[.int .i64 0, v]
  own : OwnSl 3 elFld 83 (w0.heap.size + 2) wr v l
  bel : Below w0.heap.size w0 wr
theorem LnAt.new (w : World) : LnAt w ((w.alloc (.cells #[.int .i64 0, .slice none 0 0] 55)).alloc (.cells #[.int .i64 0, .slice none 0 0] 55)) (.slice none 0 0) [] := by
  have hk := Blk.new (w.alloc (.cells #[.int .i64 0, .slice none 0 0] 55)) 55 #[.int .i64 0, .slice none 0 0]
  have e : (w.alloc (.cells #[.int .i64 0, .slice none 0 0] 55)).heap.size = w.heap.size + 1 := by simp
  rw [e] at hk
  exact ⟨(Blk.new w _ _).alloc _, hk, OwnSl.nil _, Below.alloc (Below.alloc (Below.refl _ _) (Nat.le_refl _) _) (by simp) _⟩
theorem LnAt.step {w0 wr w5 : World} {v v5 : Value} {l : List Fld} {f : Fld} {o : Obj} (h : LnAt w0 wr v l) (ho : OwnSl 3 elFld 83 (w0.heap.size + 2) w5 v5 (l ++ [f])) (hg : (wr.alloc o).grownBy w5 v.ownBlock) :
    Blk w5 (w0.heap.size + 1) 55 #[.int .i64 0, v] ∧ LnAt w0 (w5.setCell ⟨w0.heap.size + 1, 1, none⟩ v5) v5 (l ++ [f]) := by
  have n0 := own_ne (h.own.alloc elFld_good o) (h.k0.alloc o) (by decide)
  have n1 := own_ne (h.own.alloc elFld_good o) (h.k1.alloc o) (by decide)
  have b0 := (h.k0.alloc o).grown hg n0
  have b1 := (h.k1.alloc o).grown hg n1
  have hz := h.k1.lt
  have hb5 : Below w0.heap.size w0 w5 := below_own (Below.alloc h.bel h.bel.size o) (h.own.alloc elFld_good o) hg (by omega) (by simp; omega)
  refine ⟨b1, b0.far (p := ⟨w0.heap.size + 1, 1, none⟩) (by simp) _, b1.set_ 1 v5, ho.grown elFld_good ((Only.refl (w0.heap.size + 1) w5).setCell (p := ⟨w0.heap.size + 1, 1, none⟩) (.inl rfl) _) fun b hb e => own_ne ho b1 (by decide) (by rw [hb, e]), hb5.setCell (by simp) _⟩
theorem rul_line_ret {R' : Ending → World → Prop} {a : Act} {w : World} {x0 x1 : Value} {g : Nat} (h2 : a.tmps[2]? = some (.pointer (some ⟨g, 0, none⟩))) (hb : Blk w g 55 #[x0, x1])
    (hd : a.defers = []) (hR : R' (.returned (.agg #[x0, x1])) w) : bodyPost Tryz.prog Tryz.f40 R' .ret a w := by
  have r0 := hb.cell 0
  have r1 := hb.cell 1
  simp only [List.getElem?_toArray, List.getElem?_cons_zero, List.getElem?_cons_succ] at r0 r1
  refine bodyPost_ret (v := .agg #[x0, x1]) (by simp [results, Tryz.results40, go_sem, h2, r0, r1]) hd hR
set_option maxRecDepth 100000 in
set_option maxHeartbeats 2000000 in
theorem rul_line (ws : List (List UInt8)) (v : Value) (F : Nat → Prop) (w : World) (h : Sl 1 elStr w F v ws) (hF : ∀ b, F b → b < w.heap.size) (hl : ws.length ≤ 1000) :
    Calls Tryz.prog 40 #[v] w (LinePost w ws) := by
  obtain ⟨A, c, rfl, hc, hc2⟩ := h.shape
  have H := Lib.hid h
  have HF := Lib.hid hF
  have HN := Lib.hid (LnAt.new w)
  clear h hF
  go_enter Tryz.func40, Tryz.ntmps40
  go_wp2
  go_loopw [8] (fun i wr => ∃ (k : Nat) (u : Value), k ≤ ws.length ∧ i = .int .i64 k ∧ LnAt w wr u ((ws.take k).map wordF) ∧ (∃ A n c, u = .slice A n c)) (fun i _ => ws.length - (intOf i).toNat)
  case atStart => exact ⟨0, _, Nat.zero_le _, rfl, HN.out, ⟨_, _, _, rfl⟩⟩
  case round =>
    obtain ⟨k, u, hk, rfl, hln, ⟨Au, nu, cu, rfl⟩⟩ := hrel
    have HLN := Lib.hid hln
    clear hln
    by_cases hlt : k < ws.length
    · obtain ⟨b, o, rfl, hbl, y0⟩ := H.out.str_at hlt
      have y := (HLN.out.bel.cell (p := ⟨b, o + k, none⟩) (HF.out _ hbl)).trans y0
      have htk : Hid ((ws.take (k + 1)).map wordF = (ws.take k).map wordF ++ [wordF ws[k]]) := by
        unfold Hid; rw [List.take_succ_eq_append_getElem hlt, List.map_append]; rfl
      obtain ⟨p, hp⟩ : ∃ p, p = ws[k] := ⟨_, rfl⟩
      rw [← hp] at y htk
      have z1 : wr.cell? ⟨w.heap.size + 1, 1, none⟩ = some (.slice Au nu cu) := HLN.out.k1.cell 1
      have hz := HLN.out.k1.lt
      have htl : ((ws.take k).map wordF).length ≤ 1000 := by simp; omega
      have HTL := Lib.hid htl
      clear y0 hp htl
      go_wp2_with (at_builtin; refine wpList_append_sl _ rfl (.tmp 13) (.tmp 16) _ rfl E_fld elFld_good (w.heap.size + 2) _ ((ws.take k).map wordF) rfl (HLN.out.own.alloc elFld_good _) ⟨wr.heap.size, 0, none⟩ 1 [.string (S p), .int .i64 0, .bool false] rfl (wordF p) rfl (cells_new _ _ _ _) (oneCells rfl) rfl (by have := HTL.out; simp only [maxLen]; omega) (by have := HTL.out; omega) (by simp; omega) ?_; intro v5 w5 hown5 hg5 hat5; obtain ⟨g5, n5, cap5, rfl⟩ := own_slice hown5 (by simp); obtain ⟨hb5, hl5⟩ := HLN.out.step hown5 hg5; have q1 := hb5.cell 1; have q2 := hb5.frozen 1; simp only [List.getElem?_toArray, List.getElem?_cons_zero, List.getElem?_cons_succ] at q1; have HL5 := Lib.hid hl5; clear hb5 hl5 hown5 hg5 hat5)
      go_roundw
      case rel => exact ⟨k + 1, _, by omega, by go_num, by rw [htk.out]; exact HL5.out, ⟨_, _, _, rfl⟩⟩
      case measure => simp [intOf]; omega
    · have hke : k = ws.length := by omega
      have htk : (ws.take k).map wordF = ws.map wordF := by rw [List.take_of_length_le (by omega)]
      rw [htk] at HLN
      have r0 := HLN.out.k1.cell 0
      have r1 := HLN.out.k1.cell 1
      have q0 := HLN.out.k0.cell 0
      have q1 := HLN.out.k0.cell 1
      have f0 := HLN.out.k0.frozen 0
      have f1 := HLN.out.k0.frozen 1
      have hz := HLN.out.k1.lt
      simp only [List.getElem?_toArray, List.getElem?_cons_zero, List.getElem?_cons_succ] at r0 r1 q0 q1
      clear htk hke
      go_wp2
      refine rul_line_ret rfl ((HLN.out.k0.set_ 0 _).set_ 1 _) rfl ⟨_, _, _, rfl, ?_, ?_⟩
      · refine (HLN.out.own.sl elFld_good).keep elFld_good (((Only.refl w.heap.size wr).setCell (p := ⟨w.heap.size, 0, none⟩) (.inl rfl) _).setCell (p := ⟨w.heap.size, 1, none⟩) (.inl rfl) _ |>.same fun b hb => ⟨hb.2, by omega⟩) fun b hb => ⟨by omega, by simpa [World.setCell] using hb.2⟩
      · exact (HLN.out.bel.setCell (Nat.le_refl _) _).setCell (Nat.le_refl _) _
theorem ref_line_ret {R' : Ending → World → Prop} {a : Act} {w : World} {x0 x1 : Value} {g : Nat} (h2 : a.tmps[2]? = some (.pointer (some ⟨g, 0, none⟩))) (hb : Blk w g 55 #[x0, x1])
    (hd : a.defers = []) (hR : R' (.returned (.agg #[x0, x1])) w) : bodyPost Tryz.prog Tryz.f44 R' .ret a w := by
  have r0 := hb.cell 0
  have r1 := hb.cell 1
  simp only [List.getElem?_toArray, List.getElem?_cons_zero, List.getElem?_cons_succ] at r0 r1
  refine bodyPost_ret (v := .agg #[x0, x1]) (by simp [results, Tryz.results44, go_sem, h2, r0, r1]) hd hR
set_option maxRecDepth 100000 in
set_option maxHeartbeats 2000000 in
theorem ref_line (ws : List (List UInt8)) (v : Value) (F : Nat → Prop) (w : World) (h : Sl 1 elStr w F v ws) (hF : ∀ b, F b → b < w.heap.size) (hl : ws.length ≤ 1000) :
    Calls Tryz.prog 44 #[v] w (LinePost w ws) := by
  obtain ⟨A, c, rfl, hc, hc2⟩ := h.shape
  have H := Lib.hid h
  have HF := Lib.hid hF
  have HN := Lib.hid (LnAt.new w)
  clear h hF
  go_enter Tryz.func44, Tryz.ntmps44
  go_wp2
  go_loopw [8] (fun i wr => ∃ (k : Nat) (u : Value), k ≤ ws.length ∧ i = .int .i64 k ∧ LnAt w wr u ((ws.take k).map wordF) ∧ (∃ A n c, u = .slice A n c)) (fun i _ => ws.length - (intOf i).toNat)
  case atStart => exact ⟨0, _, Nat.zero_le _, rfl, HN.out, ⟨_, _, _, rfl⟩⟩
  case round =>
    obtain ⟨k, u, hk, rfl, hln, ⟨Au, nu, cu, rfl⟩⟩ := hrel
    have HLN := Lib.hid hln
    clear hln
    by_cases hlt : k < ws.length
    · obtain ⟨b, o, rfl, hbl, y0⟩ := H.out.str_at hlt
      have y := (HLN.out.bel.cell (p := ⟨b, o + k, none⟩) (HF.out _ hbl)).trans y0
      have htk : Hid ((ws.take (k + 1)).map wordF = (ws.take k).map wordF ++ [wordF ws[k]]) := by
        unfold Hid; rw [List.take_succ_eq_append_getElem hlt, List.map_append]; rfl
      obtain ⟨p, hp⟩ : ∃ p, p = ws[k] := ⟨_, rfl⟩
      rw [← hp] at y htk
      have z1 : wr.cell? ⟨w.heap.size + 1, 1, none⟩ = some (.slice Au nu cu) := HLN.out.k1.cell 1
      have hz := HLN.out.k1.lt
      have htl : ((ws.take k).map wordF).length ≤ 1000 := by simp; omega
      have HTL := Lib.hid htl
      clear y0 hp htl
      go_wp2_with (at_builtin; refine wpList_append_sl _ rfl (.tmp 13) (.tmp 16) _ rfl E_fld elFld_good (w.heap.size + 2) _ ((ws.take k).map wordF) rfl (HLN.out.own.alloc elFld_good _) ⟨wr.heap.size, 0, none⟩ 1 [.string (S p), .int .i64 0, .bool false] rfl (wordF p) rfl (cells_new _ _ _ _) (oneCells rfl) rfl (by have := HTL.out; simp only [maxLen]; omega) (by have := HTL.out; omega) (by simp; omega) ?_; intro v5 w5 hown5 hg5 hat5; obtain ⟨g5, n5, cap5, rfl⟩ := own_slice hown5 (by simp); obtain ⟨hb5, hl5⟩ := HLN.out.step hown5 hg5; have q1 := hb5.cell 1; have q2 := hb5.frozen 1; simp only [List.getElem?_toArray, List.getElem?_cons_zero, List.getElem?_cons_succ] at q1; have HL5 := Lib.hid hl5; clear hb5 hl5 hown5 hg5 hat5)
      go_roundw
      case rel => exact ⟨k + 1, _, by omega, by go_num, by rw [htk.out]; exact HL5.out, ⟨_, _, _, rfl⟩⟩
      case measure => simp [intOf]; omega
    · have hke : k = ws.length := by omega
      have htk : (ws.take k).map wordF = ws.map wordF := by rw [List.take_of_length_le (by omega)]
      rw [htk] at HLN
      have r0 := HLN.out.k1.cell 0
      have r1 := HLN.out.k1.cell 1
      have q0 := HLN.out.k0.cell 0
      have q1 := HLN.out.k0.cell 1
      have f0 := HLN.out.k0.frozen 0
      have f1 := HLN.out.k0.frozen 1
      have hz := HLN.out.k1.lt
      simp only [List.getElem?_toArray, List.getElem?_cons_zero, List.getElem?_cons_succ] at r0 r1 q0 q1
      clear htk hke
      go_wp2
      refine ref_line_ret rfl ((HLN.out.k0.set_ 0 _).set_ 1 _) rfl ⟨_, _, _, rfl, ?_, ?_⟩
      · refine (HLN.out.own.sl elFld_good).keep elFld_good (((Only.refl w.heap.size wr).setCell (p := ⟨w.heap.size, 0, none⟩) (.inl rfl) _).setCell (p := ⟨w.heap.size, 1, none⟩) (.inl rfl) _ |>.same fun b hb => ⟨hb.2, by omega⟩) fun b hb => ⟨by omega, by simpa [World.setCell] using hb.2⟩
      · exact (HLN.out.bel.setCell (Nat.le_refl _) _).setCell (Nat.le_refl _) _
end Go.Proofs.YtnacklbaphobbaaGreatDoor
