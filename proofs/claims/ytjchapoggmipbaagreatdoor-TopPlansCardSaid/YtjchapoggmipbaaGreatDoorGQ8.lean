/- Several texts of this family in one: I30 I31 I32. -/
import Derived.Test.YtjchapoggmipbaaGreatDoorGQ7
import Derived.Test.YtjchapoggmipbaaGreatDoorGQ3
import Derived.Test.YtjchapoggmipbaaGreatDoorGQ4
import Derived.Test.YtjchapoggmipbaaGreatDoorGQ6
import Derived.Deep.DeepCutAuto
set_option linter.unusedSimpArgs false
set_option linter.unusedVariables false
namespace Go.Proofs.YtjchapoggmipbaaGreatDoor
open Go.RowKit

/-- The plans' box. -/
structure PLB (w W : World) (c : Chs) (t : Att) (d : Dct) (bv wv pv ov cv ev fv : Value) : Prop where
  bel : Below w.heap.size w W
  bx : Blk W w.heap.size 36 #[bv, wv, pv, .int .i64 c.over, .int .i64 c.done, .int .i64 c.need, ov, cv, .int .i64 t.quota, .int .i64 t.last, .int .i64 d.ovs, .int .i64 d.lead, .int .i64 d.step, ev, fv]
section
variable {w W W' : World} {c : Chs} {t : Att} {d : Dct} {bv wv pv ov cv ev fv : Value}
theorem PLB.new (w : World) (c : Chs) (t : Att) (d : Dct) (bv wv pv ov cv ev fv : Value) : PLB w (w.alloc (.cells #[bv, wv, pv, .int .i64 c.over, .int .i64 c.done, .int .i64 c.need, ov, cv, .int .i64 t.quota, .int .i64 t.last, .int .i64 d.ovs, .int .i64 d.lead, .int .i64 d.step, ev, fv] 36)) c t d bv wv pv ov cv ev fv :=
  ⟨low_allocA w _, Blk.new w _ _⟩
theorem PLB.step (h : PLB w W c t d bv wv pv ov cv ev fv) (hb : Below W.heap.size W W') : PLB w W' c t d bv wv pv ov cv ev fv := ⟨h.bel.trans (hb.mono h.bel.size), h.bx.below hb h.bx.lt⟩
theorem PLB.alloc (h : PLB w W c t d bv wv pv ov cv ev fv) (o : Obj) : PLB w (W.alloc o) c t d bv wv pv ov cv ev fv := h.step (low_allocA W o)
theorem PLB.cells (h : PLB w W c t d bv wv pv ov cv ev fv) : W.cell? ⟨w.heap.size, 0, none⟩ = some bv ∧ W.cell? ⟨w.heap.size, 1, none⟩ = some wv ∧ W.cell? ⟨w.heap.size, 2, none⟩ = some pv ∧ W.cell? ⟨w.heap.size, 3, none⟩ = some (.int .i64 c.over) ∧ W.cell? ⟨w.heap.size, 4, none⟩ = some (.int .i64 c.done) ∧ W.cell? ⟨w.heap.size, 5, none⟩ = some (.int .i64 c.need) ∧ W.cell? ⟨w.heap.size, 6, none⟩ = some ov ∧
    W.cell? ⟨w.heap.size, 7, none⟩ = some cv ∧ W.cell? ⟨w.heap.size, 8, none⟩ = some (.int .i64 t.quota) ∧ W.cell? ⟨w.heap.size, 9, none⟩ = some (.int .i64 t.last) ∧
    W.cell? ⟨w.heap.size, 10, none⟩ = some (.int .i64 d.ovs) ∧ W.cell? ⟨w.heap.size, 11, none⟩ = some (.int .i64 d.lead) ∧ W.cell? ⟨w.heap.size, 12, none⟩ = some (.int .i64 d.step) ∧ W.cell? ⟨w.heap.size, 13, none⟩ = some ev ∧ W.cell? ⟨w.heap.size, 14, none⟩ = some fv :=
  ⟨h.bx.cell 0, h.bx.cell 1, h.bx.cell 2, h.bx.cell 3, h.bx.cell 4, h.bx.cell 5, h.bx.cell 6, h.bx.cell 7, h.bx.cell 8, h.bx.cell 9, h.bx.cell 10, h.bx.cell 11, h.bx.cell 12, h.bx.cell 13, h.bx.cell 14⟩
end
theorem rw_low {w W : World} {v : Value} {l : List (List Int)} (h : Sl 1 elRw w (· < w.heap.size) v l) (hb : Below w.heap.size w W) : Sl 1 elRw W (· < W.heap.size) v l := h.keep elRw_good (Same.of_below hb) fun _ hx => Nat.lt_of_lt_of_le hx hb.size
theorem int_low {w W : World} {v : Value} {l : List Int} (h : Sl 1 elInt w (· < w.heap.size) v l) (hb : Below w.heap.size w W) : Sl 1 elInt W (· < W.heap.size) v l := h.keep elInt_good (Same.of_below hb) fun _ hx => Nat.lt_of_lt_of_le hx hb.size
/-- The law's own test. -/
def inP (c : Chs) (t : Att) (d : Dct) (l leads : List Int) : Prop := smallT c = true ∧ c.bows.length ≤ 3 ∧ small46 t = true ∧ small47 d = true ∧ d.ovs ≤ 3 ∧ l.length ≤ 100 ∧ leads.length ≤ 100
set_option maxRecDepth 100000 in
set_option maxHeartbeats 4000000 in
theorem law_Plans_out (c : Chs) (t : Att) (d : Dct) (l leads : List Int) (bv wv pv ov cv ev fv lv dv : Value) (w : World) (hg : GlobN w) (h : ChAt w (· < w.heap.size) bv wv pv ov c) (ha : Sl 1 elRw w (· < w.heap.size) cv t.costs) (hd : DtAt w (· < w.heap.size) ev fv d) (hl : Sl 1 elInt w (· < w.heap.size) lv l) (hs : Sl 1 elInt w (· < w.heap.size) dv leads) (hout : ¬ inP c t d l leads) :
    Calls Tryz.prog 3 #[.agg #[bv, wv, pv, .int .i64 c.over, .int .i64 c.done, .int .i64 c.need, ov, cv, .int .i64 t.quota, .int .i64 t.last, .int .i64 d.ovs, .int .i64 d.lead, .int .i64 d.step, ev, fv], lv, dv] w fun e w' => e = .returned (.bool true) ∧ Below w.heap.size w w' := by
  obtain ⟨A, ca, rfl, hc1, hc2⟩ := h.mdl.bat.shape
  obtain ⟨A1, ca1, rfl, hc3, hc4⟩ := h.mdl.bow.shape
  obtain ⟨A2, ca2, rfl, hc5, hc6⟩ := h.bow.shape
  obtain ⟨A3, ca3, rfl, hc7, hc8⟩ := h.ord.shape
  obtain ⟨A4, ca4, rfl, hc9, hc10⟩ := ha.shape
  obtain ⟨A5, ca5, rfl, hc11, hc12⟩ := hd.over.shape
  obtain ⟨A6, ca6, rfl, hc13, hc14⟩ := hd.win.shape
  obtain ⟨A7, ca7, rfl, hc15, hc16⟩ := hl.shape
  obtain ⟨A8, ca8, rfl, hc17, hc18⟩ := hs.shape
  have HP := Lib.hid (PLB.new w c t d (.slice A c.mdl.bats.length ca) (.slice A1 c.mdl.bows.length ca1) (.slice A2 c.bows.length ca2) (.slice A3 c.ord.length ca3) (.slice A4 t.costs.length ca4) (.slice A5 d.over.length ca5) (.slice A6 d.win.length ca6))
  have ka := fun W (hW : PLB w W c t d (.slice A c.mdl.bats.length ca) (.slice A1 c.mdl.bows.length ca1) (.slice A2 c.bows.length ca2) (.slice A3 c.ord.length ca3) (.slice A4 t.costs.length ca4) (.slice A5 d.over.length ca5) (.slice A6 d.win.length ca6)) => top_planAwake W (hg.below hW.bel)
  have k45 := fun W (hW : PLB w W c t d (.slice A c.mdl.bats.length ca) (.slice A1 c.mdl.bows.length ca1) (.slice A2 c.bows.length ca2) (.slice A3 c.ord.length ca3) (.slice A4 t.costs.length ca4) (.slice A5 d.over.length ca5) (.slice A6 d.win.length ca6)) => law45_Small c _ _ _ _ W (h.below hW.bel)
  have k46 := fun W (hW : PLB w W c t d (.slice A c.mdl.bats.length ca) (.slice A1 c.mdl.bows.length ca1) (.slice A2 c.bows.length ca2) (.slice A3 c.ord.length ca3) (.slice A4 t.costs.length ca4) (.slice A5 d.over.length ca5) (.slice A6 d.win.length ca6)) => law46_Small t _ W (rw_low ha hW.bel)
  have k47 := fun W (hW : PLB w W c t d (.slice A c.mdl.bats.length ca) (.slice A1 c.mdl.bows.length ca1) (.slice A2 c.bows.length ca2) (.slice A3 c.ord.length ca3) (.slice A4 t.costs.length ca4) (.slice A5 d.over.length ca5) (.slice A6 d.win.length ca6)) => law47_Small d _ _ W (hd.low hW.bel)
  unfold chV at k45
  unfold atV at k46
  unfold dtV at k47
  have KA := Lib.hid ka
  have tok0 : True := trivial
  obtain ⟨s1, hs1⟩ : ∃ s, s = smallT c := ⟨_, rfl⟩
  obtain ⟨s2, hs2⟩ : ∃ s, s = small46 t := ⟨_, rfl⟩
  obtain ⟨s3, hs3⟩ : ∃ s, s = small47 d := ⟨_, rfl⟩
  unfold inP at hout
  rw [← hs1, ← hs2, ← hs3] at hout
  rw [← hs1] at k45
  rw [← hs2] at k46
  rw [← hs3] at k47
  obtain ⟨nb, hnb⟩ : ∃ n, n = c.bows.length := ⟨_, rfl⟩
  obtain ⟨nl, hnl⟩ : ∃ n, n = l.length := ⟨_, rfl⟩
  obtain ⟨ns, hns⟩ : ∃ n, n = leads.length := ⟨_, rfl⟩
  have K45 := Lib.hid k45
  have K46 := Lib.hid k46
  have K47 := Lib.hid k47
  clear ka k45 k46 k47 hs1 hs2 hs3 h ha hd hl hs hg
  cases s1
  · clear hout
    go_enter Tryz.func3, Tryz.ntmps3
    go_wp2_with (first
      | (clear tok0; go_at_call 4; refine (KA.out _ HP.out).mono ?_; rintro e W1 ⟨rfl, hb⟩; have HP1 := Lib.hid (HP.out.step hb); clear hb; (try clear x0 x1 x2 x3 x4 x5 x6 x7 x8 x9 x10 x11 x12 x13 x14); obtain ⟨x0, x1, x2, x3, x4, x5, x6, x7, x8, x9, x10, x11, x12, x13, x14⟩ := HP1.out.cells; have tok1 : True := trivial)
      | (clear tok1; go_at_call 5; refine (K45.out _ HP1.out).mono ?_; rintro e W1 ⟨rfl, hb⟩; have HP2 := Lib.hid (HP1.out.step hb); clear hb; (try clear x0 x1 x2 x3 x4 x5 x6 x7 x8 x9 x10 x11 x12 x13 x14); obtain ⟨x0, x1, x2, x3, x4, x5, x6, x7, x8, x9, x10, x11, x12, x13, x14⟩ := HP2.out.cells; have tok2 : True := trivial))
    go_ret
    exact ⟨rfl, HP2.out.bel⟩
  by_cases g2 : 3 < (c.bows.length : Int)
  · clear hout
    go_enter Tryz.func3, Tryz.ntmps3
    go_wp2_with (first
      | (clear tok0; go_at_call 4; refine (KA.out _ HP.out).mono ?_; rintro e W1 ⟨rfl, hb⟩; have HP1 := Lib.hid (HP.out.step hb); clear hb; (try clear x0 x1 x2 x3 x4 x5 x6 x7 x8 x9 x10 x11 x12 x13 x14); obtain ⟨x0, x1, x2, x3, x4, x5, x6, x7, x8, x9, x10, x11, x12, x13, x14⟩ := HP1.out.cells; have tok1 : True := trivial)
      | (clear tok1; go_at_call 5; refine (K45.out _ HP1.out).mono ?_; rintro e W1 ⟨rfl, hb⟩; have HP2 := Lib.hid (HP1.out.step hb); clear hb; (try clear x0 x1 x2 x3 x4 x5 x6 x7 x8 x9 x10 x11 x12 x13 x14); obtain ⟨x0, x1, x2, x3, x4, x5, x6, x7, x8, x9, x10, x11, x12, x13, x14⟩ := HP2.out.cells; have tok2 : True := trivial))
    go_ret
    exact ⟨rfl, HP2.out.bel⟩
  cases s2
  · clear hout
    go_enter Tryz.func3, Tryz.ntmps3
    go_wp2_with (first
      | (clear tok0; go_at_call 4; refine (KA.out _ HP.out).mono ?_; rintro e W1 ⟨rfl, hb⟩; have HP1 := Lib.hid (HP.out.step hb); clear hb; (try clear x0 x1 x2 x3 x4 x5 x6 x7 x8 x9 x10 x11 x12 x13 x14); obtain ⟨x0, x1, x2, x3, x4, x5, x6, x7, x8, x9, x10, x11, x12, x13, x14⟩ := HP1.out.cells; have tok1 : True := trivial)
      | (clear tok1; go_at_call 5; refine (K45.out _ HP1.out).mono ?_; rintro e W1 ⟨rfl, hb⟩; have HP2 := Lib.hid (HP1.out.step hb); clear hb; (try clear x0 x1 x2 x3 x4 x5 x6 x7 x8 x9 x10 x11 x12 x13 x14); obtain ⟨x0, x1, x2, x3, x4, x5, x6, x7, x8, x9, x10, x11, x12, x13, x14⟩ := HP2.out.cells; have tok2 : True := trivial)
      | (clear tok2; go_at_call 6; refine (K46.out _ HP2.out).mono ?_; rintro e W1 ⟨rfl, hb⟩; have HP3 := Lib.hid (HP2.out.step hb); clear hb; (try clear x0 x1 x2 x3 x4 x5 x6 x7 x8 x9 x10 x11 x12 x13 x14); obtain ⟨x0, x1, x2, x3, x4, x5, x6, x7, x8, x9, x10, x11, x12, x13, x14⟩ := HP3.out.cells; have tok3 : True := trivial))
    go_ret
    exact ⟨rfl, HP3.out.bel⟩
  cases s3
  · clear hout
    go_enter Tryz.func3, Tryz.ntmps3
    go_wp2_with (first
      | (clear tok0; go_at_call 4; refine (KA.out _ HP.out).mono ?_; rintro e W1 ⟨rfl, hb⟩; have HP1 := Lib.hid (HP.out.step hb); clear hb; (try clear x0 x1 x2 x3 x4 x5 x6 x7 x8 x9 x10 x11 x12 x13 x14); obtain ⟨x0, x1, x2, x3, x4, x5, x6, x7, x8, x9, x10, x11, x12, x13, x14⟩ := HP1.out.cells; have tok1 : True := trivial)
      | (clear tok1; go_at_call 5; refine (K45.out _ HP1.out).mono ?_; rintro e W1 ⟨rfl, hb⟩; have HP2 := Lib.hid (HP1.out.step hb); clear hb; (try clear x0 x1 x2 x3 x4 x5 x6 x7 x8 x9 x10 x11 x12 x13 x14); obtain ⟨x0, x1, x2, x3, x4, x5, x6, x7, x8, x9, x10, x11, x12, x13, x14⟩ := HP2.out.cells; have tok2 : True := trivial)
      | (clear tok2; go_at_call 6; refine (K46.out _ HP2.out).mono ?_; rintro e W1 ⟨rfl, hb⟩; have HP3 := Lib.hid (HP2.out.step hb); clear hb; (try clear x0 x1 x2 x3 x4 x5 x6 x7 x8 x9 x10 x11 x12 x13 x14); obtain ⟨x0, x1, x2, x3, x4, x5, x6, x7, x8, x9, x10, x11, x12, x13, x14⟩ := HP3.out.cells; have tok3 : True := trivial)
      | (clear tok3; go_at_call 7; refine (K47.out _ HP3.out).mono ?_; rintro e W1 ⟨rfl, hb⟩; have HP4 := Lib.hid (HP3.out.step hb); clear hb; (try clear x0 x1 x2 x3 x4 x5 x6 x7 x8 x9 x10 x11 x12 x13 x14); obtain ⟨x0, x1, x2, x3, x4, x5, x6, x7, x8, x9, x10, x11, x12, x13, x14⟩ := HP4.out.cells; have tok4 : True := trivial))
    go_ret
    exact ⟨rfl, HP4.out.bel⟩
  by_cases g3 : 3 < d.ovs
  · clear hout
    go_enter Tryz.func3, Tryz.ntmps3
    go_wp2_with (first
      | (clear tok0; go_at_call 4; refine (KA.out _ HP.out).mono ?_; rintro e W1 ⟨rfl, hb⟩; have HP1 := Lib.hid (HP.out.step hb); clear hb; (try clear x0 x1 x2 x3 x4 x5 x6 x7 x8 x9 x10 x11 x12 x13 x14); obtain ⟨x0, x1, x2, x3, x4, x5, x6, x7, x8, x9, x10, x11, x12, x13, x14⟩ := HP1.out.cells; have tok1 : True := trivial)
      | (clear tok1; go_at_call 5; refine (K45.out _ HP1.out).mono ?_; rintro e W1 ⟨rfl, hb⟩; have HP2 := Lib.hid (HP1.out.step hb); clear hb; (try clear x0 x1 x2 x3 x4 x5 x6 x7 x8 x9 x10 x11 x12 x13 x14); obtain ⟨x0, x1, x2, x3, x4, x5, x6, x7, x8, x9, x10, x11, x12, x13, x14⟩ := HP2.out.cells; have tok2 : True := trivial)
      | (clear tok2; go_at_call 6; refine (K46.out _ HP2.out).mono ?_; rintro e W1 ⟨rfl, hb⟩; have HP3 := Lib.hid (HP2.out.step hb); clear hb; (try clear x0 x1 x2 x3 x4 x5 x6 x7 x8 x9 x10 x11 x12 x13 x14); obtain ⟨x0, x1, x2, x3, x4, x5, x6, x7, x8, x9, x10, x11, x12, x13, x14⟩ := HP3.out.cells; have tok3 : True := trivial)
      | (clear tok3; go_at_call 7; refine (K47.out _ HP3.out).mono ?_; rintro e W1 ⟨rfl, hb⟩; have HP4 := Lib.hid (HP3.out.step hb); clear hb; (try clear x0 x1 x2 x3 x4 x5 x6 x7 x8 x9 x10 x11 x12 x13 x14); obtain ⟨x0, x1, x2, x3, x4, x5, x6, x7, x8, x9, x10, x11, x12, x13, x14⟩ := HP4.out.cells; have tok4 : True := trivial))
    go_ret
    exact ⟨rfl, HP4.out.bel⟩
  by_cases g4 : 100 < (l.length : Int)
  · clear hout
    go_enter Tryz.func3, Tryz.ntmps3
    go_wp2_with (first
      | (clear tok0; go_at_call 4; refine (KA.out _ HP.out).mono ?_; rintro e W1 ⟨rfl, hb⟩; have HP1 := Lib.hid (HP.out.step hb); clear hb; (try clear x0 x1 x2 x3 x4 x5 x6 x7 x8 x9 x10 x11 x12 x13 x14); obtain ⟨x0, x1, x2, x3, x4, x5, x6, x7, x8, x9, x10, x11, x12, x13, x14⟩ := HP1.out.cells; have tok1 : True := trivial)
      | (clear tok1; go_at_call 5; refine (K45.out _ HP1.out).mono ?_; rintro e W1 ⟨rfl, hb⟩; have HP2 := Lib.hid (HP1.out.step hb); clear hb; (try clear x0 x1 x2 x3 x4 x5 x6 x7 x8 x9 x10 x11 x12 x13 x14); obtain ⟨x0, x1, x2, x3, x4, x5, x6, x7, x8, x9, x10, x11, x12, x13, x14⟩ := HP2.out.cells; have tok2 : True := trivial)
      | (clear tok2; go_at_call 6; refine (K46.out _ HP2.out).mono ?_; rintro e W1 ⟨rfl, hb⟩; have HP3 := Lib.hid (HP2.out.step hb); clear hb; (try clear x0 x1 x2 x3 x4 x5 x6 x7 x8 x9 x10 x11 x12 x13 x14); obtain ⟨x0, x1, x2, x3, x4, x5, x6, x7, x8, x9, x10, x11, x12, x13, x14⟩ := HP3.out.cells; have tok3 : True := trivial)
      | (clear tok3; go_at_call 7; refine (K47.out _ HP3.out).mono ?_; rintro e W1 ⟨rfl, hb⟩; have HP4 := Lib.hid (HP3.out.step hb); clear hb; (try clear x0 x1 x2 x3 x4 x5 x6 x7 x8 x9 x10 x11 x12 x13 x14); obtain ⟨x0, x1, x2, x3, x4, x5, x6, x7, x8, x9, x10, x11, x12, x13, x14⟩ := HP4.out.cells; have tok4 : True := trivial))
    go_ret
    exact ⟨rfl, HP4.out.bel⟩
  by_cases g5 : 100 < (leads.length : Int)
  · clear hout
    go_enter Tryz.func3, Tryz.ntmps3
    go_wp2_with (first
      | (clear tok0; go_at_call 4; refine (KA.out _ HP.out).mono ?_; rintro e W1 ⟨rfl, hb⟩; have HP1 := Lib.hid (HP.out.step hb); clear hb; (try clear x0 x1 x2 x3 x4 x5 x6 x7 x8 x9 x10 x11 x12 x13 x14); obtain ⟨x0, x1, x2, x3, x4, x5, x6, x7, x8, x9, x10, x11, x12, x13, x14⟩ := HP1.out.cells; have tok1 : True := trivial)
      | (clear tok1; go_at_call 5; refine (K45.out _ HP1.out).mono ?_; rintro e W1 ⟨rfl, hb⟩; have HP2 := Lib.hid (HP1.out.step hb); clear hb; (try clear x0 x1 x2 x3 x4 x5 x6 x7 x8 x9 x10 x11 x12 x13 x14); obtain ⟨x0, x1, x2, x3, x4, x5, x6, x7, x8, x9, x10, x11, x12, x13, x14⟩ := HP2.out.cells; have tok2 : True := trivial)
      | (clear tok2; go_at_call 6; refine (K46.out _ HP2.out).mono ?_; rintro e W1 ⟨rfl, hb⟩; have HP3 := Lib.hid (HP2.out.step hb); clear hb; (try clear x0 x1 x2 x3 x4 x5 x6 x7 x8 x9 x10 x11 x12 x13 x14); obtain ⟨x0, x1, x2, x3, x4, x5, x6, x7, x8, x9, x10, x11, x12, x13, x14⟩ := HP3.out.cells; have tok3 : True := trivial)
      | (clear tok3; go_at_call 7; refine (K47.out _ HP3.out).mono ?_; rintro e W1 ⟨rfl, hb⟩; have HP4 := Lib.hid (HP3.out.step hb); clear hb; (try clear x0 x1 x2 x3 x4 x5 x6 x7 x8 x9 x10 x11 x12 x13 x14); obtain ⟨x0, x1, x2, x3, x4, x5, x6, x7, x8, x9, x10, x11, x12, x13, x14⟩ := HP4.out.cells; have tok4 : True := trivial))
    go_ret
    exact ⟨rfl, HP4.out.bel⟩
  exact absurd ⟨rfl, by omega, rfl, rfl, by omega, by omega, by omega⟩ hout
end Go.Proofs.YtjchapoggmipbaaGreatDoor

namespace Go.Proofs.YtjchapoggmipbaaGreatDoor
open Go.RowKit

/-- The plans' box, the openers' and the state's. -/
structure PLS (w W : World) (g q : Nat) (c : Chs) (t : Att) (d : Dct) (bv wv pv ov cv ev fv : Value) (ba bb : Int) (need str par wt : Int) : Prop where
  pl : PLB w W c t d bv wv pv ov cv ev fv
  ab : Blk W g 41 #[.int .i64 ba, .int .i64 bb]
  st : Blk W q 47 #[.int .i64 0, .int .i64 need, .int .i64 str, .int .i64 par, .int .u16 wt]
  q0 : w.heap.size < q
section
variable {w W W' : World} {g q : Nat} {c : Chs} {t : Att} {d : Dct} {bv wv pv ov cv ev fv : Value} {ba bb need str par wt : Int}
theorem PLS.below (h : PLS w W g q c t d bv wv pv ov cv ev fv ba bb need str par wt) (hb : Below W.heap.size W W') : PLS w W' g q c t d bv wv pv ov cv ev fv ba bb need str par wt := ⟨h.pl.step hb, h.ab.below hb h.ab.lt, h.st.below hb h.st.lt, h.q0⟩
theorem PLS.drew (h : PLS w W g q c t d bv wv pv ov cv ev fv ba bb need str par wt) : PLS w W.drew g q c t d bv wv pv ov cv ev fv ba bb need str par wt := h.below (Below.drew (Below.refl _ _))
theorem PLS.set (h : PLS w W g q c t d bv wv pv ov cv ev fv ba bb need str par wt) (x : Int) : PLS w (W.setCell ⟨q, 4, none⟩ (.int .u16 x)) g q c t d bv wv pv ov cv ev fv ba bb need str par x := by
  have h0 := h.q0
  have n1 : w.heap.size ≠ q := by omega
  have n2 : g ≠ q := blk_apartT h.ab h.st (by decide)
  exact ⟨⟨Below.setCell h.pl.bel (by show w.heap.size ≤ q; omega) _, h.pl.bx.far n1 _⟩, h.ab.far n2 _, h.st.set_ 4 _, h0⟩
theorem PLS.new (h : PLB w W c t d bv wv pv ov cv ev fv) : PLS w ((W.alloc (.cells #[.int .i64 ba, .int .i64 bb] 41)).alloc (.cells #[.int .i64 0, .int .i64 need, .int .i64 str, .int .i64 par, .int .u16 wt] 47)) W.heap.size (W.heap.size + 1) c t d bv wv pv ov cv ev fv ba bb need str par wt := by
  have h2 := Blk.new (W.alloc (.cells #[.int .i64 ba, .int .i64 bb] 41)) 47 #[.int .i64 0, .int .i64 need, .int .i64 str, .int .i64 par, .int .u16 wt]
  rw [World.size_alloc] at h2
  have hl := h.bx.lt
  exact ⟨(h.alloc _).alloc _, (Blk.new W _ _).alloc _, h2, by omega⟩
end
set_option maxRecDepth 100000 in
set_option maxHeartbeats 4000000 in
theorem law_Plans_in (c : Chs) (t : Att) (d : Dct) (l leads : List Int) (bv wv pv ov cv ev fv lv dv : Value) (w : World) (hg : GlobN w) (h : ChAt w (· < w.heap.size) bv wv pv ov c) (ha : Sl 1 elRw w (· < w.heap.size) cv t.costs) (hd : DtAt w (· < w.heap.size) ev fv d) (hl : Sl 1 elInt w (· < w.heap.size) lv l) (hs : Sl 1 elInt w (· < w.heap.size) dv leads) (hin : inP c t d l leads) :
    Calls Tryz.prog 3 #[.agg #[bv, wv, pv, .int .i64 c.over, .int .i64 c.done, .int .i64 c.need, ov, cv, .int .i64 t.quota, .int .i64 t.last, .int .i64 d.ovs, .int .i64 d.lead, .int .i64 d.step, ev, fv], lv, dv] w fun e w' => e = .returned (.bool true) ∧ Below w.heap.size w w' := by
  obtain ⟨A, ca, rfl, hc1, hc2⟩ := h.mdl.bat.shape
  obtain ⟨A1, ca1, rfl, hc3, hc4⟩ := h.mdl.bow.shape
  obtain ⟨A2, ca2, rfl, hc5, hc6⟩ := h.bow.shape
  obtain ⟨A3, ca3, rfl, hc7, hc8⟩ := h.ord.shape
  obtain ⟨A4, ca4, rfl, hc9, hc10⟩ := ha.shape
  obtain ⟨A5, ca5, rfl, hc11, hc12⟩ := hd.over.shape
  obtain ⟨A6, ca6, rfl, hc13, hc14⟩ := hd.win.shape
  obtain ⟨A7, ca7, rfl, hc15, hc16⟩ := hl.shape
  obtain ⟨A8, ca8, rfl, hc17, hc18⟩ := hs.shape
  have HP := Lib.hid (PLB.new w c t d (.slice A c.mdl.bats.length ca) (.slice A1 c.mdl.bows.length ca1) (.slice A2 c.bows.length ca2) (.slice A3 c.ord.length ca3) (.slice A4 t.costs.length ca4) (.slice A5 d.over.length ca5) (.slice A6 d.win.length ca6))
  have ka := fun W (hW : PLB w W c t d (.slice A c.mdl.bats.length ca) (.slice A1 c.mdl.bows.length ca1) (.slice A2 c.bows.length ca2) (.slice A3 c.ord.length ca3) (.slice A4 t.costs.length ca4) (.slice A5 d.over.length ca5) (.slice A6 d.win.length ca6)) => top_planAwake W (hg.below hW.bel)
  have k45 := fun W (hW : PLB w W c t d (.slice A c.mdl.bats.length ca) (.slice A1 c.mdl.bows.length ca1) (.slice A2 c.bows.length ca2) (.slice A3 c.ord.length ca3) (.slice A4 t.costs.length ca4) (.slice A5 d.over.length ca5) (.slice A6 d.win.length ca6)) => law45_Small c _ _ _ _ W (h.below hW.bel)
  have k46 := fun W (hW : PLB w W c t d (.slice A c.mdl.bats.length ca) (.slice A1 c.mdl.bows.length ca1) (.slice A2 c.bows.length ca2) (.slice A3 c.ord.length ca3) (.slice A4 t.costs.length ca4) (.slice A5 d.over.length ca5) (.slice A6 d.win.length ca6)) => law46_Small t _ W (rw_low ha hW.bel)
  have k47 := fun W (hW : PLB w W c t d (.slice A c.mdl.bats.length ca) (.slice A1 c.mdl.bows.length ca1) (.slice A2 c.bows.length ca2) (.slice A3 c.ord.length ca3) (.slice A4 t.costs.length ca4) (.slice A5 d.over.length ca5) (.slice A6 d.win.length ca6)) => law47_Small d _ _ W (hd.low hW.bel)
  unfold chV at k45
  unfold atV at k46
  unfold dtV at k47
  have KA := Lib.hid ka
  have tok0 : True := trivial
  obtain ⟨g1, g2, g3, g4, g5, g6, g7⟩ := hin
  rw [g1] at k45
  rw [g3] at k46
  rw [g4] at k47
  have kb := fun W (hW : PLB w W c t d (.slice A c.mdl.bats.length ca) (.slice A1 c.mdl.bows.length ca1) (.slice A2 c.bows.length ca2) (.slice A3 c.ord.length ca3) (.slice A4 t.costs.length ca4) (.slice A5 d.over.length ca5) (.slice A6 d.win.length ca6)) => or_Best c _ _ _ _ W (h.below hW.bel)
  have kf := fun W (hW : PLB w W c t d (.slice A c.mdl.bats.length ca) (.slice A1 c.mdl.bows.length ca1) (.slice A2 c.bows.length ca2) (.slice A3 c.ord.length ca3) (.slice A4 t.costs.length ca4) (.slice A5 d.over.length ca5) (.slice A6 d.win.length ca6)) => or_Fixed c l _ _ _ _ _ W (h.below hW.bel) (int_low hl hW.bel) g6
  have ko := fun (hk : checkO c = 0) (s : Ost) (hs : OkOs c s) W (hW : PLB w W c t d (.slice A c.mdl.bats.length ca) (.slice A1 c.mdl.bows.length ca1) (.slice A2 c.bows.length ca2) (.slice A3 c.ord.length ca3) (.slice A4 t.costs.length ca4) (.slice A5 d.over.length ca5) (.slice A6 d.win.length ca6)) => top_orderWins c hk (rankO c s) s rfl hs _ _ _ _ W (h.below hW.bel)
  unfold chV at kb kf ko
  unfold osV at ko
  have kab := fun W (hW : PLB w W c t d (.slice A c.mdl.bats.length ca) (.slice A1 c.mdl.bows.length ca1) (.slice A2 c.bows.length ca2) (.slice A3 c.ord.length ca3) (.slice A4 t.costs.length ca4) (.slice A5 d.over.length ca5) (.slice A6 d.win.length ca6)) => att_BestL t _ W (rw_low ha hW.bel)
  have kac := fun (x : List Int) v W (hW : PLB w W c t d (.slice A c.mdl.bats.length ca) (.slice A1 c.mdl.bows.length ca1) (.slice A2 c.bows.length ca2) (.slice A3 c.ord.length ca3) (.slice A4 t.costs.length ca4) (.slice A5 d.over.length ca5) (.slice A6 d.win.length ca6)) (hx : Sl 1 elInt W (· < W.heap.size) v x) => att_Cost t _ x v W (rw_low ha hW.bel) hx
  have kaa := fun (he : checkA t = 0) (x K : List Int) P xv kv W (hW : PLB w W c t d (.slice A c.mdl.bats.length ca) (.slice A1 c.mdl.bows.length ca1) (.slice A2 c.bows.length ca2) (.slice A3 c.ord.length ca3) (.slice A4 t.costs.length ca4) (.slice A5 d.over.length ca5) (.slice A6 d.win.length ca6)) (hx : Sl 1 elInt W (· < W.heap.size) xv x) (hk : Sl 1 elInt W (· < W.heap.size) kv K) (hK : AllA t K) (hP : P = potP t (startA t)) (hcost : costS t x = (P, 0)) => att_Accept t _ _ _ x K P W he (rw_low ha hW.bel) hx hk hK hP hcost
  unfold atV at kab kac kaa
  have KAB := Lib.hid kab
  have KAC := Lib.hid kac
  have KAA := Lib.hid kaa
  have kdc := fun W (hW : PLB w W c t d (.slice A c.mdl.bats.length ca) (.slice A1 c.mdl.bows.length ca1) (.slice A2 c.bows.length ca2) (.slice A3 c.ord.length ca3) (.slice A4 t.costs.length ca4) (.slice A5 d.over.length ca5) (.slice A6 d.win.length ca6)) => dec_Check d _ _ W (hd.low hW.bel)
  have kdw := fun (hk : checkT d = 0) (m : Nat) (hm : d.ovs = (m : Int)) W (hW : PLB w W c t d (.slice A c.mdl.bats.length ca) (.slice A1 c.mdl.bows.length ca1) (.slice A2 c.bows.length ca2) (.slice A3 c.ord.length ca3) (.slice A4 t.costs.length ca4) (.slice A5 d.over.length ca5) (.slice A6 d.win.length ca6)) => top_declareWins d hk m (by omega) d.lead _ _ W (by have := (checkT_ok hk).l0; have := (checkT_ok hk).l1; have := (checkT_ok hk).o1; omega) (hd.low hW.bel)
  have kdv := fun (hk : checkT d = 0) (m : Nat) (hm : d.ovs = (m : Int)) W (hW : PLB w W c t d (.slice A c.mdl.bats.length ca) (.slice A1 c.mdl.bows.length ca1) (.slice A2 c.bows.length ca2) (.slice A3 c.ord.length ca3) (.slice A4 t.costs.length ca4) (.slice A5 d.over.length ca5) (.slice A6 d.win.length ca6)) => dec_Value d _ _ d.lead m W hk (by omega) (by have := (checkT_ok hk).l0; have := (checkT_ok hk).l1; omega) (hd.low hW.bel)
  have kdr := fun (hk : checkT d = 0) (m : Nat) (hm : d.ovs = (m : Int)) (hls : (leads.length : Int) = d.ovs + 1) W (hW : PLB w W c t d (.slice A c.mdl.bats.length ca) (.slice A1 c.mdl.bows.length ca1) (.slice A2 c.bows.length ca2) (.slice A3 c.ord.length ca3) (.slice A4 t.costs.length ca4) (.slice A5 d.over.length ca5) (.slice A6 d.win.length ca6)) => dec_Rule_ok d leads _ _ _ m W hk hm hls (hd.low hW.bel) (int_low hs hW.bel)
  have kdb := fun (hk : checkT d = 0) (hls : (leads.length : Int) ≠ d.ovs + 1) W (hW : PLB w W c t d (.slice A c.mdl.bats.length ca) (.slice A1 c.mdl.bows.length ca1) (.slice A2 c.bows.length ca2) (.slice A3 c.ord.length ca3) (.slice A4 t.costs.length ca4) (.slice A5 d.over.length ca5) (.slice A6 d.win.length ca6)) => dec_Rule_bad d leads _ _ _ W hk hls (hd.low hW.bel) (int_low hs hW.bel)
  unfold dtV at kdc kdw kdv kdr kdb
  have KDC := Lib.hid kdc
  have KDW := Lib.hid kdw
  have KDV := Lib.hid kdv
  have KDR := Lib.hid kdr
  have KDB := Lib.hid kdb
  obtain ⟨⟨⟨ba, bb⟩, bo, be⟩, hbz⟩ : ∃ z : (Int × Int) × Int × Int, z = bestOS c := ⟨_, rfl⟩
  obtain ⟨⟨fo, fe⟩, hfz⟩ : ∃ z : Int × Int, z = fixedS c l := ⟨_, rfl⟩
  have hfb := fixed_le (c := c) (l := l)
  have hbs := fun h => bestOS_is (c := c) h
  rw [← hbz] at kb hfb hbs
  rw [← hfz] at kf hfb
  dsimp only at kb kf hfb hbs
  have KB := Lib.hid kb
  have KF := Lib.hid kf
  have KO := Lib.hid ko
  have K45 := Lib.hid k45
  have K46 := Lib.hid k46
  have K47 := Lib.hid k47
  have HFB := Lib.hid hfb
  have HBS := Lib.hid hbs
  have f2 : ¬ 3 < (c.bows.length : Int) := by omega
  have f5 : ¬ 3 < d.ovs := by omega
  have f6 : ¬ 100 < (l.length : Int) := by omega
  have f7 : ¬ 100 < (leads.length : Int) := by omega
  have HH := Lib.hid h
  have HA := Lib.hid ha
  have HD := Lib.hid hd
  have HL := Lib.hid hl
  have HS := Lib.hid hs
  clear ka k45 k46 k47 h ha hd hl hs hg g1 g3 g4 kb kf ko hfb hbs hbz hfz kab kac kaa kdc kdw kdv kdr kdb
  go_enter Tryz.func3, Tryz.ntmps3
  go_upto_if 77 with (first
      | (clear tok0; go_at_call 4; refine (KA.out _ HP.out).mono ?_; rintro e W1 ⟨rfl, hb⟩; have HP1 := Lib.hid (HP.out.step hb); clear hb; (try clear x0 x1 x2 x3 x4 x5 x6 x7 x8 x9 x10 x11 x12 x13 x14); obtain ⟨x0, x1, x2, x3, x4, x5, x6, x7, x8, x9, x10, x11, x12, x13, x14⟩ := HP1.out.cells; have tok1 : True := trivial)
      | (clear tok1; go_at_call 5; refine (K45.out _ HP1.out).mono ?_; rintro e W1 ⟨rfl, hb⟩; have HP2 := Lib.hid (HP1.out.step hb); clear hb; (try clear x0 x1 x2 x3 x4 x5 x6 x7 x8 x9 x10 x11 x12 x13 x14); obtain ⟨x0, x1, x2, x3, x4, x5, x6, x7, x8, x9, x10, x11, x12, x13, x14⟩ := HP2.out.cells; have tok2 : True := trivial)
      | (clear tok2; go_at_call 6; refine (K46.out _ HP2.out).mono ?_; rintro e W1 ⟨rfl, hb⟩; have HP3 := Lib.hid (HP2.out.step hb); clear hb; (try clear x0 x1 x2 x3 x4 x5 x6 x7 x8 x9 x10 x11 x12 x13 x14); obtain ⟨x0, x1, x2, x3, x4, x5, x6, x7, x8, x9, x10, x11, x12, x13, x14⟩ := HP3.out.cells; have tok3 : True := trivial)
      | (clear tok3; go_at_call 7; refine (K47.out _ HP3.out).mono ?_; rintro e W1 ⟨rfl, hb⟩; have HP4 := Lib.hid (HP3.out.step hb); clear hb; (try clear x0 x1 x2 x3 x4 x5 x6 x7 x8 x9 x10 x11 x12 x13 x14); obtain ⟨x0, x1, x2, x3, x4, x5, x6, x7, x8, x9, x10, x11, x12, x13, x14⟩ := HP4.out.cells; have tok4 : True := trivial)
      | (clear tok4; go_at_call 8; refine (KB.out _ HP4.out).mono ?_; rintro e W1 ⟨rfl, hb⟩; have HP5 := Lib.hid (HP4.out.step hb); clear hb; (try clear x0 x1 x2 x3 x4 x5 x6 x7 x8 x9 x10 x11 x12 x13 x14); obtain ⟨x0, x1, x2, x3, x4, x5, x6, x7, x8, x9, x10, x11, x12, x13, x14⟩ := HP5.out.cells; have tok5 : True := trivial))
  have hlb := HP5.out.bx.lt
  go_cut [] (fun wx => PLB w wx c t d (.slice A c.mdl.bats.length ca) (.slice A1 c.mdl.bows.length ca1) (.slice A2 c.bows.length ca2) (.slice A3 c.ord.length ca3) (.slice A4 t.costs.length ca4) (.slice A5 d.over.length ca5) (.slice A6 d.win.length ca6))
  case first =>
    by_cases he : be = 0
    · subst he
      obtain ⟨hk, a, b, ha1, hb1, hab, hn6, hbe, hos⟩ := HBS.out rfl
      obtain ⟨rfl, rfl, hbo⟩ : ba = (a : Int) ∧ bb = (b : Int) ∧ bo = vO c ⟨0, c.need, a, b, setW a b c.ord.length⟩ := by
        simp only [Prod.mk.injEq] at hbe
        exact ⟨hbe.1.1, hbe.1.2, hbe.2.1⟩
      have ko2 := KO.out hk _ hos
      rw [← hbo] at ko2
      dsimp only at ko2
      have KO2 := Lib.hid ko2
      clear ko2
      clear hk hbe hos hbo KO
      have HPS := Lib.hid (PLS.new (ba := (a : Int)) (bb := (b : Int)) (need := c.need) (str := (a : Int)) (par := (b : Int)) (wt := setW a b 0) HP5.out)
      have qa : (0 : Int) ≤ (a : Int) := by omega
      have qb : (0 : Int) ≤ (b : Int) := by omega
      go_wp2
      go_loopw [90] (fun i wr => ∃ k : Nat, k ≤ c.ord.length ∧ i = .int .i64 k ∧ Hid (PLS w wr W1.heap.size (W1.heap.size + 1) c t d (.slice A c.mdl.bats.length ca) (.slice A1 c.mdl.bows.length ca1) (.slice A2 c.bows.length ca2) (.slice A3 c.ord.length ca3) (.slice A4 t.costs.length ca4) (.slice A5 d.over.length ca5) (.slice A6 d.win.length ca6) (a : Int) (b : Int) c.need (a : Int) (b : Int) (setW a b k))) (fun i _ => c.ord.length - (intOf i).toNat)
      case atStart => exact ⟨0, Nat.zero_le _, rfl, HPS⟩
      case round =>
        obtain ⟨k, hk, rfl, hps⟩ := hrel
        obtain ⟨x0, x1, x2, x3, x4, x5, x6, x7, x8, x9, x10, x11, x12, x13, x14⟩ := hps.out.pl.cells
        have y0 := hps.out.ab.cell 0; have y1 := hps.out.ab.cell 1
        have z0 := hps.out.st.cell 0; have z1 := hps.out.st.cell 1; have z2 := hps.out.st.cell 2; have z3 := hps.out.st.cell 3; have z4 := hps.out.st.cell 4
        simp only [List.getElem?_toArray, List.getElem?_cons_zero, List.getElem?_cons_succ] at y0 y1 z0 z1 z2 z3 z4
        have z5 := hps.out.st.frozen 4
        have hl1 := hps.out.st.lt
        have hl2 := hps.out.pl.bx.lt
        by_cases hlt : k < c.ord.length
        · have hst : setW a b (k + 1) = if (k : Int) ≠ a ∧ (k : Int) ≠ b then bits .or .u16 (setW a b k) (oneW k) else setW a b k := rfl
          obtain ⟨w0, w1⟩ := setW_lt (a := a) (b := b) (k := k) (by omega)
          obtain ⟨wt, hwt⟩ : ∃ x, x = setW a b k := ⟨_, rfl⟩
          rw [← hwt] at hst w0 w1 z4 hps
          have qk : (k : Int) < (c.ord.length : Int) := by omega
          have qk2 : (0 : Int) ≤ (k : Int) := by omega
          have qk3 : (k : Int) < 16 := by omega
          by_cases hx : (k : Int) ≠ a ∧ (k : Int) ≠ b
          · rw [if_pos hx] at hst
            have u1 : ((k : Int) != (a : Int)) = true := bneT hx.1
            have u2 : ((k : Int) != (b : Int)) = true := bneT hx.2
            have HST := Lib.hid hst
            clear hst hx hwt
            go_wp2
            all_goals go_region
            go_wp2
            go_roundw
            case rel => exact ⟨k + 1, by omega, by go_num, Lib.hid (by rw [HST.out]; exact (hps.out.set _).drew)⟩
            case measure => simp [intOf]; omega
          · rw [if_neg hx] at hst
            have HST := Lib.hid hst
            clear hst hwt
            by_cases h1 : (k : Int) = a
            · have u1 : ((k : Int) != (a : Int)) = false := bneF h1
              clear hx h1
              go_wp2
              go_roundw
              case rel => exact ⟨k + 1, by omega, by go_num, by rw [HST.out]; exact hps⟩
              case measure => simp [intOf]; omega
            · have u1 : ((k : Int) != (a : Int)) = true := bneT h1
              have u2 : ((k : Int) != (b : Int)) = false := bneF (by omega)
              clear hx h1
              go_wp2
              go_roundw
              case rel => exact ⟨k + 1, by omega, by go_num, by rw [HST.out]; exact hps⟩
              case measure => simp [intOf]; omega
        · obtain rfl : k = c.ord.length := by omega
          have hfb := HFB.out trivial
          by_cases hf : fe = 0
          · have hle := hfb hf
            subst hf
            have h4 : ¬ bo < fo := by omega
            clear hfb HFB hle
            go_wp2_with (first
              | (clear tok5; go_at_call 9; refine (KO2.out _ hps.out.pl).mono ?_; rintro e W2 ⟨rfl, hb⟩; have HP6 := Lib.hid (hps.out.below hb); clear hb; clear x0 x1 x2 x3 x4 x5 x6 x7 x8 x9 x10 x11 x12 x13 x14; obtain ⟨x0, x1, x2, x3, x4, x5, x6, x7, x8, x9, x10, x11, x12, x13, x14⟩ := HP6.out.pl.cells; have tok6 : True := trivial)
              | (clear tok6; go_at_call 10; refine (KF.out _ HP6.out.pl).mono ?_; rintro e W3 ⟨rfl, hb⟩; have HP7 := Lib.hid (HP6.out.below hb); clear hb; have tok7 : True := trivial))
            go_meet
            exact HP7.out.pl
          · have ef : (fe == 0) = false := beqF hf
            clear hfb HFB
            go_wp2_with (first
              | (clear tok5; go_at_call 9; refine (KO2.out _ hps.out.pl).mono ?_; rintro e W2 ⟨rfl, hb⟩; have HP6 := Lib.hid (hps.out.below hb); clear hb; clear x0 x1 x2 x3 x4 x5 x6 x7 x8 x9 x10 x11 x12 x13 x14; obtain ⟨x0, x1, x2, x3, x4, x5, x6, x7, x8, x9, x10, x11, x12, x13, x14⟩ := HP6.out.pl.cells; have tok6 : True := trivial)
              | (clear tok6; go_at_call 10; refine (KF.out _ HP6.out.pl).mono ?_; rintro e W3 ⟨rfl, hb⟩; have HP7 := Lib.hid (HP6.out.below hb); clear hb; have tok7 : True := trivial))
            go_meet
            exact HP7.out.pl
    · have eb : (be == 0) = false := beqF he
      clear HBS HFB KO
      go_wp2
      go_meet
      exact HP5.out.alloc _
  case rest =>
    have HP8 := Lib.hid hcut
    clear x0 x1 x2 x3 x4 x5 x6 x7 x8 x9 x10 x11 x12 x13 x14
    clear hcut HP HP1 HP2 HP3 HP4 HP5 KA K45 K46 K47 KB KF KO HBS HFB tok5 hlb
    obtain ⟨x0, x1, x2, x3, x4, x5, x6, x7, x8, x9, x10, x11, x12, x13, x14⟩ := HP8.out.cells
    have hlb := HP8.out.bx.lt
    obtain ⟨⟨co, ce⟩, hcz⟩ : ∃ z : Int × Int, z = costS t l := ⟨_, rfl⟩
    have HCZ := Lib.hid hcz
    have kc1 := fun W (hW : PLB w W c t d (.slice A c.mdl.bats.length ca) (.slice A1 c.mdl.bows.length ca1) (.slice A2 c.bows.length ca2) (.slice A3 c.ord.length ca3) (.slice A4 t.costs.length ca4) (.slice A5 d.over.length ca5) (.slice A6 d.win.length ca6)) => KAC.out l _ W hW (int_low HL.out hW.bel)
    rw [← hcz] at kc1
    dsimp only at kc1
    have KC1 := Lib.hid kc1
    clear hcz kc1
    have tok8 : True := trivial
    go_upto_if 154 with (first
      | (clear tok8; go_at_call 11; refine (KAB.out _ HP8.out).mono ?_; rintro e W9 ⟨A9, n9, c9, P9, B9, m9, d9, er, rfl, hb, hpl⟩; have HP9 := Lib.hid (HP8.out.step hb); have HPL := Lib.hid hpl; have HBK := Lib.hid (Blk.new W9 54 #[.slice A9 n9 c9, .int .i64 P9, .slice B9 m9 d9]); clear hb hpl hlb; clear x0 x1 x2 x3 x4 x5 x6 x7 x8 x9 x10 x11 x12 x13 x14; obtain ⟨x0, x1, x2, x3, x4, x5, x6, x7, x8, x9, x10, x11, x12, x13, x14⟩ := HP9.out.cells; have hlb := HP9.out.bx.lt; have tok9 : True := trivial)
      | (clear tok9; go_at_call 12; refine (KC1.out _ (HP9.out.alloc _)).mono ?_; rintro e W10 ⟨rfl, hb⟩; have HP10 := Lib.hid ((HP9.out.alloc _).step hb); have HB10 := Lib.hid ((low_allocA W9 _).trans (hb.mono (by simp))); have HBK2 := Lib.hid (HBK.out.below hb HBK.out.lt); clear hb hlb; clear x0 x1 x2 x3 x4 x5 x6 x7 x8 x9 x10 x11 x12 x13 x14; obtain ⟨x0, x1, x2, x3, x4, x5, x6, x7, x8, x9, x10, x11, x12, x13, x14⟩ := HP10.out.cells; have hlb := HP10.out.bx.lt; have tok10 : True := trivial))
    go_cut [] (fun wx => PLB w wx c t d (.slice A c.mdl.bats.length ca) (.slice A1 c.mdl.bows.length ca1) (.slice A2 c.bows.length ca2) (.slice A3 c.ord.length ca3) (.slice A4 t.costs.length ca4) (.slice A5 d.over.length ca5) (.slice A6 d.win.length ca6))
    case first =>
      rcases HPL.out with ⟨he, hc⟩ | ⟨he, out, hck, hP, hcs, hso, K, hK, hsk⟩
      · have eb : (er == 0) = false := beqF he
        have ec : (ce == 0) = false := beqF (by have := hc l; rw [← HCZ.out] at this; exact this)
        clear he hc HPL HCZ
        go_wp2
        go_meet
        exact HP10.out
      · subst he
        have kc2 := fun W (hW : PLB w W c t d (.slice A c.mdl.bats.length ca) (.slice A1 c.mdl.bows.length ca1) (.slice A2 c.bows.length ca2) (.slice A3 c.ord.length ca3) (.slice A4 t.costs.length ca4) (.slice A5 d.over.length ca5) (.slice A6 d.win.length ca6)) (hb : Below W9.heap.size W9 W) => KAC.out out _ W hW (int_low hso hb)
        rw [hcs] at kc2
        have KC2 := Lib.hid kc2
        have KA2 := Lib.hid (fun W (hW : PLB w W c t d (.slice A c.mdl.bats.length ca) (.slice A1 c.mdl.bows.length ca1) (.slice A2 c.bows.length ca2) (.slice A3 c.ord.length ca3) (.slice A4 t.costs.length ca4) (.slice A5 d.over.length ca5) (.slice A6 d.win.length ca6)) (hb : Below W9.heap.size W9 W) => KAA.out hck out K P9 _ _ W hW (int_low hso hb) (int_low hsk hb) hK hP hcs)
        have hge := costS_ge (t := t) (l := l)
        rw [← HCZ.out, ← hP] at hge
        have b0 := HBK2.out.cell 0; have b1 := HBK2.out.cell 1; have b2 := HBK2.out.cell 2
        simp only [List.getElem?_toArray, List.getElem?_cons_zero, List.getElem?_cons_succ] at b0 b1 b2
        clear kc2 HPL HCZ hck hP hcs hso hK hsk KAC KAA KAB
        by_cases hf : ce = 0
        · have h4 : ¬ co < P9 := by have := (hge hf).2.2; omega
          subst hf
          clear hge
          go_wp2_with (first
            | (clear tok10; go_at_call 12; refine (KC2.out _ HP10.out HB10.out).mono ?_; rintro e W11 ⟨rfl, hb⟩; have HP11 := Lib.hid (HP10.out.step hb); have HB11 := Lib.hid (HB10.out.trans (hb.mono HB10.out.size)); have hbk := HBK2.out.below hb HBK2.out.lt; clear b0 b1 b2 hb hlb; have b0 := hbk.cell 0; have b1 := hbk.cell 1; have b2 := hbk.cell 2; (simp only [List.getElem?_toArray, List.getElem?_cons_zero, List.getElem?_cons_succ] at b0 b1 b2); clear hbk; clear x0 x1 x2 x3 x4 x5 x6 x7 x8 x9 x10 x11 x12 x13 x14; obtain ⟨x0, x1, x2, x3, x4, x5, x6, x7, x8, x9, x10, x11, x12, x13, x14⟩ := HP11.out.cells; have tok11 : True := trivial)
            | (clear tok11; go_at_call 13; refine (KA2.out _ HP11.out HB11.out).mono ?_; rintro e W12 ⟨rfl, hb⟩; have HP12 := Lib.hid (HP11.out.step hb); clear hb; have tok12 : True := trivial))
          go_meet
          exact HP12.out
        · have ef : (ce == 0) = false := beqF hf
          clear hge hf
          go_wp2_with (first
            | (clear tok10; go_at_call 12; refine (KC2.out _ HP10.out HB10.out).mono ?_; rintro e W11 ⟨rfl, hb⟩; have HP11 := Lib.hid (HP10.out.step hb); have HB11 := Lib.hid (HB10.out.trans (hb.mono HB10.out.size)); have hbk := HBK2.out.below hb HBK2.out.lt; clear b0 b1 b2 hb hlb; have b0 := hbk.cell 0; have b1 := hbk.cell 1; have b2 := hbk.cell 2; (simp only [List.getElem?_toArray, List.getElem?_cons_zero, List.getElem?_cons_succ] at b0 b1 b2); clear hbk; clear x0 x1 x2 x3 x4 x5 x6 x7 x8 x9 x10 x11 x12 x13 x14; obtain ⟨x0, x1, x2, x3, x4, x5, x6, x7, x8, x9, x10, x11, x12, x13, x14⟩ := HP11.out.cells; have tok11 : True := trivial)
            | (clear tok11; go_at_call 13; refine (KA2.out _ HP11.out HB11.out).mono ?_; rintro e W12 ⟨rfl, hb⟩; have HP12 := Lib.hid (HP11.out.step hb); clear hb; have tok12 : True := trivial))
          go_meet
          exact HP12.out
    case rest =>
      have HPD := Lib.hid hcut
      clear x0 x1 x2 x3 x4 x5 x6 x7 x8 x9 x10 x11 x12 x13 x14
      clear hcut HP8 HP9 HP10 HB10 HBK HBK2 HPL HCZ KAB KAC KAA KC1 tok10 hlb
      obtain ⟨x0, x1, x2, x3, x4, x5, x6, x7, x8, x9, x10, x11, x12, x13, x14⟩ := HPD.out.cells
      have hlb := HPD.out.bx.lt
      have tok20 : True := trivial
      by_cases hk : checkT d = 0
      · obtain ⟨m, hm⟩ : ∃ m : Nat, d.ovs = (m : Int) := ⟨d.ovs.toNat, by have := (checkT_ok hk).o0; omega⟩
        have kw := KDW.out hk m hm
        have kv := KDV.out hk m hm
        have krl := rulD_le (checkT_ok hk) leads m d.lead
        obtain ⟨v, hv⟩ : ∃ v, v = valD d m d.lead := ⟨_, rfl⟩
        rw [← hv] at kw kv krl
        have kr : ∃ ro re : Int, (re = 0 → ro ≤ v) ∧ ∀ W, PLB w W c t d (.slice A c.mdl.bats.length ca) (.slice A1 c.mdl.bows.length ca1) (.slice A2 c.bows.length ca2) (.slice A3 c.ord.length ca3) (.slice A4 t.costs.length ca4) (.slice A5 d.over.length ca5) (.slice A6 d.win.length ca6) → Calls Tryz.prog 17 #[.agg #[.int .i64 d.ovs, .int .i64 d.lead, .int .i64 d.step, .slice A5 d.over.length ca5, .slice A6 d.win.length ca6], .slice A8 leads.length ca8] W fun e w' => e = .returned (.tuple #[.int .i64 ro, .int .i64 re]) ∧ Below W.heap.size W w' := by
          by_cases hls : (leads.length : Int) = d.ovs + 1
          · exact ⟨_, _, fun _ => krl, KDR.out hk m hm hls⟩
          · exact ⟨0, 1, fun h => absurd h (by decide), KDB.out hk hls⟩
        obtain ⟨ro, re, hre, kr⟩ := kr
        rw [← hm] at kw kv
        have KW := Lib.hid kw
        have KV := Lib.hid kv
        have KR := Lib.hid kr
        have kc := KDC.out
        rw [hk] at kc
        have KC := Lib.hid kc
        clear kw kv kr krl kc hv hm KDC KDW KDV KDR KDB hk
        by_cases hf : re = 0
        · have h4 : ¬ v < ro := by have := hre hf; omega
          subst hf
          clear hre
          go_wp2_with (first
            | (clear tok20; go_at_call 14; refine (KC.out _ HPD.out).mono ?_; rintro e W21 ⟨rfl, hb⟩; have HPE := Lib.hid (HPD.out.step hb); clear hb hlb; clear x0 x1 x2 x3 x4 x5 x6 x7 x8 x9 x10 x11 x12 x13 x14; obtain ⟨x0, x1, x2, x3, x4, x5, x6, x7, x8, x9, x10, x11, x12, x13, x14⟩ := HPE.out.cells; have hlb := HPE.out.bx.lt; have tok21 : True := trivial)
            | (clear tok21; go_at_call 15; refine (KW.out _ HPE.out).mono ?_; rintro e W22 ⟨rfl, hb⟩; have HPF := Lib.hid (HPE.out.step hb); clear hb hlb; clear x0 x1 x2 x3 x4 x5 x6 x7 x8 x9 x10 x11 x12 x13 x14; obtain ⟨x0, x1, x2, x3, x4, x5, x6, x7, x8, x9, x10, x11, x12, x13, x14⟩ := HPF.out.cells; have hlb := HPF.out.bx.lt; have tok22 : True := trivial)
            | (clear tok22; go_at_call 16; refine (KV.out _ HPF.out).mono ?_; rintro e W23 ⟨rfl, hb⟩; have HPG := Lib.hid (HPF.out.step hb); clear hb hlb; clear x0 x1 x2 x3 x4 x5 x6 x7 x8 x9 x10 x11 x12 x13 x14; obtain ⟨x0, x1, x2, x3, x4, x5, x6, x7, x8, x9, x10, x11, x12, x13, x14⟩ := HPG.out.cells; have hlb := HPG.out.bx.lt; have tok23 : True := trivial)
            | (clear tok23; go_at_call 17; refine (KR.out _ HPG.out).mono ?_; rintro e W24 ⟨rfl, hb⟩; have HPH := Lib.hid (HPG.out.step hb); clear hb hlb; clear x0 x1 x2 x3 x4 x5 x6 x7 x8 x9 x10 x11 x12 x13 x14; obtain ⟨x0, x1, x2, x3, x4, x5, x6, x7, x8, x9, x10, x11, x12, x13, x14⟩ := HPH.out.cells; have hlb := HPH.out.bx.lt; have tok24 : True := trivial))
          go_ret
          exact ⟨rfl, HPH.out.bel⟩
        · have ef : (re == 0) = false := beqF hf
          clear hre hf
          go_wp2_with (first
            | (clear tok20; go_at_call 14; refine (KC.out _ HPD.out).mono ?_; rintro e W21 ⟨rfl, hb⟩; have HPE := Lib.hid (HPD.out.step hb); clear hb hlb; clear x0 x1 x2 x3 x4 x5 x6 x7 x8 x9 x10 x11 x12 x13 x14; obtain ⟨x0, x1, x2, x3, x4, x5, x6, x7, x8, x9, x10, x11, x12, x13, x14⟩ := HPE.out.cells; have hlb := HPE.out.bx.lt; have tok21 : True := trivial)
            | (clear tok21; go_at_call 15; refine (KW.out _ HPE.out).mono ?_; rintro e W22 ⟨rfl, hb⟩; have HPF := Lib.hid (HPE.out.step hb); clear hb hlb; clear x0 x1 x2 x3 x4 x5 x6 x7 x8 x9 x10 x11 x12 x13 x14; obtain ⟨x0, x1, x2, x3, x4, x5, x6, x7, x8, x9, x10, x11, x12, x13, x14⟩ := HPF.out.cells; have hlb := HPF.out.bx.lt; have tok22 : True := trivial)
            | (clear tok22; go_at_call 16; refine (KV.out _ HPF.out).mono ?_; rintro e W23 ⟨rfl, hb⟩; have HPG := Lib.hid (HPF.out.step hb); clear hb hlb; clear x0 x1 x2 x3 x4 x5 x6 x7 x8 x9 x10 x11 x12 x13 x14; obtain ⟨x0, x1, x2, x3, x4, x5, x6, x7, x8, x9, x10, x11, x12, x13, x14⟩ := HPG.out.cells; have hlb := HPG.out.bx.lt; have tok23 : True := trivial)
            | (clear tok23; go_at_call 17; refine (KR.out _ HPG.out).mono ?_; rintro e W24 ⟨rfl, hb⟩; have HPH := Lib.hid (HPG.out.step hb); clear hb hlb; clear x0 x1 x2 x3 x4 x5 x6 x7 x8 x9 x10 x11 x12 x13 x14; obtain ⟨x0, x1, x2, x3, x4, x5, x6, x7, x8, x9, x10, x11, x12, x13, x14⟩ := HPH.out.cells; have hlb := HPH.out.bx.lt; have tok24 : True := trivial))
          go_ret
          exact ⟨rfl, HPH.out.bel⟩
      · have ek : (checkT d == 0) = false := beqF hk
        have KC := Lib.hid KDC.out
        clear hk KDC KDW KDV KDR KDB
        obtain ⟨v, hv⟩ : ∃ v, v = checkT d := ⟨_, rfl⟩
        rw [← hv] at KC ek
        clear hv
        go_wp2_with (first
          | (clear tok20; go_at_call 14; refine (KC.out _ HPD.out).mono ?_; rintro e W21 ⟨rfl, hb⟩; have HPE := Lib.hid (HPD.out.step hb); clear hb; have tok21 : True := trivial))
        go_ret
        exact ⟨rfl, HPE.out.bel⟩
end Go.Proofs.YtjchapoggmipbaaGreatDoor

namespace Go.Proofs.YtjchapoggmipbaaGreatDoor
open Go.RowKit

open Classical in
theorem law_Plans (c : Chs) (t : Att) (d : Dct) (l leads : List Int) (bv wv pv ov cv ev fv lv dv : Value) (w : World) (hg : GlobN w) (h : ChAt w (· < w.heap.size) bv wv pv ov c) (ha : Sl 1 elRw w (· < w.heap.size) cv t.costs) (hd : DtAt w (· < w.heap.size) ev fv d) (hl : Sl 1 elInt w (· < w.heap.size) lv l) (hs : Sl 1 elInt w (· < w.heap.size) dv leads) :
    Calls Tryz.prog 3 #[.agg #[bv, wv, pv, .int .i64 c.over, .int .i64 c.done, .int .i64 c.need, ov, cv, .int .i64 t.quota, .int .i64 t.last, .int .i64 d.ovs, .int .i64 d.lead, .int .i64 d.step, ev, fv], lv, dv] w fun e w' => e = .returned (.bool true) ∧ Below w.heap.size w w' := by
  by_cases hin : inP c t d l leads
  · exact law_Plans_in c t d l leads bv wv pv ov cv ev fv lv dv w hg h ha hd hl hs hin
  · exact law_Plans_out c t d l leads bv wv pv ov cv ev fv lv dv w hg h ha hd hl hs hin
theorem law_TopPlans (c : Chs) (t : Att) (d : Dct) (bv wv pv ov cv ev fv : Value) (l : List Int) (lv : Value) (leads : List Int) (dv : Value) (w : World) (hg : GlobN w) (h : ChAt w (· < w.heap.size) bv wv pv ov c) (ha : Sl 1 elRw w (· < w.heap.size) cv t.costs) (hd : DtAt w (· < w.heap.size) ev fv d) (hl : Sl 1 elInt w (· < w.heap.size) lv l) (hs : Sl 1 elInt w (· < w.heap.size) dv leads) :
    Calls Tryz.prog 3 #[.agg #[bv, wv, pv, .int .i64 c.over, .int .i64 c.done, .int .i64 c.need, ov, cv, .int .i64 t.quota, .int .i64 t.last, .int .i64 d.ovs, .int .i64 d.lead, .int .i64 d.step, ev, fv], lv, dv] w fun e w' => e = .returned (.bool true) ∧ Below w.heap.size w w' :=
  law_Plans c t d l leads bv wv pv ov cv ev fv lv dv w hg h ha hd hl hs
end Go.Proofs.YtjchapoggmipbaaGreatDoor
