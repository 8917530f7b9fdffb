/- The contracts of the cursor (once C, C2, C3, C4). -/
import Derived.Test.YticfopjbaoigfaaGreatDoorT1
import Derived.Test.YticfopjbaoigfaaGreatDoorR
import Derived.Test.YticfopjbaoigfaaGreatDoorS1
set_option linter.unusedSimpArgs false
set_option linter.unusedVariables false
namespace Go.Proofs.YticfopjbaoigfaaGreatDoor
section
/-! part C -/
open Go.RowKit

def curCells (c : Cur) (fv : Value) : Array Value := #[.int .i64 c.num, fv, .int .i64 c.next, .int .i64 c.last, .int .i64 c.err, .int .i64 c.pos]
/-- The cursor c lies in block g; its fields in the blocks of F. -/
structure CurAt (w : World) (F : Nat → Prop) (g : Nat) (c : Cur) : Prop where
  ok : c.ok
  blk : ∃ fv, Blk w g 133 (curCells c fv) ∧ Sl 3 elFld w F fv c.fields
  foot : ∀ b, F b → b < w.heap.size ∧ b ≠ g
theorem CurAt.lt {w : World} {F : Nat → Prop} {g : Nat} {c : Cur} (h : CurAt w F g c) : g < w.heap.size := let ⟨_, hb, _⟩ := h.blk; hb.lt
theorem CurAt.keep {w w' : World} {F G : Nat → Prop} {g : Nat} {c : Cur} (h : CurAt w F g c) (hs : Same F w w') (hg : w'.heap[g]? = w.heap[g]?) (hz : w.heap.size ≤ w'.heap.size) : CurAt w' F g c := by
  obtain ⟨fv, hb, hf⟩ := h.blk
  exact ⟨h.ok, ⟨fv, hg.trans hb, hf.keep elFld_good hs fun _ h => h⟩, fun b hF => ⟨by have := (h.foot b hF).1; omega, (h.foot b hF).2⟩⟩
theorem CurAt.below {w w' : World} {F : Nat → Prop} {g : Nat} {c : Cur} (h : CurAt w F g c) (hb : Below w.heap.size w w') : CurAt w' F g c :=
  h.keep (G := F) (Same.below hb fun b hF => (h.foot b hF).1) (hb.block g h.lt) hb.size
/-- Behind writes into the cursor's own block. -/
theorem CurAt.wrote {w w' : World} {F : Nat → Prop} {g : Nat} {c c' : Cur} {fv : Value} (h : CurAt w F g c) (hf : Sl 3 elFld w F fv c.fields) (ho : Only g w w') (hb : Blk w' g 133 (curCells c' fv)) (hc : c'.fields = c.fields) (hok : c'.ok) : CurAt w' F g c' :=
  ⟨hok, ⟨fv, hb, by rw [hc]; exact hf.keep elFld_good (ho.same h.foot) fun _ h => h⟩, fun b hF => ⟨by have := (h.foot b hF).1; have := ho.size; omega, (h.foot b hF).2⟩⟩

set_option maxRecDepth 100000 in
set_option maxHeartbeats 1000000 in
theorem cur_fail (c : Cur) (e col : Int) (F : Nat → Prop) (g : Nat) (w : World) (h : CurAt w F g c) :
    Calls Tryz.prog 103 #[.pointer (some ⟨g, 0, none⟩), .int .i64 e, .int .i64 col] w fun x w' => x = .returned (.tuple #[]) ∧ CurAt w' F g (c.fail e col) ∧ Only g w w' := by
  obtain ⟨fv, hb, hf⟩ := h.blk
  have c4 : w.cell? ⟨g, 4, none⟩ = some (.int .i64 c.err) := hb.cell 4
  have c5 : w.cell? ⟨g, 5, none⟩ = some (.int .i64 c.pos) := hb.cell 5
  have f4 := hb.frozen 4
  have f5 := hb.frozen 5
  have H := Lib.hid h
  have HB := Lib.hid hb
  have HF := Lib.hid hf
  clear h hb hf
  by_cases he : c.err = 0
  · have e0 : (c.err == 0) = true := beq_iff_eq.2 he
    have HE := Lib.hid he
    clear he
    go_enter Tryz.func103, Tryz.ntmps103
    go_wp2
    go_end0
    have ho : Only g w ((w.setCell ⟨g, 4, none⟩ (.int .i64 e)).setCell ⟨g, 5, none⟩ (.int .i64 col)) := ((Only.refl g w).setCell (p := ⟨g, 4, none⟩) (.inl rfl) _).setCell (p := ⟨g, 5, none⟩) (.inl rfl) _
    refine ⟨rfl, H.out.wrote HF.out ho (c' := c.fail e col) ?_ (by unfold Cur.fail; rw [if_pos HE.out]) (Cur.fail_ok H.out.ok e col), ho⟩
    have := (HB.out.set_ 4 (.int .i64 e)).set_ 5 (.int .i64 col)
    unfold Cur.fail
    rw [if_pos HE.out]
    exact this
  · have e0 : (c.err == 0) = false := beq_eq_false_iff_ne.2 he
    have HE := Lib.hid he
    clear he
    go_enter Tryz.func103, Tryz.ntmps103
    go_wp2
    go_end0
    exact ⟨rfl, by unfold Cur.fail; rw [if_neg HE.out]; exact H.out, Only.refl _ _⟩

set_option maxRecDepth 100000 in
set_option maxHeartbeats 1000000 in
theorem cur_More (c : Cur) (F : Nat → Prop) (g : Nat) (w : World) (h : CurAt w F g c) :
    Calls Tryz.prog 104 #[.pointer (some ⟨g, 0, none⟩)] w fun x w' => x = .returned (.bool c.more) ∧ ∃ n, w' = w.drewN n := by
  obtain ⟨fv, hb, hf⟩ := h.blk
  obtain ⟨A, cp, rfl, hc1, hc2⟩ := hf.shape
  have c1 : w.cell? ⟨g, 1, none⟩ = some (.slice A c.fields.length cp) := hb.cell 1
  have c2 : w.cell? ⟨g, 2, none⟩ = some (.int .i64 c.next) := hb.cell 2
  have c4 : w.cell? ⟨g, 4, none⟩ = some (.int .i64 c.err) := hb.cell 4
  clear h hb hf
  by_cases he : c.err = 0
  · have e0 : (c.err == 0) = true := beq_iff_eq.2 he
    have HE := Lib.hid he
    clear he
    go_enter Tryz.func104, Tryz.ntmps104
    go_wp2
    go_quiet (fail)
    go_wp2
    go_ret
    refine ⟨ret_b ?_, _, rfl⟩
    unfold Cur.more
    rw [decide_eq_true HE.out]
    simp
  · have e0 : (c.err == 0) = false := beq_eq_false_iff_ne.2 he
    have HE := Lib.hid he
    clear he
    go_enter Tryz.func104, Tryz.ntmps104
    go_wp2
    go_quiet (fail)
    go_wp2
    go_ret
    refine ⟨ret_b ?_, _, rfl⟩
    unfold Cur.more
    rw [decide_eq_false HE.out]
    simp
end

section
/-! part C2 -/
open Go.RowKit

theorem CurAt.drewN {w : World} {F : Nat → Prop} {g : Nat} {c : Cur} (h : CurAt w F g c) (n : Nat) : CurAt (w.drewN n) F g c :=
  h.keep (G := F) (fun _ _ => rfl) rfl (Nat.le_refl _)
def ReadPost (w : World) (F : Nat → Prop) (g : Nat) (r : Cur × List UInt8 × Bool) (x : Ending) (w' : World) : Prop :=
  x = .returned (.tuple #[.string (S r.2.1), .bool r.2.2]) ∧ CurAt w' F g r.1 ∧ Only g w w'

set_option maxRecDepth 100000 in
set_option maxHeartbeats 2000000 in
theorem cur_read (c : Cur) (q : Bool) (F : Nat → Prop) (g : Nat) (w : World) (h : CurAt w F g c) :
    Calls Tryz.prog 102 #[.pointer (some ⟨g, 0, none⟩), .bool q] w (ReadPost w F g (c.read q)) := by
  obtain ⟨r, hr⟩ : ∃ r, r = c.read q := ⟨_, rfl⟩
  rw [← hr]
  unfold Cur.read at hr
  obtain ⟨fv, hb, hf⟩ := h.blk
  obtain ⟨A, cp, rfl, hc1, hc2⟩ := hf.shape
  have c1 : w.cell? ⟨g, 1, none⟩ = some (.slice A c.fields.length cp) := hb.cell 1
  have c2 : w.cell? ⟨g, 2, none⟩ = some (.int .i64 c.next) := hb.cell 2
  have c3 : w.cell? ⟨g, 3, none⟩ = some (.int .i64 c.last) := hb.cell 3
  have c4 : w.cell? ⟨g, 4, none⟩ = some (.int .i64 c.err) := hb.cell 4
  have f2 := hb.frozen 2
  have f3 := hb.frozen 3
  have hok : c.next ≤ c.fields.length := h.ok
  have H := Lib.hid h
  have HB := Lib.hid hb
  have HF := Lib.hid hf
  clear h hb hf
  by_cases he : c.err = 0
  · have e0 : (c.err != 0) = false := by rw [he]; rfl
    rw [if_pos he] at hr
    have HE := Lib.hid he
    clear he
    by_cases hlt : c.next < c.fields.length
    · have e1 : ((c.next : Int) == (c.fields.length : Int)) = false := beq_eq_false_iff_ne.2 (by omega)
      obtain ⟨b, o, cs, rfl, hF, hcl, hcc, hel⟩ := HF.out.at hlt
      rw [List.getElem?_eq_getElem hlt] at hr
      obtain ⟨⟨ft, fc, fq⟩, hfe⟩ : ∃ f, f = c.fields[c.next] := ⟨_, rfl⟩
      rw [← hfe] at hel hr
      clear hfe
      have hel' : cs = [.string (S ft), .int .i64 fc, .bool fq] := hel
      subst hel'
      have y0 : w.cell? ⟨b, o + c.next * 3, none⟩ = some (.string (S ft)) := hcc 0 _ rfl
      have y1 : w.cell? ⟨b, o + c.next * 3 + 1, none⟩ = some (.int .i64 fc) := hcc 1 _ rfl
      have y2 : w.cell? ⟨b, o + c.next * 3 + 2, none⟩ = some (.bool fq) := hcc 2 _ rfl
      have hbg := (H.out.foot b hF).2
      clear hcc hel hcl
      have HR := Lib.hid hr
      clear hr
      go_enter Tryz.func102, Tryz.ntmps102
      go_wp2
      go_quiet (fail)
      go_wp2
      generalize hwq : w.drewN _ = wq
      have hz : wq.heap.size = w.heap.size := by rw [← hwq]; rfl
      have hbl : b < wq.heap.size := by rw [hz]; exact (H.out.foot b hF).1
      have hgl : g < wq.heap.size := by rw [hz]; exact H.out.lt
      have d1 : wq.cell? ⟨g, 1, none⟩ = some (.slice (some ⟨b, o, none⟩) c.fields.length cp) := by rw [← hwq]; exact c1
      have d2 : wq.cell? ⟨g, 2, none⟩ = some (.int .i64 c.next) := by rw [← hwq]; exact c2
      have d3 : wq.cell? ⟨g, 3, none⟩ = some (.int .i64 c.last) := by rw [← hwq]; exact c3
      have z0 : wq.cell? ⟨b, o + c.next * 3, none⟩ = some (.string (S ft)) := by rw [← hwq]; exact y0
      have z1 : wq.cell? ⟨b, o + c.next * 3 + 1, none⟩ = some (.int .i64 fc) := by rw [← hwq]; exact y1
      have z2 : wq.cell? ⟨b, o + c.next * 3 + 2, none⟩ = some (.bool fq) := by rw [← hwq]; exact y2
      have g2 : wq.frozen? ⟨g, 2, none⟩ = false := by rw [← hwq]; exact f2
      have g3 : wq.frozen? ⟨g, 3, none⟩ = false := by rw [← hwq]; exact f3
      have HWQ := Lib.hid hwq
      clear hwq hz c1 c2 c3 c4 y0 y1 y2 f2 f3
      have d1a := (World.cell?_alloc_lt wq (Obj.cells #[.string ⟨#[]⟩, .int .i64 0, .bool false] 83) ⟨g, 1, none⟩ hgl).trans d1
      have d2a := (World.cell?_alloc_lt wq (Obj.cells #[.string ⟨#[]⟩, .int .i64 0, .bool false] 83) ⟨g, 2, none⟩ hgl).trans d2
      have z0a := (World.cell?_alloc_lt wq (Obj.cells #[.string ⟨#[]⟩, .int .i64 0, .bool false] 83) ⟨b, o + c.next * 3, none⟩ hbl).trans z0
      have z1a := (World.cell?_alloc_lt wq (Obj.cells #[.string ⟨#[]⟩, .int .i64 0, .bool false] 83) ⟨b, o + c.next * 3 + 1, none⟩ hbl).trans z1
      have z2a := (World.cell?_alloc_lt wq (Obj.cells #[.string ⟨#[]⟩, .int .i64 0, .bool false] 83) ⟨b, o + c.next * 3 + 2, none⟩ hbl).trans z2
      go_region
      generalize hW : World.drew _ = wx
      have hx : wx = (wq.alloc (Obj.cells #[.string (S ft), .int .i64 fc, .bool fq] 83)).drew := hW.symm
      clear hW
      have hox : Only g w wx := by
        rw [hx, ← HWQ.out]
        exact (((Only.refl g w).drewN _).alloc _).drew
      have hbx : Blk wx g 133 (curCells c (.slice (some ⟨b, o, none⟩) c.fields.length cp)) := by
        rw [hx, ← HWQ.out]
        exact Blk.alloc (w := w.drewN _) HB.out _
      have hnx : Blk wx wq.heap.size 83 #[.string (S ft), .int .i64 fc, .bool fq] := by
        rw [hx]; exact Blk.new wq _ _
      have hcx : CurAt wx F g c := by
        refine H.out.keep (G := F) (hox.same H.out.foot) ?_ hox.size
        rw [hbx]; exact HB.out.symm
      have HX := Lib.hid hox
      have HBX := Lib.hid hbx
      have HCX := Lib.hid hcx
      have x0 := hnx.cell 0
      have x1 := hnx.cell 1
      have x2 := hnx.cell 2
      have w2 : wx.cell? ⟨g, 2, none⟩ = some (.int .i64 c.next) := hbx.cell 2
      have w3 : wx.cell? ⟨g, 3, none⟩ = some (.int .i64 c.last) := hbx.cell 3
      have v2 := hbx.frozen 2
      have v3 := hbx.frozen 3
      simp only [List.getElem?_toArray, List.getElem?_cons_zero, List.getElem?_cons_succ] at x0 x1 x2
      clear hx hox hbx hnx hcx d1 d2 d3 z0 z1 z2 g2 g3 d1a d2a z0a z1a z2a
      rcases fq with _ | _ <;> rcases q with _ | _
      · skip
        have HR' := HR.out
        simp only [if_true] at HR'
        have HRR := Lib.hid HR'
        clear HR' HR
        go_wp2
        go_ret2
        have ho : Only g wx ((wx.setCell ⟨g, 2, none⟩ (.int .i64 ((c.next : Int) + 1))).setCell ⟨g, 3, none⟩ (.int .i64 fc)) := ((Only.refl g wx).setCell (p := ⟨g, 2, none⟩) (.inl rfl) _).setCell (p := ⟨g, 3, none⟩) (.inl rfl) _
        have hbf := (HBX.out.set_ 2 (.int .i64 ((c.next : Int) + 1))).set_ 3 (.int .i64 fc)
        rw [HRR.out]
        exact ⟨rfl, HCX.out.wrote (HF.out.keep elFld_good (HX.out.same H.out.foot) fun _ h => h) ho (c' := { c with next := c.next + 1, last := fc }) hbf rfl (by unfold Cur.ok; exact hlt), HX.out.trans ho⟩
      · skip
        have HR' := HR.out
        rw [if_neg (by simp)] at HR'
        have HRR := Lib.hid HR'
        clear HR' HR
        go_wp2_with (go_at_call 103; refine (cur_fail c 4 fc F g _ HCX.out).mono ?_; rintro e w2 ⟨rfl, hc2, ho2⟩)
        go_ret2
        rw [HRR.out]
        exact ⟨rfl, hc2, HX.out.trans ho2⟩
      · skip
        have HR' := HR.out
        rw [if_neg (by simp)] at HR'
        have HRR := Lib.hid HR'
        clear HR' HR
        go_wp2_with (go_at_call 103; refine (cur_fail c 4 fc F g _ HCX.out).mono ?_; rintro e w2 ⟨rfl, hc2, ho2⟩)
        go_ret2
        rw [HRR.out]
        exact ⟨rfl, hc2, HX.out.trans ho2⟩
      · skip
        have HR' := HR.out
        simp only [if_true] at HR'
        have HRR := Lib.hid HR'
        clear HR' HR
        go_wp2
        go_ret2
        have ho : Only g wx ((wx.setCell ⟨g, 2, none⟩ (.int .i64 ((c.next : Int) + 1))).setCell ⟨g, 3, none⟩ (.int .i64 fc)) := ((Only.refl g wx).setCell (p := ⟨g, 2, none⟩) (.inl rfl) _).setCell (p := ⟨g, 3, none⟩) (.inl rfl) _
        have hbf := (HBX.out.set_ 2 (.int .i64 ((c.next : Int) + 1))).set_ 3 (.int .i64 fc)
        rw [HRR.out]
        exact ⟨rfl, HCX.out.wrote (HF.out.keep elFld_good (HX.out.same H.out.foot) fun _ h => h) ho (c' := { c with next := c.next + 1, last := fc }) hbf rfl (by unfold Cur.ok; exact hlt), HX.out.trans ho⟩
    · have e1 : ((c.next : Int) == (c.fields.length : Int)) = true := beq_iff_eq.2 (by omega)
      rw [List.getElem?_eq_none (by omega)] at hr
      have HR := Lib.hid hr
      clear hr
      go_enter Tryz.func102, Tryz.ntmps102
      go_wp2
      go_quiet (fail)
      go_wp2_with (go_at_call 103; refine (cur_fail c 4 0 F g _ (H.out.drewN _)).mono ?_; rintro e w2 ⟨rfl, hc2, ho2⟩)
      go_ret2
      rw [HR.out]
      exact ⟨rfl, hc2, ((Only.refl g w).drewN _).trans ho2⟩
  · have e0 : (c.err != 0) = true := by rw [bne_iff_ne]; exact he
    rw [if_neg he] at hr
    have HR := Lib.hid hr
    clear hr he
    go_enter Tryz.func102, Tryz.ntmps102
    go_wp2
    go_ret2
    rw [HR.out]
    exact ⟨rfl, H.out, Only.refl _ _⟩
end

section
/-! part C3 -/
open Go.RowKit

theorem CurAt.last {w : World} {F : Nat → Prop} {g : Nat} {c : Cur} (h : CurAt w F g c) : w.cell? ⟨g, 3, none⟩ = some (.int .i64 c.last) := let ⟨_, hb, _⟩ := h.blk; hb.cell 3
def KeyPost (w : World) (F : Nat → Prop) (g : Nat) (r : Cur × Bool) (x : Ending) (w' : World) : Prop := x = .returned (.bool r.2) ∧ CurAt w' F g r.1 ∧ Only g w w'
def StrCur (w : World) (F : Nat → Prop) (g : Nat) (r : Cur × List UInt8) (x : Ending) (w' : World) : Prop := x = .returned (.string (S r.2)) ∧ CurAt w' F g r.1 ∧ Only g w w'
def IntCur (w : World) (F : Nat → Prop) (g : Nat) (r : Cur × Int) (x : Ending) (w' : World) : Prop := x = .returned (.int .i64 r.2) ∧ CurAt w' F g r.1 ∧ Only g w w'

set_option maxRecDepth 100000 in
set_option maxHeartbeats 2000000 in
theorem cur_Ident (c : Cur) (F : Nat → Prop) (g : Nat) (w : World) (h : CurAt w F g c) (hlen : ∀ f ∈ c.fields, f.text.length ≤ 1000000000) :
    Calls Tryz.prog 68 #[.pointer (some ⟨g, 0, none⟩)] w (StrCur w F g c.ident) := by
  obtain ⟨q, hq⟩ : ∃ q, q = c.ident := ⟨_, rfl⟩
  rw [← hq]
  unfold Cur.ident at hq
  have hrd := cur_read c false F g w h
  have htl := Cur.read_text c false hlen
  obtain ⟨⟨c', t, ok⟩, hr⟩ : ∃ r, r = c.read false := ⟨_, rfl⟩
  rw [← hr] at hrd hq htl
  have HRD := Lib.hid hrd
  have HQ := Lib.hid hq
  clear hrd hr hq h hlen
  dsimp only at htl
  cases ok
  · go_enter Tryz.func68, Tryz.ntmps68
    go_wp2_with (go_at_call 102; refine HRD.out.mono ?_; rintro e w2 ⟨rfl, hc2, ho2⟩)
    go_ret
    rw [HQ.out, if_neg (by simp)]
    exact ⟨rfl, hc2, ho2⟩
  · cases hn : nameS t
    · have HN := Lib.hid hn
      go_enter Tryz.func68, Tryz.ntmps68
      go_wp2_with (first | (go_at_call 102; refine HRD.out.mono ?_; rintro e w2 ⟨rfl, hc2, ho2⟩; have HC2 := Lib.hid hc2; clear hc2) | (go_at_call 41; refine (text_Name (S t) _ (by simp only [S_size, maxLen]; omega)).mono ?_; rintro e w3 ⟨rfl, hb3⟩; have hc3 := HC2.out.below hb3; have c3 := hc3.last; have HC3 := Lib.hid hc3; clear hc3) | (go_at_call 103; refine (cur_fail c' 5 c'.last F g _ HC3.out).mono ?_; rintro e w4 ⟨rfl, hc4, ho4⟩))
      go_ret
      rw [HQ.out, if_pos ⟨trivial, HN.out⟩]
      exact ⟨rfl, hc4, (ho2.trans (Only.of_below hb3)).trans ho4⟩
    · have HN := Lib.hid hn
      go_enter Tryz.func68, Tryz.ntmps68
      go_wp2_with (first | (go_at_call 102; refine HRD.out.mono ?_; rintro e w2 ⟨rfl, hc2, ho2⟩; have HC2 := Lib.hid hc2; clear hc2) | (go_at_call 41; refine (text_Name (S t) _ (by simp only [S_size, maxLen]; omega)).mono ?_; rintro e w3 ⟨rfl, hb3⟩))
      go_ret
      rw [HQ.out, if_neg (by rw [HN.out]; simp)]
      exact ⟨rfl, HC2.out.below hb3, ho2.trans (Only.of_below hb3)⟩

set_option maxRecDepth 100000 in
set_option maxHeartbeats 2000000 in
theorem cur_Reject (c : Cur) (n : Int) (F : Nat → Prop) (g : Nat) (w : World) (h : CurAt w F g c) :
    Calls Tryz.prog 72 #[.pointer (some ⟨g, 0, none⟩), .int .i64 n] w fun x w' => x = .returned (.tuple #[]) ∧ CurAt w' F g (c.reject n) ∧ Only g w w' := by
  have c3 := h.last
  have H := Lib.hid h
  clear h
  by_cases hn : n = 0
  · have e0 : (n != 0) = false := by rw [hn]; rfl
    have HN := Lib.hid hn
    clear hn
    go_enter Tryz.func72, Tryz.ntmps72
    go_wp2
    go_end0
    exact ⟨rfl, by unfold Cur.reject; rw [if_pos HN.out]; exact H.out, Only.refl _ _⟩
  · have e0 : (n != 0) = true := by rw [bne_iff_ne]; exact hn
    have HN := Lib.hid hn
    clear hn
    go_enter Tryz.func72, Tryz.ntmps72
    go_wp2_with (go_at_call 103; refine (cur_fail c n c.last F g _ H.out).mono ?_; rintro e w2 ⟨rfl, hc2, ho2⟩)
    go_end0
    exact ⟨rfl, by unfold Cur.reject; rw [if_neg HN.out]; exact hc2, ho2⟩
end

section
/-! part C4 -/
open Go.RowKit

def closeV : Option Dia → Value
  | some d => .tuple #[.agg #[.int .i64 d.line, .int .i64 d.col, .int .i64 d.code], .bool true]
  | none => .tuple #[.agg #[.int .i64 0, .int .i64 0, .int .i64 0], .bool false]
@[go_sem] theorem build_dia0 (w : World) : (Instr.build 52 #[]).run Tryz.prog w = .ok (.agg #[.int .i64 0, .int .i64 0, .int .i64 0]) w := run_build w 52 _ _ (by kernel_rfl)

set_option maxRecDepth 100000 in
set_option maxHeartbeats 2000000 in
theorem cur_Close (c : Cur) (F : Nat → Prop) (g : Nat) (w : World) (h : CurAt w F g c) :
    Calls Tryz.prog 70 #[.pointer (some ⟨g, 0, none⟩)] w fun x w' => x = .returned (closeV c.close) ∧ Below w.heap.size w w' := by
  obtain ⟨q, hq⟩ : ∃ q, q = c.close := ⟨_, rfl⟩
  rw [← hq]
  unfold Cur.close at hq
  obtain ⟨fv, hb, hf⟩ := h.blk
  obtain ⟨A, cp, rfl, hc1, hc2⟩ := hf.shape
  have hgl := h.lt
  have HFO := Lib.hid fun b hF => (h.foot b hF).1
  have hcur0 := h.below ((Below.refl w.heap.size w).alloc (Nat.le_refl _) (Obj.cells #[.int .i64 0, .int .i64 0, .int .i64 0] 52))
  have hb0 : Blk (w.alloc (Obj.cells #[.int .i64 0, .int .i64 0, .int .i64 0] 52)) g 133 (curCells c (.slice A c.fields.length cp)) := hb.alloc _
  have c0 : (w.alloc (Obj.cells #[.int .i64 0, .int .i64 0, .int .i64 0] 52)).cell? ⟨g, 0, none⟩ = some (.int .i64 c.num) := hb0.cell 0
  have c1 : (w.alloc (Obj.cells #[.int .i64 0, .int .i64 0, .int .i64 0] 52)).cell? ⟨g, 1, none⟩ = some (.slice A c.fields.length cp) := hb0.cell 1
  have c2 : (w.alloc (Obj.cells #[.int .i64 0, .int .i64 0, .int .i64 0] 52)).cell? ⟨g, 2, none⟩ = some (.int .i64 c.next) := hb0.cell 2
  have c4 : (w.alloc (Obj.cells #[.int .i64 0, .int .i64 0, .int .i64 0] 52)).cell? ⟨g, 4, none⟩ = some (.int .i64 c.err) := hb0.cell 4
  have c5 : (w.alloc (Obj.cells #[.int .i64 0, .int .i64 0, .int .i64 0] 52)).cell? ⟨g, 5, none⟩ = some (.int .i64 c.pos) := hb0.cell 5
  have HC0 := Lib.hid hcur0
  have HB0 := Lib.hid hb0
  have HF := Lib.hid hf
  have hok : c.next ≤ c.fields.length := h.ok
  clear hcur0 hb0 hf hb h
  by_cases he : c.err = 0
  · have e0 : (c.err != 0) = false := by rw [he]; rfl
    rw [if_neg (fun h => h he)] at hq
    have HE := Lib.hid he
    have HQ := Lib.hid hq
    clear he hq
    by_cases hlt : c.next < c.fields.length
    · have hm : c.more = true := by unfold Cur.more; rw [decide_eq_true HE.out, decide_eq_true hlt]; rfl
      have HM := Lib.hid hm
      clear hm
      obtain ⟨b, o, cs, rfl, hF, hcl, hcc, hel⟩ := HF.out.at hlt
      obtain ⟨⟨ft, fc, fq⟩, hfe⟩ : ∃ f, f = c.fields[c.next] := ⟨_, rfl⟩
      have HQ' := HQ.out
      rw [List.getElem?_eq_getElem hlt, ← hfe] at HQ'
      rw [← hfe] at hel
      have hel' : cs = [.string (S ft), .int .i64 fc, .bool fq] := hel
      subst hel'
      have y1 : (w.alloc (Obj.cells #[.int .i64 0, .int .i64 0, .int .i64 0] 52)).cell? ⟨b, o + c.next * 3 + 1, none⟩ = some (.int .i64 fc) := (World.cell?_alloc_lt w _ ⟨b, o + c.next * 3 + 1, none⟩ (by have := (HFO.out b hF); exact this)).trans (hcc 1 _ rfl)
      have HQF := Lib.hid HQ'
      clear hfe HQ' HQ hcc hel hcl
      go_enter Tryz.func70, Tryz.ntmps70
      go_wp2_with (go_at_call 104; refine (cur_More c F g _ HC0.out).mono ?_; rintro e w2 ⟨rfl, n, rfl⟩; rw [HM.out])
      go_region
      go_wp2
      refine bodyPost_ret (v := .tuple #[.agg #[.int .i64 c.num, .int .i64 fc, .int .i64 4], .bool true]) (by simp [results, Tryz.results70, go_sem]) rfl ⟨?_, ?_⟩
      · rw [HQF.out]; rfl
      · (repeat (first | exact Below.refl _ _ | refine Below.setCell ?_ (by simp) _ | refine Below.drewN_ ?_ _ | refine Below.drew ?_ | refine Below.alloc ?_ (by simp) _))
    · have hm : c.more = false := by unfold Cur.more; rw [decide_eq_false hlt, Bool.and_false]
      have HM := Lib.hid hm
      clear hm
      go_enter Tryz.func70, Tryz.ntmps70
      go_wp2_with (go_at_call 104; refine (cur_More c F g _ HC0.out).mono ?_; rintro e w2 ⟨rfl, n, rfl⟩; rw [HM.out])
      refine bodyPost_ret (v := .tuple #[.agg #[.int .i64 0, .int .i64 0, .int .i64 0], .bool false]) (by simp [results, Tryz.results70, go_sem]) rfl ⟨?_, ?_⟩
      · have := HQ.out
        rw [List.getElem?_eq_none (by omega)] at this
        rw [this]; rfl
      · (repeat (first | exact Below.refl _ _ | refine Below.setCell ?_ (by simp) _ | refine Below.drewN_ ?_ _ | refine Below.drew ?_ | refine Below.alloc ?_ (by simp) _))
  · have e0 : (c.err != 0) = true := by rw [bne_iff_ne]; exact he
    rw [if_pos he] at hq
    have HQ := Lib.hid hq
    clear hq he
    go_enter Tryz.func70, Tryz.ntmps70
    go_wp2
    go_region
    go_wp2
    refine bodyPost_ret (v := .tuple #[.agg #[.int .i64 c.num, .int .i64 c.pos, .int .i64 c.err], .bool true]) (by simp [results, Tryz.results70, go_sem]) rfl ⟨?_, ?_⟩
    · rw [HQ.out]; rfl
    · exact (((Below.refl _ _).alloc (Nat.le_refl _) _).drew)
end
end Go.Proofs.YticfopjbaoigfaaGreatDoor
