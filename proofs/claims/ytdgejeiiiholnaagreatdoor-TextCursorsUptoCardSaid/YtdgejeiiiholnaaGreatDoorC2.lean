/- The contract of the cursor's read. -/
import Derived.Test.YtdgejeiiiholnaaGreatDoorC
set_option linter.unusedSimpArgs false
set_option linter.unusedVariables false
namespace Go.Proofs.YtdgejeiiiholnaaGreatDoor
open Go.RowKit

theorem CurAt.drewN {w : World} {F : Nat → Prop} {g : Nat} {c : Cur} (h : CurAt w F g c) (n : Nat) : CurAt (w.drewN n) F g c :=
  h.keep (G := F) (fun _ _ => rfl) rfl (Nat.le_refl _)
def ReadPost (w : World) (F : Nat → Prop) (g : Nat) (r : Cur × List UInt8 × Bool) (x : Ending) (w' : World) : Prop :=
  x = .returned (.tuple #[.string (S r.2.1), .bool r.2.2]) ∧ CurAt w' F g r.1 ∧ Only g w w'

set_option maxRecDepth 100000 in
set_option maxHeartbeats 2000000 in
theorem cur_read (c : Cur) (q : Bool) (F : Nat → Prop) (g : Nat) (w : World) (h : CurAt w F g c) :
    Calls Tryz.prog 63 #[.pointer (some ⟨g, 0, none⟩), .bool q] w (ReadPost w F g (c.read q)) := by
  obtain ⟨r, hr⟩ : ∃ r, r = c.read q := ⟨_, rfl⟩
  rw [← hr]
  unfold Cur.read at hr
  obtain ⟨fv, hb, hf⟩ := h.blk
  obtain ⟨A, cp, rfl, hc1, hc2⟩ := hf.shape
  have c1 : w.cell? ⟨g, 1, none⟩ = some (.slice A c.fields.length cp) := hb.cell 1
  have c2 : w.cell? ⟨g, 2, none⟩ = some (.int .i64 c.next) := hb.cell 2
  have c3 : w.cell? ⟨g, 3, none⟩ = some (.int .i64 c.last) := hb.cell 3
  have c4 : w.cell? ⟨g, 4, none⟩ = some (.int .i64 c.err) := hb.cell 4
  have f2 := hb.frozen 2
  have f3 := hb.frozen 3
  have hok : c.next ≤ c.fields.length := h.ok
  have H := Lib.hid h
  have HB := Lib.hid hb
  have HF := Lib.hid hf
  clear h hb hf
  by_cases he : c.err = 0
  · have e0 : (c.err != 0) = false := by rw [he]; rfl
    rw [if_pos he] at hr
    have HE := Lib.hid he
    clear he
    by_cases hlt : c.next < c.fields.length
    · have e1 : ((c.next : Int) == (c.fields.length : Int)) = false := beq_eq_false_iff_ne.2 (by omega)
      obtain ⟨b, o, cs, rfl, hF, hcl, hcc, hel⟩ := HF.out.at hlt
      rw [List.getElem?_eq_getElem hlt] at hr
      obtain ⟨⟨ft, fc, fq⟩, hfe⟩ : ∃ f, f = c.fields[c.next] := ⟨_, rfl⟩
      rw [← hfe] at hel hr
      clear hfe
      have hel' : cs = [.string (S ft), .int .i64 fc, .bool fq] := hel
      subst hel'
      have y0 : w.cell? ⟨b, o + c.next * 3, none⟩ = some (.string (S ft)) := hcc 0 _ rfl
      have y1 : w.cell? ⟨b, o + c.next * 3 + 1, none⟩ = some (.int .i64 fc) := hcc 1 _ rfl
      have y2 : w.cell? ⟨b, o + c.next * 3 + 2, none⟩ = some (.bool fq) := hcc 2 _ rfl
      have hbg := (H.out.foot b hF).2
      clear hcc hel hcl
      have HR := Lib.hid hr
      clear hr
      go_enter Tryz.func63, Tryz.ntmps63
      go_wp2
      go_quiet (fail)
      go_wp2
      generalize hwq : w.drewN _ = wq
      have hz : wq.heap.size = w.heap.size := by rw [← hwq]; rfl
      have hbl : b < wq.heap.size := by rw [hz]; exact (H.out.foot b hF).1
      have hgl : g < wq.heap.size := by rw [hz]; exact H.out.lt
      have d1 : wq.cell? ⟨g, 1, none⟩ = some (.slice (some ⟨b, o, none⟩) c.fields.length cp) := by rw [← hwq]; exact c1
      have d2 : wq.cell? ⟨g, 2, none⟩ = some (.int .i64 c.next) := by rw [← hwq]; exact c2
      have d3 : wq.cell? ⟨g, 3, none⟩ = some (.int .i64 c.last) := by rw [← hwq]; exact c3
      have z0 : wq.cell? ⟨b, o + c.next * 3, none⟩ = some (.string (S ft)) := by rw [← hwq]; exact y0
      have z1 : wq.cell? ⟨b, o + c.next * 3 + 1, none⟩ = some (.int .i64 fc) := by rw [← hwq]; exact y1
      have z2 : wq.cell? ⟨b, o + c.next * 3 + 2, none⟩ = some (.bool fq) := by rw [← hwq]; exact y2
      have g2 : wq.frozen? ⟨g, 2, none⟩ = false := by rw [← hwq]; exact f2
      have g3 : wq.frozen? ⟨g, 3, none⟩ = false := by rw [← hwq]; exact f3
      have HWQ := Lib.hid hwq
      clear hwq hz c1 c2 c3 c4 y0 y1 y2 f2 f3
      have d1a := (World.cell?_alloc_lt wq (Obj.cells #[.string ⟨#[]⟩, .int .i64 0, .bool false] 33) ⟨g, 1, none⟩ hgl).trans d1
      have d2a := (World.cell?_alloc_lt wq (Obj.cells #[.string ⟨#[]⟩, .int .i64 0, .bool false] 33) ⟨g, 2, none⟩ hgl).trans d2
      have z0a := (World.cell?_alloc_lt wq (Obj.cells #[.string ⟨#[]⟩, .int .i64 0, .bool false] 33) ⟨b, o + c.next * 3, none⟩ hbl).trans z0
      have z1a := (World.cell?_alloc_lt wq (Obj.cells #[.string ⟨#[]⟩, .int .i64 0, .bool false] 33) ⟨b, o + c.next * 3 + 1, none⟩ hbl).trans z1
      have z2a := (World.cell?_alloc_lt wq (Obj.cells #[.string ⟨#[]⟩, .int .i64 0, .bool false] 33) ⟨b, o + c.next * 3 + 2, none⟩ hbl).trans z2
      go_region
      generalize hW : World.drew _ = wx
      have hx : wx = (wq.alloc (Obj.cells #[.string (S ft), .int .i64 fc, .bool fq] 33)).drew := hW.symm
      clear hW
      have hox : Only g w wx := by
        rw [hx, ← HWQ.out]
        exact (((Only.refl g w).drewN _).alloc _).drew
      have hbx : Blk wx g 82 (curCells c (.slice (some ⟨b, o, none⟩) c.fields.length cp)) := by
        rw [hx, ← HWQ.out]
        exact Blk.alloc (w := w.drewN _) HB.out _
      have hnx : Blk wx wq.heap.size 33 #[.string (S ft), .int .i64 fc, .bool fq] := by
        rw [hx]; exact Blk.new wq _ _
      have hcx : CurAt wx F g c := by
        refine H.out.keep (G := F) (hox.same H.out.foot) ?_ hox.size
        rw [hbx]; exact HB.out.symm
      have HX := Lib.hid hox
      have HBX := Lib.hid hbx
      have HCX := Lib.hid hcx
      have x0 := hnx.cell 0
      have x1 := hnx.cell 1
      have x2 := hnx.cell 2
      have w2 : wx.cell? ⟨g, 2, none⟩ = some (.int .i64 c.next) := hbx.cell 2
      have w3 : wx.cell? ⟨g, 3, none⟩ = some (.int .i64 c.last) := hbx.cell 3
      have v2 := hbx.frozen 2
      have v3 := hbx.frozen 3
      simp only [List.getElem?_toArray, List.getElem?_cons_zero, List.getElem?_cons_succ] at x0 x1 x2
      clear hx hox hbx hnx hcx d1 d2 d3 z0 z1 z2 g2 g3 d1a d2a z0a z1a z2a
      rcases fq with _ | _ <;> rcases q with _ | _
      · skip
        have HR' := HR.out
        simp only [if_true] at HR'
        have HRR := Lib.hid HR'
        clear HR' HR
        go_wp2
        go_ret2
        have ho : Only g wx ((wx.setCell ⟨g, 2, none⟩ (.int .i64 ((c.next : Int) + 1))).setCell ⟨g, 3, none⟩ (.int .i64 fc)) := ((Only.refl g wx).setCell (p := ⟨g, 2, none⟩) (.inl rfl) _).setCell (p := ⟨g, 3, none⟩) (.inl rfl) _
        have hbf := (HBX.out.set_ 2 (.int .i64 ((c.next : Int) + 1))).set_ 3 (.int .i64 fc)
        rw [HRR.out]
        exact ⟨rfl, HCX.out.wrote (HF.out.keep elFld_good (HX.out.same H.out.foot) fun _ h => h) ho (c' := { c with next := c.next + 1, last := fc }) hbf rfl (by unfold Cur.ok; exact hlt), HX.out.trans ho⟩
      · skip
        have HR' := HR.out
        rw [if_neg (by simp)] at HR'
        have HRR := Lib.hid HR'
        clear HR' HR
        go_wp2_with (go_at_call 62; refine (cur_fail c 4 fc F g _ HCX.out).mono ?_; rintro e w2 ⟨rfl, hc2, ho2⟩)
        go_ret2
        rw [HRR.out]
        exact ⟨rfl, hc2, HX.out.trans ho2⟩
      · skip
        have HR' := HR.out
        rw [if_neg (by simp)] at HR'
        have HRR := Lib.hid HR'
        clear HR' HR
        go_wp2_with (go_at_call 62; refine (cur_fail c 4 fc F g _ HCX.out).mono ?_; rintro e w2 ⟨rfl, hc2, ho2⟩)
        go_ret2
        rw [HRR.out]
        exact ⟨rfl, hc2, HX.out.trans ho2⟩
      · skip
        have HR' := HR.out
        simp only [if_true] at HR'
        have HRR := Lib.hid HR'
        clear HR' HR
        go_wp2
        go_ret2
        have ho : Only g wx ((wx.setCell ⟨g, 2, none⟩ (.int .i64 ((c.next : Int) + 1))).setCell ⟨g, 3, none⟩ (.int .i64 fc)) := ((Only.refl g wx).setCell (p := ⟨g, 2, none⟩) (.inl rfl) _).setCell (p := ⟨g, 3, none⟩) (.inl rfl) _
        have hbf := (HBX.out.set_ 2 (.int .i64 ((c.next : Int) + 1))).set_ 3 (.int .i64 fc)
        rw [HRR.out]
        exact ⟨rfl, HCX.out.wrote (HF.out.keep elFld_good (HX.out.same H.out.foot) fun _ h => h) ho (c' := { c with next := c.next + 1, last := fc }) hbf rfl (by unfold Cur.ok; exact hlt), HX.out.trans ho⟩
    · have e1 : ((c.next : Int) == (c.fields.length : Int)) = true := beq_iff_eq.2 (by omega)
      rw [List.getElem?_eq_none (by omega)] at hr
      have HR := Lib.hid hr
      clear hr
      go_enter Tryz.func63, Tryz.ntmps63
      go_wp2
      go_quiet (fail)
      go_wp2_with (go_at_call 62; refine (cur_fail c 4 0 F g _ (H.out.drewN _)).mono ?_; rintro e w2 ⟨rfl, hc2, ho2⟩)
      go_ret2
      rw [HR.out]
      exact ⟨rfl, hc2, ((Only.refl g w).drewN _).trans ho2⟩
  · have e0 : (c.err != 0) = true := by rw [bne_iff_ne]; exact he
    rw [if_neg he] at hr
    have HR := Lib.hid hr
    clear hr he
    go_enter Tryz.func63, Tryz.ntmps63
    go_wp2
    go_ret2
    rw [HR.out]
    exact ⟨rfl, H.out, Only.refl _ _⟩
end Go.Proofs.YtdgejeiiiholnaaGreatDoor
