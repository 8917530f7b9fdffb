/- Several texts of this family in one: S1 C A A2 T3 T4 T6 QG U11 T5 T7 N3 O2 U1 U3. -/
import Derived.Test.YtglkejlimeakbaaGreatDoorGQ0
import Derived.Deep.RegionLaw
import Derived.Shelf.Strings.Builder1
import Derived.Lib.OthersKept
import Derived.Lib.AtoiErrMem
import Derived.Shelf.Strings.SlTrimAscii
import Derived.Lib.AppendIntMem
import Derived.Lib.Repeat
import Derived.Deep.QuietTactic
import Derived.IntWalk
import Derived.BigQuiet
set_option linter.unusedSimpArgs false
set_option linter.unusedVariables false
namespace Go.Proofs.YtglkejlimeakbaaGreatDoor
open Go.RowKit

theorem idxFromS_eq (x : ByteArray) : ∀ (l : List (List UInt8)) (i : Nat), Lib.idxFromS (l.map S) x i = indexF x.data.toList l i := by
  intro l
  induction l with
  | nil => intro i; rfl
  | cons a l ih =>
    intro i
    rw [List.map_cons, Lib.idxFromS, indexF, ih]
    have : (S a = x) = (a = x.data.toList) := by
      apply propext
      constructor
      · rintro rfl; simp
      · rintro rfl; rfl
    simp only [this]
theorem strs_cells {w : World} {F : Nat → Prop} {b o n c : Nat} {l : List (List UInt8)} (h : Sl 1 elStr w F (.slice (some ⟨b, o, none⟩) n c) l) : ∀ j, j < (l.map S).length → w.cell? ⟨b, o + j, none⟩ = some (.string ((l.map S).getD j ByteArray.empty)) := by
  intro j hj
  have hj' : j < l.length := by simpa using hj
  obtain ⟨b', o', h1, _, h2⟩ := h.str_at hj'
  simp only [Option.some.injEq, Addr.mk.injEq] at h1
  obtain ⟨rfl, rfl, _⟩ := h1
  rw [h2]
  simp [List.getD, List.getElem?_map, List.getElem?_eq_getElem hj']
theorem Sl.empty_or {α : Type} {size : Nat} {R : World → (Nat → Prop) → List Value → α → Prop} {w : World} {F : Nat → Prop} {v : Value} {l : List α} (h : Sl size R w F v l) :
    (l = [] ∧ ∃ A c, v = .slice A 0 c) ∨ ∃ b o c, v = .slice (some ⟨b, o, none⟩) l.length c ∧ l.length ≤ 9223372036854775807 ∧ 0 < l.length := by
  obtain ⟨A, c, rfl, hl, hc, hA⟩ := h
  by_cases h0 : 0 < l.length
  · obtain ⟨b, o, rfl, _⟩ := hA h0
    exact .inr ⟨b, o, c, rfl, by unfold maxLen at hc; omega, h0⟩
  · have : l = [] := List.eq_nil_of_length_eq_zero (by omega)
    subst this
    exact .inl ⟨rfl, A, c, rfl⟩
theorem str_Index (v : Value) (l : List (List UInt8)) (x : ByteArray) (F : Nat → Prop) (w : World) (h : Sl 1 elStr w F v l) :
    Calls Tryz.prog 108 #[v, .string x] w fun e w' => e = .returned (.int .i64 (indexS l x.data.toList)) ∧ w = w' := by
  rcases h.empty_or with ⟨rfl, A, c, rfl⟩ | ⟨b, o, c, rfl, hn, h0⟩
  · refine (Tryz.slices_Index_string_empty A c x w).mono ?_
    rintro e w' ⟨rfl, rfl⟩
    exact ⟨rfl, rfl⟩
  · refine (Tryz.slices_Index_string b o l.length c (l.map S) x w (by simp) hn (strs_cells h)).mono ?_
    rintro e w' ⟨rfl, rfl⟩
    refine ⟨?_, rfl⟩
    rw [List.take_of_length_le (by simp), Lib.idxOfS, idxFromS_eq]; rfl
end Go.Proofs.YtglkejlimeakbaaGreatDoor

namespace Go.Proofs.YtglkejlimeakbaaGreatDoor
section
/-! part C -/
open Go.RowKit

def curCells (c : Cur) (fv : Value) : Array Value := #[.int .i64 c.num, fv, .int .i64 c.next, .int .i64 c.last, .int .i64 c.err, .int .i64 c.pos]
/-- The cursor c lies in block g; its fields in the blocks of F. -/
structure CurAt (w : World) (F : Nat → Prop) (g : Nat) (c : Cur) : Prop where
  ok : c.ok
  blk : ∃ fv, Blk w g 101 (curCells c fv) ∧ Sl 3 elFld w F fv c.fields
  foot : ∀ b, F b → b < w.heap.size ∧ b ≠ g
theorem CurAt.lt {w : World} {F : Nat → Prop} {g : Nat} {c : Cur} (h : CurAt w F g c) : g < w.heap.size := let ⟨_, hb, _⟩ := h.blk; hb.lt
theorem CurAt.keep {w w' : World} {F G : Nat → Prop} {g : Nat} {c : Cur} (h : CurAt w F g c) (hs : Same F w w') (hg : w'.heap[g]? = w.heap[g]?) (hz : w.heap.size ≤ w'.heap.size) : CurAt w' F g c := by
  obtain ⟨fv, hb, hf⟩ := h.blk
  exact ⟨h.ok, ⟨fv, hg.trans hb, hf.keep elFld_good hs fun _ h => h⟩, fun b hF => ⟨by have := (h.foot b hF).1; omega, (h.foot b hF).2⟩⟩
theorem CurAt.below {w w' : World} {F : Nat → Prop} {g : Nat} {c : Cur} (h : CurAt w F g c) (hb : Below w.heap.size w w') : CurAt w' F g c :=
  h.keep (G := F) (Same.below hb fun b hF => (h.foot b hF).1) (hb.block g h.lt) hb.size
/-- Behind writes into the cursor's own block. -/
theorem CurAt.wrote {w w' : World} {F : Nat → Prop} {g : Nat} {c c' : Cur} {fv : Value} (h : CurAt w F g c) (hf : Sl 3 elFld w F fv c.fields) (ho : Only g w w') (hb : Blk w' g 101 (curCells c' fv)) (hc : c'.fields = c.fields) (hok : c'.ok) : CurAt w' F g c' :=
  ⟨hok, ⟨fv, hb, by rw [hc]; exact hf.keep elFld_good (ho.same h.foot) fun _ h => h⟩, fun b hF => ⟨by have := (h.foot b hF).1; have := ho.size; omega, (h.foot b hF).2⟩⟩

set_option maxRecDepth 100000 in
set_option maxHeartbeats 1000000 in
theorem cur_fail (c : Cur) (e col : Int) (F : Nat → Prop) (g : Nat) (w : World) (h : CurAt w F g c) :
    Calls Tryz.prog 107 #[.pointer (some ⟨g, 0, none⟩), .int .i64 e, .int .i64 col] w fun x w' => x = .returned (.tuple #[]) ∧ CurAt w' F g (c.fail e col) ∧ Only g w w' := by
  obtain ⟨fv, hb, hf⟩ := h.blk
  have c4 : w.cell? ⟨g, 4, none⟩ = some (.int .i64 c.err) := hb.cell 4
  have c5 : w.cell? ⟨g, 5, none⟩ = some (.int .i64 c.pos) := hb.cell 5
  have f4 := hb.frozen 4
  have f5 := hb.frozen 5
  have H := Lib.hid h
  have HB := Lib.hid hb
  have HF := Lib.hid hf
  clear h hb hf
  by_cases he : c.err = 0
  · have e0 : (c.err == 0) = true := beq_iff_eq.2 he
    have HE := Lib.hid he
    clear he
    go_enter Tryz.func107, Tryz.ntmps107
    go_wp2
    go_end0
    have ho : Only g w ((w.setCell ⟨g, 4, none⟩ (.int .i64 e)).setCell ⟨g, 5, none⟩ (.int .i64 col)) := ((Only.refl g w).setCell (p := ⟨g, 4, none⟩) (.inl rfl) _).setCell (p := ⟨g, 5, none⟩) (.inl rfl) _
    refine ⟨rfl, H.out.wrote HF.out ho (c' := c.fail e col) ?_ (by unfold Cur.fail; rw [if_pos HE.out]) (Cur.fail_ok H.out.ok e col), ho⟩
    have := (HB.out.set_ 4 (.int .i64 e)).set_ 5 (.int .i64 col)
    unfold Cur.fail
    rw [if_pos HE.out]
    exact this
  · have e0 : (c.err == 0) = false := beq_eq_false_iff_ne.2 he
    have HE := Lib.hid he
    clear he
    go_enter Tryz.func107, Tryz.ntmps107
    go_wp2
    go_end0
    exact ⟨rfl, by unfold Cur.fail; rw [if_neg HE.out]; exact H.out, Only.refl _ _⟩

set_option maxRecDepth 100000 in
set_option maxHeartbeats 1000000 in
theorem cur_More (c : Cur) (F : Nat → Prop) (g : Nat) (w : World) (h : CurAt w F g c) :
    Calls Tryz.prog 64 #[.pointer (some ⟨g, 0, none⟩)] w fun x w' => x = .returned (.bool c.more) ∧ ∃ n, w' = w.drewN n := by
  obtain ⟨fv, hb, hf⟩ := h.blk
  obtain ⟨A, cp, rfl, hc1, hc2⟩ := hf.shape
  have c1 : w.cell? ⟨g, 1, none⟩ = some (.slice A c.fields.length cp) := hb.cell 1
  have c2 : w.cell? ⟨g, 2, none⟩ = some (.int .i64 c.next) := hb.cell 2
  have c4 : w.cell? ⟨g, 4, none⟩ = some (.int .i64 c.err) := hb.cell 4
  clear h hb hf
  by_cases he : c.err = 0
  · have e0 : (c.err == 0) = true := beq_iff_eq.2 he
    have HE := Lib.hid he
    clear he
    go_enter Tryz.func64, Tryz.ntmps64
    go_wp2
    go_quiet (fail)
    go_wp2
    go_ret
    refine ⟨ret_b ?_, _, rfl⟩
    unfold Cur.more
    rw [decide_eq_true HE.out]
    simp
  · have e0 : (c.err == 0) = false := beq_eq_false_iff_ne.2 he
    have HE := Lib.hid he
    clear he
    go_enter Tryz.func64, Tryz.ntmps64
    go_wp2
    go_quiet (fail)
    go_wp2
    go_ret
    refine ⟨ret_b ?_, _, rfl⟩
    unfold Cur.more
    rw [decide_eq_false HE.out]
    simp
end

section
/-! part C2 -/
open Go.RowKit

theorem CurAt.drewN {w : World} {F : Nat → Prop} {g : Nat} {c : Cur} (h : CurAt w F g c) (n : Nat) : CurAt (w.drewN n) F g c :=
  h.keep (G := F) (fun _ _ => rfl) rfl (Nat.le_refl _)
def ReadPost (w : World) (F : Nat → Prop) (g : Nat) (r : Cur × List UInt8 × Bool) (x : Ending) (w' : World) : Prop :=
  x = .returned (.tuple #[.string (S r.2.1), .bool r.2.2]) ∧ CurAt w' F g r.1 ∧ Only g w w'

set_option maxRecDepth 100000 in
set_option maxHeartbeats 2000000 in
theorem cur_read (c : Cur) (q : Bool) (F : Nat → Prop) (g : Nat) (w : World) (h : CurAt w F g c) :
    Calls Tryz.prog 106 #[.pointer (some ⟨g, 0, none⟩), .bool q] w (ReadPost w F g (c.read q)) := by
  obtain ⟨r, hr⟩ : ∃ r, r = c.read q := ⟨_, rfl⟩
  rw [← hr]
  unfold Cur.read at hr
  obtain ⟨fv, hb, hf⟩ := h.blk
  obtain ⟨A, cp, rfl, hc1, hc2⟩ := hf.shape
  have c1 : w.cell? ⟨g, 1, none⟩ = some (.slice A c.fields.length cp) := hb.cell 1
  have c2 : w.cell? ⟨g, 2, none⟩ = some (.int .i64 c.next) := hb.cell 2
  have c3 : w.cell? ⟨g, 3, none⟩ = some (.int .i64 c.last) := hb.cell 3
  have c4 : w.cell? ⟨g, 4, none⟩ = some (.int .i64 c.err) := hb.cell 4
  have f2 := hb.frozen 2
  have f3 := hb.frozen 3
  have hok : c.next ≤ c.fields.length := h.ok
  have H := Lib.hid h
  have HB := Lib.hid hb
  have HF := Lib.hid hf
  clear h hb hf
  by_cases he : c.err = 0
  · have e0 : (c.err != 0) = false := by rw [he]; rfl
    rw [if_pos he] at hr
    have HE := Lib.hid he
    clear he
    by_cases hlt : c.next < c.fields.length
    · have e1 : ((c.next : Int) == (c.fields.length : Int)) = false := beq_eq_false_iff_ne.2 (by omega)
      obtain ⟨b, o, cs, rfl, hF, hcl, hcc, hel⟩ := HF.out.at hlt
      rw [List.getElem?_eq_getElem hlt] at hr
      obtain ⟨⟨ft, fc, fq⟩, hfe⟩ : ∃ f, f = c.fields[c.next] := ⟨_, rfl⟩
      rw [← hfe] at hel hr
      clear hfe
      have hel' : cs = [.string (S ft), .int .i64 fc, .bool fq] := hel
      subst hel'
      have y0 : w.cell? ⟨b, o + c.next * 3, none⟩ = some (.string (S ft)) := hcc 0 _ rfl
      have y1 : w.cell? ⟨b, o + c.next * 3 + 1, none⟩ = some (.int .i64 fc) := hcc 1 _ rfl
      have y2 : w.cell? ⟨b, o + c.next * 3 + 2, none⟩ = some (.bool fq) := hcc 2 _ rfl
      have hbg := (H.out.foot b hF).2
      clear hcc hel hcl
      have HR := Lib.hid hr
      clear hr
      go_enter Tryz.func106, Tryz.ntmps106
      go_wp2
      go_quiet (fail)
      go_wp2
      generalize hwq : w.drewN _ = wq
      have hz : wq.heap.size = w.heap.size := by rw [← hwq]; rfl
      have hbl : b < wq.heap.size := by rw [hz]; exact (H.out.foot b hF).1
      have hgl : g < wq.heap.size := by rw [hz]; exact H.out.lt
      have d1 : wq.cell? ⟨g, 1, none⟩ = some (.slice (some ⟨b, o, none⟩) c.fields.length cp) := by rw [← hwq]; exact c1
      have d2 : wq.cell? ⟨g, 2, none⟩ = some (.int .i64 c.next) := by rw [← hwq]; exact c2
      have d3 : wq.cell? ⟨g, 3, none⟩ = some (.int .i64 c.last) := by rw [← hwq]; exact c3
      have z0 : wq.cell? ⟨b, o + c.next * 3, none⟩ = some (.string (S ft)) := by rw [← hwq]; exact y0
      have z1 : wq.cell? ⟨b, o + c.next * 3 + 1, none⟩ = some (.int .i64 fc) := by rw [← hwq]; exact y1
      have z2 : wq.cell? ⟨b, o + c.next * 3 + 2, none⟩ = some (.bool fq) := by rw [← hwq]; exact y2
      have g2 : wq.frozen? ⟨g, 2, none⟩ = false := by rw [← hwq]; exact f2
      have g3 : wq.frozen? ⟨g, 3, none⟩ = false := by rw [← hwq]; exact f3
      have HWQ := Lib.hid hwq
      clear hwq hz c1 c2 c3 c4 y0 y1 y2 f2 f3
      have d1a := (World.cell?_alloc_lt wq (Obj.cells #[.string ⟨#[]⟩, .int .i64 0, .bool false] 87) ⟨g, 1, none⟩ hgl).trans d1
      have d2a := (World.cell?_alloc_lt wq (Obj.cells #[.string ⟨#[]⟩, .int .i64 0, .bool false] 87) ⟨g, 2, none⟩ hgl).trans d2
      have z0a := (World.cell?_alloc_lt wq (Obj.cells #[.string ⟨#[]⟩, .int .i64 0, .bool false] 87) ⟨b, o + c.next * 3, none⟩ hbl).trans z0
      have z1a := (World.cell?_alloc_lt wq (Obj.cells #[.string ⟨#[]⟩, .int .i64 0, .bool false] 87) ⟨b, o + c.next * 3 + 1, none⟩ hbl).trans z1
      have z2a := (World.cell?_alloc_lt wq (Obj.cells #[.string ⟨#[]⟩, .int .i64 0, .bool false] 87) ⟨b, o + c.next * 3 + 2, none⟩ hbl).trans z2
      go_region
      generalize hW : World.drew _ = wx
      have hx : wx = (wq.alloc (Obj.cells #[.string (S ft), .int .i64 fc, .bool fq] 87)).drew := hW.symm
      clear hW
      have hox : Only g w wx := by
        rw [hx, ← HWQ.out]
        exact (((Only.refl g w).drewN _).alloc _).drew
      have hbx : Blk wx g 101 (curCells c (.slice (some ⟨b, o, none⟩) c.fields.length cp)) := by
        rw [hx, ← HWQ.out]
        exact Blk.alloc (w := w.drewN _) HB.out _
      have hnx : Blk wx wq.heap.size 87 #[.string (S ft), .int .i64 fc, .bool fq] := by
        rw [hx]; exact Blk.new wq _ _
      have hcx : CurAt wx F g c := by
        refine H.out.keep (G := F) (hox.same H.out.foot) ?_ hox.size
        rw [hbx]; exact HB.out.symm
      have HX := Lib.hid hox
      have HBX := Lib.hid hbx
      have HCX := Lib.hid hcx
      have x0 := hnx.cell 0
      have x1 := hnx.cell 1
      have x2 := hnx.cell 2
      have w2 : wx.cell? ⟨g, 2, none⟩ = some (.int .i64 c.next) := hbx.cell 2
      have w3 : wx.cell? ⟨g, 3, none⟩ = some (.int .i64 c.last) := hbx.cell 3
      have v2 := hbx.frozen 2
      have v3 := hbx.frozen 3
      simp only [List.getElem?_toArray, List.getElem?_cons_zero, List.getElem?_cons_succ] at x0 x1 x2
      clear hx hox hbx hnx hcx d1 d2 d3 z0 z1 z2 g2 g3 d1a d2a z0a z1a z2a
      rcases fq with _ | _ <;> rcases q with _ | _
      · skip
        have HR' := HR.out
        simp only [if_true] at HR'
        have HRR := Lib.hid HR'
        clear HR' HR
        go_wp2
        go_ret2
        have ho : Only g wx ((wx.setCell ⟨g, 2, none⟩ (.int .i64 ((c.next : Int) + 1))).setCell ⟨g, 3, none⟩ (.int .i64 fc)) := ((Only.refl g wx).setCell (p := ⟨g, 2, none⟩) (.inl rfl) _).setCell (p := ⟨g, 3, none⟩) (.inl rfl) _
        have hbf := (HBX.out.set_ 2 (.int .i64 ((c.next : Int) + 1))).set_ 3 (.int .i64 fc)
        rw [HRR.out]
        exact ⟨rfl, HCX.out.wrote (HF.out.keep elFld_good (HX.out.same H.out.foot) fun _ h => h) ho (c' := { c with next := c.next + 1, last := fc }) hbf rfl (by unfold Cur.ok; exact hlt), HX.out.trans ho⟩
      · skip
        have HR' := HR.out
        rw [if_neg (by simp)] at HR'
        have HRR := Lib.hid HR'
        clear HR' HR
        go_wp2_with (go_at_call 107; refine (cur_fail c 4 fc F g _ HCX.out).mono ?_; rintro e w2 ⟨rfl, hc2, ho2⟩)
        go_ret2
        rw [HRR.out]
        exact ⟨rfl, hc2, HX.out.trans ho2⟩
      · skip
        have HR' := HR.out
        rw [if_neg (by simp)] at HR'
        have HRR := Lib.hid HR'
        clear HR' HR
        go_wp2_with (go_at_call 107; refine (cur_fail c 4 fc F g _ HCX.out).mono ?_; rintro e w2 ⟨rfl, hc2, ho2⟩)
        go_ret2
        rw [HRR.out]
        exact ⟨rfl, hc2, HX.out.trans ho2⟩
      · skip
        have HR' := HR.out
        simp only [if_true] at HR'
        have HRR := Lib.hid HR'
        clear HR' HR
        go_wp2
        go_ret2
        have ho : Only g wx ((wx.setCell ⟨g, 2, none⟩ (.int .i64 ((c.next : Int) + 1))).setCell ⟨g, 3, none⟩ (.int .i64 fc)) := ((Only.refl g wx).setCell (p := ⟨g, 2, none⟩) (.inl rfl) _).setCell (p := ⟨g, 3, none⟩) (.inl rfl) _
        have hbf := (HBX.out.set_ 2 (.int .i64 ((c.next : Int) + 1))).set_ 3 (.int .i64 fc)
        rw [HRR.out]
        exact ⟨rfl, HCX.out.wrote (HF.out.keep elFld_good (HX.out.same H.out.foot) fun _ h => h) ho (c' := { c with next := c.next + 1, last := fc }) hbf rfl (by unfold Cur.ok; exact hlt), HX.out.trans ho⟩
    · have e1 : ((c.next : Int) == (c.fields.length : Int)) = true := beq_iff_eq.2 (by omega)
      rw [List.getElem?_eq_none (by omega)] at hr
      have HR := Lib.hid hr
      clear hr
      go_enter Tryz.func106, Tryz.ntmps106
      go_wp2
      go_quiet (fail)
      go_wp2_with (go_at_call 107; refine (cur_fail c 4 0 F g _ (H.out.drewN _)).mono ?_; rintro e w2 ⟨rfl, hc2, ho2⟩)
      go_ret2
      rw [HR.out]
      exact ⟨rfl, hc2, ((Only.refl g w).drewN _).trans ho2⟩
  · have e0 : (c.err != 0) = true := by rw [bne_iff_ne]; exact he
    rw [if_neg he] at hr
    have HR := Lib.hid hr
    clear hr he
    go_enter Tryz.func106, Tryz.ntmps106
    go_wp2
    go_ret2
    rw [HR.out]
    exact ⟨rfl, H.out, Only.refl _ _⟩
end

section
/-! part C3 -/
open Go.RowKit

theorem CurAt.last {w : World} {F : Nat → Prop} {g : Nat} {c : Cur} (h : CurAt w F g c) : w.cell? ⟨g, 3, none⟩ = some (.int .i64 c.last) := let ⟨_, hb, _⟩ := h.blk; hb.cell 3
def KeyPost (w : World) (F : Nat → Prop) (g : Nat) (r : Cur × Bool) (x : Ending) (w' : World) : Prop := x = .returned (.bool r.2) ∧ CurAt w' F g r.1 ∧ Only g w w'
def StrCur (w : World) (F : Nat → Prop) (g : Nat) (r : Cur × List UInt8) (x : Ending) (w' : World) : Prop := x = .returned (.string (S r.2)) ∧ CurAt w' F g r.1 ∧ Only g w w'
def IntCur (w : World) (F : Nat → Prop) (g : Nat) (r : Cur × Int) (x : Ending) (w' : World) : Prop := x = .returned (.int .i64 r.2) ∧ CurAt w' F g r.1 ∧ Only g w w'

set_option maxRecDepth 100000 in
set_option maxHeartbeats 2000000 in
theorem cur_Keyword (c : Cur) (kw : ByteArray) (F : Nat → Prop) (g : Nat) (w : World) (h : CurAt w F g c) :
    Calls Tryz.prog 61 #[.pointer (some ⟨g, 0, none⟩), .string kw] w (KeyPost w F g (c.keyword kw.data.toList)) := by
  obtain ⟨q, hq⟩ : ∃ q, q = c.keyword kw.data.toList := ⟨_, rfl⟩
  rw [← hq]
  unfold Cur.keyword at hq
  have hrd := cur_read c false F g w h
  obtain ⟨⟨c', t, ok⟩, hr⟩ : ∃ r, r = c.read false := ⟨_, rfl⟩
  rw [← hr] at hrd hq
  have HRD := Lib.hid hrd
  have HQ := Lib.hid hq
  clear hrd hr hq h
  cases ok
  · go_enter Tryz.func61, Tryz.ntmps61
    go_wp2_with (go_at_call 106; refine HRD.out.mono ?_; rintro e w2 ⟨rfl, hc2, ho2⟩)
    go_ret
    rw [HQ.out]
    exact ⟨by simp, by simpa using hc2, ho2⟩
  · by_cases ht : t = kw.data.toList
    · have e1 : (t == kw.toList) = true := by rw [ByteArray.toList_eq]; exact beq_iff_eq.2 ht
      have HT := Lib.hid ht
      clear ht
      go_enter Tryz.func61, Tryz.ntmps61
      go_wp2_with (go_at_call 106; refine HRD.out.mono ?_; rintro e w2 ⟨rfl, hc2, ho2⟩)
      go_ret
      rw [HQ.out, if_neg (fun h => h.2 HT.out)]
      exact ⟨ret_b (by simp [HT.out]), hc2, ho2⟩
    · have e1 : (t == kw.toList) = false := by rw [ByteArray.toList_eq]; exact beq_eq_false_iff_ne.2 ht
      have HT := Lib.hid ht
      clear ht
      go_enter Tryz.func61, Tryz.ntmps61
      go_wp2_with (first | (go_at_call 106; refine HRD.out.mono ?_; rintro e w2 ⟨rfl, hc2, ho2⟩; have c3 := hc2.last; have HC2 := Lib.hid hc2; clear hc2) | (go_at_call 107; refine (cur_fail c' 4 c'.last F g _ HC2.out).mono ?_; rintro e w3 ⟨rfl, hc3, ho3⟩))
      go_ret
      rw [HQ.out, if_pos ⟨trivial, HT.out⟩]
      exact ⟨ret_b (by simp [HT.out]), hc3, ho2.trans ho3⟩

set_option maxRecDepth 100000 in
set_option maxHeartbeats 2000000 in
theorem cur_Ident (c : Cur) (F : Nat → Prop) (g : Nat) (w : World) (h : CurAt w F g c) (hlen : ∀ f ∈ c.fields, f.text.length ≤ 1000000000) :
    Calls Tryz.prog 62 #[.pointer (some ⟨g, 0, none⟩)] w (StrCur w F g c.ident) := by
  obtain ⟨q, hq⟩ : ∃ q, q = c.ident := ⟨_, rfl⟩
  rw [← hq]
  unfold Cur.ident at hq
  have hrd := cur_read c false F g w h
  have htl := Cur.read_text c false hlen
  obtain ⟨⟨c', t, ok⟩, hr⟩ : ∃ r, r = c.read false := ⟨_, rfl⟩
  rw [← hr] at hrd hq htl
  have HRD := Lib.hid hrd
  have HQ := Lib.hid hq
  clear hrd hr hq h hlen
  dsimp only at htl
  cases ok
  · go_enter Tryz.func62, Tryz.ntmps62
    go_wp2_with (go_at_call 106; refine HRD.out.mono ?_; rintro e w2 ⟨rfl, hc2, ho2⟩)
    go_ret
    rw [HQ.out, if_neg (by simp)]
    exact ⟨rfl, hc2, ho2⟩
  · cases hn : nameS t
    · have HN := Lib.hid hn
      go_enter Tryz.func62, Tryz.ntmps62
      go_wp2_with (first | (go_at_call 106; refine HRD.out.mono ?_; rintro e w2 ⟨rfl, hc2, ho2⟩; have HC2 := Lib.hid hc2; clear hc2) | (go_at_call 65; refine (text_Name (S t) _ (by simp only [S_size, maxLen]; omega)).mono ?_; rintro e w3 ⟨rfl, hb3⟩; have hc3 := HC2.out.below hb3; have c3 := hc3.last; have HC3 := Lib.hid hc3; clear hc3) | (go_at_call 107; refine (cur_fail c' 5 c'.last F g _ HC3.out).mono ?_; rintro e w4 ⟨rfl, hc4, ho4⟩))
      go_ret
      rw [HQ.out, if_pos ⟨trivial, HN.out⟩]
      exact ⟨rfl, hc4, (ho2.trans (Only.of_below hb3)).trans ho4⟩
    · have HN := Lib.hid hn
      go_enter Tryz.func62, Tryz.ntmps62
      go_wp2_with (first | (go_at_call 106; refine HRD.out.mono ?_; rintro e w2 ⟨rfl, hc2, ho2⟩; have HC2 := Lib.hid hc2; clear hc2) | (go_at_call 65; refine (text_Name (S t) _ (by simp only [S_size, maxLen]; omega)).mono ?_; rintro e w3 ⟨rfl, hb3⟩))
      go_ret
      rw [HQ.out, if_neg (by rw [HN.out]; simp)]
      exact ⟨rfl, HC2.out.below hb3, ho2.trans (Only.of_below hb3)⟩

set_option maxRecDepth 100000 in
set_option maxHeartbeats 2000000 in
theorem cur_OneOf (c : Cur) (v : Value) (l : List (List UInt8)) (G F : Nat → Prop) (g : Nat) (w : World) (h : CurAt w F g c) (hl : Sl 1 elStr w G v l) (hG : ∀ b, G b → b < w.heap.size ∧ b ≠ g) :
    Calls Tryz.prog 63 #[.pointer (some ⟨g, 0, none⟩), v] w (IntCur w F g (c.oneOf l)) := by
  obtain ⟨q, hq⟩ : ∃ q, q = c.oneOf l := ⟨_, rfl⟩
  rw [← hq]
  unfold Cur.oneOf at hq
  have hrd := cur_read c false F g w h
  obtain ⟨⟨c', t, ok⟩, hr⟩ : ∃ r, r = c.read false := ⟨_, rfl⟩
  rw [← hr] at hrd hq
  have HRD := Lib.hid hrd
  have HQ := Lib.hid hq
  have HL := Lib.hid hl
  have HGG := Lib.hid hG
  clear hrd hr hq h hl hG
  cases ok
  · go_enter Tryz.func63, Tryz.ntmps63
    go_wp2_with (go_at_call 106; refine HRD.out.mono ?_; rintro e w2 ⟨rfl, hc2, ho2⟩)
    go_ret
    rw [HQ.out, if_neg (by simp)]
    exact ⟨rfl, hc2, ho2⟩
  · obtain ⟨ix, hix⟩ : ∃ ix, ix = indexS l t := ⟨_, rfl⟩
    rw [← hix] at HQ
    have HIX := Lib.hid hix
    clear hix
    by_cases h0 : ix < 0
    · go_enter Tryz.func63, Tryz.ntmps63
      go_wp2_with (first | (go_at_call 106; refine HRD.out.mono ?_; rintro e w2 ⟨rfl, hc2, ho2⟩; have HC2 := Lib.hid hc2; clear hc2) | (go_at_call 108; refine (str_Index v l (S t) _ _ (HL.out.keep elStr_good (ho2.same HGG.out) fun _ h => h)).mono ?_; rintro e w3 ⟨rfl, rfl⟩; rw [S_data, ← HIX.out]; have c3 := HC2.out.last) | (go_at_call 107; refine (cur_fail c' 4 c'.last F g _ HC2.out).mono ?_; rintro e w4 ⟨rfl, hc4, ho4⟩))
      go_ret
      rw [HQ.out, if_pos trivial, if_pos h0]
      exact ⟨rfl, hc4, ho2.trans ho4⟩
    · go_enter Tryz.func63, Tryz.ntmps63
      go_wp2_with (first | (go_at_call 106; refine HRD.out.mono ?_; rintro e w2 ⟨rfl, hc2, ho2⟩; have HC2 := Lib.hid hc2; clear hc2) | (go_at_call 108; refine (str_Index v l (S t) _ _ (HL.out.keep elStr_good (ho2.same HGG.out) fun _ h => h)).mono ?_; rintro e w3 ⟨rfl, rfl⟩; rw [S_data, ← HIX.out]))
      go_ret
      rw [HQ.out, if_pos trivial, if_neg (by omega)]
      exact ⟨rfl, HC2.out, ho2⟩

end

section
/-! part C4 -/
open Go.RowKit

def closeV : Option Dia → Value
  | some d => .tuple #[.agg #[.int .i64 d.line, .int .i64 d.col, .int .i64 d.code], .bool true]
  | none => .tuple #[.agg #[.int .i64 0, .int .i64 0, .int .i64 0], .bool false]
@[go_sem] theorem build_dia0 (w : World) : (Instr.build 41 #[]).run Tryz.prog w = .ok (.agg #[.int .i64 0, .int .i64 0, .int .i64 0]) w := run_build w 41 _ _ (by kernel_rfl)

set_option maxRecDepth 100000 in
set_option maxHeartbeats 2000000 in
theorem cur_Close (c : Cur) (F : Nat → Prop) (g : Nat) (w : World) (h : CurAt w F g c) :
    Calls Tryz.prog 27 #[.pointer (some ⟨g, 0, none⟩)] w fun x w' => x = .returned (closeV c.close) ∧ Below w.heap.size w w' := by
  obtain ⟨q, hq⟩ : ∃ q, q = c.close := ⟨_, rfl⟩
  rw [← hq]
  unfold Cur.close at hq
  obtain ⟨fv, hb, hf⟩ := h.blk
  obtain ⟨A, cp, rfl, hc1, hc2⟩ := hf.shape
  have hgl := h.lt
  have HFO := Lib.hid fun b hF => (h.foot b hF).1
  have hcur0 := h.below ((Below.refl w.heap.size w).alloc (Nat.le_refl _) (Obj.cells #[.int .i64 0, .int .i64 0, .int .i64 0] 41))
  have hb0 : Blk (w.alloc (Obj.cells #[.int .i64 0, .int .i64 0, .int .i64 0] 41)) g 101 (curCells c (.slice A c.fields.length cp)) := hb.alloc _
  have c0 : (w.alloc (Obj.cells #[.int .i64 0, .int .i64 0, .int .i64 0] 41)).cell? ⟨g, 0, none⟩ = some (.int .i64 c.num) := hb0.cell 0
  have c1 : (w.alloc (Obj.cells #[.int .i64 0, .int .i64 0, .int .i64 0] 41)).cell? ⟨g, 1, none⟩ = some (.slice A c.fields.length cp) := hb0.cell 1
  have c2 : (w.alloc (Obj.cells #[.int .i64 0, .int .i64 0, .int .i64 0] 41)).cell? ⟨g, 2, none⟩ = some (.int .i64 c.next) := hb0.cell 2
  have c4 : (w.alloc (Obj.cells #[.int .i64 0, .int .i64 0, .int .i64 0] 41)).cell? ⟨g, 4, none⟩ = some (.int .i64 c.err) := hb0.cell 4
  have c5 : (w.alloc (Obj.cells #[.int .i64 0, .int .i64 0, .int .i64 0] 41)).cell? ⟨g, 5, none⟩ = some (.int .i64 c.pos) := hb0.cell 5
  have HC0 := Lib.hid hcur0
  have HB0 := Lib.hid hb0
  have HF := Lib.hid hf
  have hok : c.next ≤ c.fields.length := h.ok
  clear hcur0 hb0 hf hb h
  by_cases he : c.err = 0
  · have e0 : (c.err != 0) = false := by rw [he]; rfl
    rw [if_neg (fun h => h he)] at hq
    have HE := Lib.hid he
    have HQ := Lib.hid hq
    clear he hq
    by_cases hlt : c.next < c.fields.length
    · have hm : c.more = true := by unfold Cur.more; rw [decide_eq_true HE.out, decide_eq_true hlt]; rfl
      have HM := Lib.hid hm
      clear hm
      obtain ⟨b, o, cs, rfl, hF, hcl, hcc, hel⟩ := HF.out.at hlt
      obtain ⟨⟨ft, fc, fq⟩, hfe⟩ : ∃ f, f = c.fields[c.next] := ⟨_, rfl⟩
      have HQ' := HQ.out
      rw [List.getElem?_eq_getElem hlt, ← hfe] at HQ'
      rw [← hfe] at hel
      have hel' : cs = [.string (S ft), .int .i64 fc, .bool fq] := hel
      subst hel'
      have y1 : (w.alloc (Obj.cells #[.int .i64 0, .int .i64 0, .int .i64 0] 41)).cell? ⟨b, o + c.next * 3 + 1, none⟩ = some (.int .i64 fc) := (World.cell?_alloc_lt w _ ⟨b, o + c.next * 3 + 1, none⟩ (by have := (HFO.out b hF); exact this)).trans (hcc 1 _ rfl)
      have HQF := Lib.hid HQ'
      clear hfe HQ' HQ hcc hel hcl
      go_enter Tryz.func27, Tryz.ntmps27
      go_wp2_with (go_at_call 64; refine (cur_More c F g _ HC0.out).mono ?_; rintro e w2 ⟨rfl, n, rfl⟩; rw [HM.out])
      go_region
      go_wp2
      refine bodyPost_ret (v := .tuple #[.agg #[.int .i64 c.num, .int .i64 fc, .int .i64 4], .bool true]) (by simp [results, Tryz.results27, go_sem]) rfl ⟨?_, ?_⟩
      · rw [HQF.out]; rfl
      · (repeat (first | exact Below.refl _ _ | refine Below.setCell ?_ (by simp) _ | refine Below.drewN_ ?_ _ | refine Below.drew ?_ | refine Below.alloc ?_ (by simp) _))
    · have hm : c.more = false := by unfold Cur.more; rw [decide_eq_false hlt, Bool.and_false]
      have HM := Lib.hid hm
      clear hm
      go_enter Tryz.func27, Tryz.ntmps27
      go_wp2_with (go_at_call 64; refine (cur_More c F g _ HC0.out).mono ?_; rintro e w2 ⟨rfl, n, rfl⟩; rw [HM.out])
      refine bodyPost_ret (v := .tuple #[.agg #[.int .i64 0, .int .i64 0, .int .i64 0], .bool false]) (by simp [results, Tryz.results27, go_sem]) rfl ⟨?_, ?_⟩
      · have := HQ.out
        rw [List.getElem?_eq_none (by omega)] at this
        rw [this]; rfl
      · (repeat (first | exact Below.refl _ _ | refine Below.setCell ?_ (by simp) _ | refine Below.drewN_ ?_ _ | refine Below.drew ?_ | refine Below.alloc ?_ (by simp) _))
  · have e0 : (c.err != 0) = true := by rw [bne_iff_ne]; exact he
    rw [if_pos he] at hq
    have HQ := Lib.hid hq
    clear hq he
    go_enter Tryz.func27, Tryz.ntmps27
    go_wp2
    go_region
    go_wp2
    refine bodyPost_ret (v := .tuple #[.agg #[.int .i64 c.num, .int .i64 c.pos, .int .i64 c.err], .bool true]) (by simp [results, Tryz.results27, go_sem]) rfl ⟨?_, ?_⟩
    · rw [HQ.out]; rfl
    · exact (((Below.refl _ _).alloc (Nat.le_refl _) _).drew)
end
end Go.Proofs.YtglkejlimeakbaaGreatDoor

namespace Go.Proofs.YtglkejlimeakbaaGreatDoor
open Go.RowKit

theorem flat_len {css : List (List Value)} {size : Nat} (h : ∀ cs ∈ css, cs.length = size) : css.flatten.length = css.length * size := by
  induction css with
  | nil => simp
  | cons x css ih => rw [List.flatten_cons, List.length_append, ih (fun cs hc => h cs (by simp [hc])), h x (by simp), List.length_cons, Nat.succ_mul]; omega

/-- The cells of a slice that is not empty. -/
theorem Sl.rows {α : Type} {size : Nat} {R : World → (Nat → Prop) → List Value → α → Prop} {w : World} {F : Nat → Prop} {b o n c : Nat} {l : List α} (h : Sl size R w F (.slice (some ⟨b, o, none⟩) n c) l) (hs : 0 < size) :
    ∃ css : List (List Value), css.length = l.length ∧ (∀ cs ∈ css, cs.length = size) ∧ (∀ j u, css.flatten[j]? = some u → w.cell? ⟨b, o + j, none⟩ = some u) ∧
      (∀ (i : Nat) (a : α) (cs : List Value), l[i]? = some a → css[i]? = some cs → R w F cs a) := by
  have key : ∀ m, m ≤ l.length → ∃ css : List (List Value), css.length = m ∧ (∀ cs ∈ css, cs.length = size) ∧ (∀ j u, css.flatten[j]? = some u → w.cell? ⟨b, o + j, none⟩ = some u) ∧
      (∀ (i : Nat) (a : α) (cs : List Value), l[i]? = some a → css[i]? = some cs → R w F cs a) := by
    intro m
    induction m with
    | zero => intro _; exact ⟨[], rfl, by simp, by simp, by simp⟩
    | succ m ih =>
      intro hm
      obtain ⟨css, h1, h2, h3, h4⟩ := ih (by omega)
      obtain ⟨b', o', cs, e, hF, hcl, hcc, hel⟩ := h.at (k := m) (by omega)
      simp only [Option.some.injEq, Addr.mk.injEq] at e
      obtain ⟨rfl, rfl, _⟩ := e
      have hfl : css.flatten.length = m * size := by
        rw [flat_len h2, h1]
      refine ⟨css ++ [cs], by simp [h1], ?_, ?_, ?_⟩
      · intro c hc
        rcases List.mem_append.1 hc with hc | hc
        · exact h2 c hc
        · simp at hc; subst hc; exact hcl
      · intro j u hu
        rw [List.flatten_append, List.flatten_singleton] at hu
        by_cases hj : j < css.flatten.length
        · rw [List.getElem?_append_left hj] at hu; exact h3 j u hu
        · rw [List.getElem?_append_right (by omega)] at hu
          have := hcc (j - css.flatten.length) u hu
          rw [hfl] at this hj
          rw [show o + m * size + (j - m * size) = o + j from by omega] at this
          exact this
      · intro i a c hi hc
        by_cases hil : i < css.length
        · rw [List.getElem?_append_left hil] at hc; exact h4 i a c hi hc
        · have hi2 := (List.getElem?_eq_some_iff.1 hc).1
          have : i = m := by simp at hi2; omega
          subst this
          rw [List.getElem?_append_right (by omega)] at hc
          rw [h1, Nat.sub_self] at hc
          simp at hc; subst hc
          rw [List.getElem?_eq_getElem (by omega)] at hi
          obtain rfl := Option.some.inj hi
          exact hel
  exact key l.length (Nat.le_refl _)

/-- append of all elements of a slice that is not nil. -/
theorem wpList_append_all {P : Program} (w : World) {ops : Array Oper} {rest : List Oper} {o : Oper} {a : Act} {Q : Exit → Act → World → Prop} (hgd : o.guard = none) (s x : Operand) (t : TypeId)
    (ho : o.op = .call { callee := .builtin .append, args := #[s, x], argTypes := #[t, t] })
    {e : TypeId} {size bytes : Nat} (hE : ElemOf P t e size bytes) {α : Type} {R : World → (Nat → Prop) → List Value → α → Prop} (hR : Good R)
    (base : Nat) (v : Value) (G : Nat → Prop) (l l' : List α) (hs : a.eval s = v) (hown : OwnG size R e base w v G l)
    (F : Nat → Prop) (ad : Addr) (n c : Nat) (hx : a.eval x = .slice (some ad) n c) (hsl : Sl size R w F (.slice (some ad) n c) l') (hF : ∀ b, F b → G b)
    (h1 : ∀ w F cs x, R w F cs x → ∀ u ∈ cs, u.oneCell' = true) (hG : ∀ b, G b → b < w.heap.size ∧ v.ownBlock ≠ some b)
    (h63 : l.length + l'.length ≤ maxLen) (hbytes : (l.length + l'.length) * bytes ≤ 140737488355328) (hbase : base ≤ w.heap.size)
    (h : ∀ v' w', OwnG size R e base w' v' G (l ++ l') → w.grownBy w' v.ownBlock → (v'.ownBlock = v.ownBlock ∨ v'.ownBlock = some w.heap.size) → wpList P ops Q rest (a.put o.dst v') w') : wpList P ops Q (o :: rest) a w := by
  obtain ⟨i, z, e1, e2, e3, e4, e5, e6, e7⟩ := hE
  obtain ⟨css, hlen, ho', hsz, hel'⟩ := hown
  obtain ⟨A', c', hv, hlc, hcm, hA⟩ := hsl
  injection hv with hv1 hv2 hv3
  subst hv2; subst hv3
  obtain ⟨css', hl', hsz', hcell', hel''⟩ : ∃ css' : List (List Value), css'.length = l'.length ∧ (∀ cs ∈ css', cs.length = size) ∧ (∀ j u, css'.flatten[j]? = some u → w.cell? (ad.add j) = some u) ∧
      (∀ (i : Nat) (a : α) (cs : List Value), l'[i]? = some a → css'[i]? = some cs → R w F cs a) := by
    by_cases h0 : 0 < l'.length
    · obtain ⟨b, o, hab, hFb, _⟩ := hA h0
      have hab' : ad = ⟨b, o, none⟩ := Option.some.inj (hv1.trans hab)
      subst hab'
      obtain ⟨css', a1, a2, a3, a4⟩ := Sl.rows (l := l') (b := b) (o := o) (n := l'.length) (c := c) ⟨A', c, by rw [hv1], hlc, hcm, hA⟩ e7
      refine ⟨css', a1, a2, fun j u hu => ?_, a4⟩
      have hadd : (⟨b, o, none⟩ : Addr).add j = ⟨b, o + j, none⟩ := Addr.add_lit b o j
      rw [hadd]; exact a3 j u hu
    · have : l' = [] := List.eq_nil_of_length_eq_zero (by omega)
      subst this
      exact ⟨[], rfl, by simp, by simp, by simp⟩
  obtain ⟨v', w', hr, h2, h3, _, h4⟩ := run_append_own_at (P := P) w base t o.type e i z size bytes e1 e2 e3 e4 e5 e6 e7 v l.length css.flatten ho' ad l'.length c css'.flatten (by rw [flat_len hsz', hl'])
    hcell' (fun u hu => by
      obtain ⟨cs, hc, hu'⟩ := List.mem_flatten.1 hu
      obtain ⟨i, hi⟩ := List.mem_iff_getElem?.1 hc
      have hil : i < l'.length := by have := (List.getElem?_eq_some_iff.1 hi).1; omega
      exact h1 w F cs _ (hel'' i l'[i] cs (List.getElem?_eq_getElem hil) hi) u hu') h63 hbytes hbase
  have hS : Same G w w' := Same.grown h3 fun b hb => ⟨(hG b hb).1, fun e => (hG b hb).2 e.symm⟩
  refine wpList_plain hgd fun K hK => ?_
  unfold Oper.wp execOp
  simp only [ho, resolve, invoke, builtin, Sem.run_bind, Sem.run_pure, Result.andThen_ok, List.map_toArray, List.map_cons, List.map_nil, hs, hx, hr]
  refine hK _ _ (h v' w' ⟨css ++ css', by simp [hlen, hl'], ?_, ?_, ?_⟩ h3 h4)
  · rw [List.length_append, List.flatten_append]; exact h2
  · intro cs hc
    rcases List.mem_append.1 hc with hc | hc
    · exact hsz cs hc
    · exact hsz' cs hc
  · intro i x cs hi hc
    by_cases hil : i < l.length
    · rw [List.getElem?_append_left hil] at hi
      rw [List.getElem?_append_left (by omega)] at hc
      exact hR.keep (hel' i x cs hi hc) hS fun _ h => h
    · rw [List.getElem?_append_right (by omega)] at hi
      rw [List.getElem?_append_right (by omega), hlen] at hc
      exact hR.keep (hR.keep (hel'' _ x cs hi hc) (Same.refl _ _) hF) hS fun _ h => h

def SlPost {α : Type} (size : Nat) (R : World → (Nat → Prop) → List Value → α → Prop) (w : World) (l : List α) (e : Ending) (w' : World) : Prop :=
  ∃ v, e = .returned v ∧ Sl size R w' (fun b => w.heap.size ≤ b ∧ b < w'.heap.size) v l ∧ Below w.heap.size w w'
theorem elFld_one : ∀ w F cs x, elFld w F cs x → ∀ u ∈ cs, u.oneCell' = true := by
  rintro w F cs x rfl
  exact oneCells rfl
theorem elFld_any {size base e : Nat} {w : World} {v : Value} {G : Nat → Prop} {l : List Fld} (h : OwnG size elFld e base w v G l) : OwnSl size elFld e base w v l := h
set_option maxRecDepth 100000 in
set_option maxHeartbeats 2000000 in
theorem fld_Clone (v : Value) (l : List Fld) (F : Nat → Prop) (w : World) (h : Sl 3 elFld w F v l) (hF : ∀ b, F b → b < w.heap.size) (hl : l.length ≤ 1000000000) :
    Calls Tryz.prog 57 #[v] w (SlPost 3 elFld w l) := by
  obtain ⟨A, c, rfl, hc, hc'⟩ := h.shape
  have H := Lib.hid h
  clear h
  cases A with
  | none =>
    have h0 : l = [] := by
      obtain ⟨A', c', hv, _, _, hA⟩ := H.out
      injection hv with hv1
      cases l with
      | nil => rfl
      | cons a l => obtain ⟨b, o, he, _⟩ := hA (by simp); rw [← hv1] at he; cases he
    subst h0
    have HE := fun W => @Lib.run_eql_slice_nil (P := Tryz.prog) W 54 87 none 0 c 0 0 rfl
    go_enter Tryz.func57, Tryz.ntmps57
    go_wp2
    refine bodyPost_ret (v := .slice none 0 0) (by simp [results, Tryz.results57, go_sem]) rfl ⟨_, rfl, Sl.nil _ _, Below.refl _ _⟩
  | some ad =>
    have HE := fun W => @Lib.run_eql_slice_nil (P := Tryz.prog) W 54 87 (some ad) l.length c 0 0 rfl
    have hown : OwnG 3 elFld 87 w.heap.size (w.alloc (.cells #[] 87)) (.slice (some ⟨w.heap.size, 0, none⟩) 0 0) F [] := ⟨[], rfl, World.ownsRow_made w #[] 0 (Nat.le_refl _) (by decide) rfl, by simp, by simp⟩
    have hsz : (w.alloc (.cells #[] 87)).heap.size = w.heap.size + 1 := by simp
    have hsl : Sl 3 elFld (w.alloc (.cells #[] 87)) F (.slice (some ad) l.length c) l := H.out.keep elFld_good (Same.below (Below.alloc (Below.refl w.heap.size w) (Nat.le_refl _) _) hF) fun _ h => h
    have hGG : ∀ b, F b → b < (w.alloc (.cells #[] 87)).heap.size ∧ (Value.slice (some ⟨w.heap.size, 0, none⟩) 0 0).ownBlock ≠ some b := fun b hb => by
      have h1 := hF b hb
      refine ⟨by omega, fun e => ?_⟩
      have h2 : w.heap.size = b := by injection e
      omega
    have HO := Lib.hid hown
    have HS := Lib.hid hsl
    clear hown hsl
    go_enter Tryz.func57, Tryz.ntmps57
    go_wp2_with (at_builtin; go_loud (refine wpList_append_all _ rfl (.tmp 5) (.tmp 6) _ rfl E_fld elFld_good w.heap.size _ F [] l rfl HO.out F ad l.length c rfl HS.out (fun _ h => h) elFld_one hGG (by simp [maxLen]; omega) (by simp; omega) (by omega) ?_); intro v1 w1 hown1 hg1 hat1)
    refine bodyPost_ret (v := v1) (by simp [results, Tryz.results57, go_sem]) rfl ⟨_, rfl, ?_, ?_⟩
    · exact (elFld_any hown1).sl elFld_good
    · exact below_own (Below.alloc (Below.refl w.heap.size w) (Nat.le_refl _) _) HO.out hg1 (Nat.le_refl _) (by omega)
end Go.Proofs.YtglkejlimeakbaaGreatDoor

namespace Go.Proofs.YtglkejlimeakbaaGreatDoor
open Go.RowKit

@[go_sem] theorem build_cur (x : Int) (A : Option Addr) (n c : Nat) (w : World) : (Instr.build 101 #[(0, .agg #[.int .i64 x, .slice A n c])]).run Tryz.prog w = .ok (.agg #[.int .i64 x, .slice A n c, .int .i64 0, .int .i64 0, .int .i64 0, .int .i64 0]) w := run_build w 101 _ _ (by kernel_rfl)
def AtPost (w : World) (x : Lin) (e : Ending) (w' : World) : Prop :=
  ∃ g, e = .returned (.pointer (some ⟨g, 0, none⟩)) ∧ w.heap.size ≤ g ∧ CurAt w' (fun b => w.heap.size ≤ b ∧ b < w'.heap.size ∧ b ≠ g) g (Cur.start x) ∧ Below w.heap.size w w'
set_option maxRecDepth 100000 in
set_option maxHeartbeats 2000000 in
theorem text_At (x : Lin) (v : Value) (F : Nat → Prop) (w : World) (h : Sl 3 elFld w F v x.fields) (hF : ∀ b, F b → b < w.heap.size) (hl : x.fields.length ≤ 1000000000) :
    Calls Tryz.prog 25 #[.agg #[.int .i64 x.num, v]] w (AtPost w x) := by
  obtain ⟨A, c, rfl, hc, hc'⟩ := h.shape
  obtain ⟨m, hm⟩ : ∃ m, m = x.fields.length := ⟨_, rfl⟩
  rw [← hm] at h hl hc ⊢
  have hcl : Calls Tryz.prog 57 #[.slice A m c] (w.alloc (.cells #[.int .i64 x.num, .slice A m c] 56)) (SlPost 3 elFld (w.alloc (.cells #[.int .i64 x.num, .slice A m c] 56)) x.fields) :=
    fld_Clone _ x.fields F _ (h.keep elFld_good (Same.below (Below.alloc (Below.refl w.heap.size w) (Nat.le_refl _) _) hF) fun _ h => h) (fun b hb => by have := hF b hb; simp; omega) (by omega)
  have hb0 := Blk.new w 56 #[.int .i64 x.num, .slice A m c]
  have HCL := Lib.hid hcl
  have HB := Lib.hid hb0
  have HM := Lib.hid hm
  clear h hcl hb0 hm
  go_enter Tryz.func25, Tryz.ntmps25
  go_wp2_with (go_at_call 57; refine HCL.out.mono ?_; rintro e w2 ⟨v2, rfl, hs2, hb2⟩; obtain ⟨A2, c2, rfl, hc2, hd2⟩ := hs2.shape; have hblk := HB.out.below hb2 (by simp); have y0 := hblk.cell 0; have y1 := hblk.cell 1; have f1 := hblk.frozen 1; simp only [List.getElem?_toArray, List.getElem?_cons_zero, List.getElem?_cons_succ] at y0 y1; have HBK := Lib.hid hblk; have HS2 := Lib.hid hs2; have HB2 := Lib.hid hb2; clear hblk hs2 hb2)
  have hs2 := HS2.out
  have hb2 := HB2.out
  have hz : (w.alloc (.cells #[.int .i64 x.num, .slice A m c] 56)).heap.size = w.heap.size + 1 := by simp
  obtain ⟨W1, hW1⟩ : ∃ W, W = w2.setCell ⟨w.heap.size, 1, none⟩ (.slice A2 x.fields.length c2) := ⟨_, rfl⟩
  have hsz : W1.heap.size = w2.heap.size := by rw [hW1]; simp [World.setCell]
  rw [← hW1, ← hsz]
  obtain ⟨W2, hW2⟩ : ∃ W, W = W1.alloc (.cells #[.int .i64 x.num, .slice A2 x.fields.length c2, .int .i64 0, .int .i64 0, .int .i64 0, .int .i64 0] 101) := ⟨_, rfl⟩
  have hsz2 : W2.heap.size = W1.heap.size + 1 := by rw [hW2]; simp
  have hg := hb2.size
  rw [hz] at hg hs2 hb2
  have hsame : Same (fun b => w.heap.size + 1 ≤ b ∧ b < w2.heap.size) w2 W2 := fun b hb => by
    rw [hW2, Below.heap_alloc W1 _ b (by omega), hW1]
    exact Below.heap_setCell w2 _ _ b (by show b ≠ w.heap.size; omega)
  have hbel : Below w.heap.size w W2 := by
    rw [hW2, hW1]
    have h1 : Below w.heap.size w w2 := ⟨hb2.os, hb2.tape, hb2.output, by omega, fun k hk => (hb2.block k (by omega)).trans (Below.heap_alloc w _ k hk)⟩
    exact Below.alloc (Below.setCell h1 (Nat.le_refl _) _) (by simp [World.setCell]; omega) _
  rw [← hW2]
  refine bodyPost_ret (v := .pointer (some ⟨W1.heap.size, 0, none⟩)) (by simp [results, Tryz.results25, go_sem]) rfl ⟨_, rfl, by omega, ⟨Nat.zero_le _, ⟨.slice A2 x.fields.length c2, by rw [hW2]; exact Blk.new W1 _ _, hs2.keep elFld_good hsame fun b hb => ⟨by omega, by omega, by omega⟩⟩, fun b hb => ⟨hb.2.1, hb.2.2⟩⟩, hbel⟩
end Go.Proofs.YtglkejlimeakbaaGreatDoor

namespace Go.Proofs.YtglkejlimeakbaaGreatDoor
open Go.RowKit

theorem ret_q {q : List UInt8 × Nat × Bool} (x : List UInt8) (m : Nat) (b : Bool) {n : Int} (h : q = (x, m, b)) (hn : n = m) : Ending.returned (.tuple #[.string (S x), .int .i64 n, .bool b]) = .returned (.tuple #[.string (S q.1), .int .i64 q.2.1, .bool q.2.2]) := by rw [h, hn]
theorem byte_eq {c : UInt8} (n : UInt8) (h : (c.toNat : Int) = (n.toNat : Int)) : c = n := UInt8.toNat_inj.1 (by omega)
set_option maxRecDepth 100000 in
set_option maxHeartbeats 1000000 in
theorem text_quoted (s : ByteArray) (i : Nat) (w : World) (hi : i < s.size) (hs : s.size ≤ 140737488351232) :
    Calls Tryz.prog 104 #[.string s, .int .i64 i] w fun e w' =>
      e = .returned (.tuple #[.string (S (quotedAt s (i + 1) []).1), .int .i64 (quotedAt s (i + 1) []).2.1, .bool (quotedAt s (i + 1) []).2.2]) ∧ Below w.heap.size w w' := by
  have HQ : ∃ q, q = quotedAt s (i + 1) [] := ⟨_, rfl⟩
  obtain ⟨q, hq⟩ := HQ
  rw [← hq]
  have HQ := Lib.hid hq
  clear hq
  go_enter Tryz.func104, Tryz.ntmps104
  go_wp2
  go_loopw [7, 8] (fun v j wr => ∃ (k : Nat) (acc : List UInt8), k ≤ s.size ∧ j = .int .i64 k ∧ OwnSl 1 elByte 5 w.heap.size wr v acc ∧ acc.length ≤ k ∧ Hid (quotedAt s k acc = q) ∧ Below w.heap.size w wr)
    (fun _ j _ => s.size - (intOf j).toNat)
  case atStart => exact ⟨i + 1, [], by omega, by go_num, OwnSl.nil _, by simp, HQ.out.symm, Below.refl _ _⟩
  case round =>
    obtain ⟨k, acc, hk, rfl, hown, hacc, hqk, hbel⟩ := hrel
    have hbs := hbel.size
    by_cases hlt : k < s.size
    · by_cases hc : s[k] = 34
      · have c34 : ((s[k].toNat : Int) == 34) = true := by rw [hc]; rfl
        have Hc := Lib.hid hc
        clear hc
        have hconv := run_string_of Tryz.underlying131 Tryz.underlying9 Tryz.underlying5 wr (hown.sl elByte_good)
        by_cases h2 : k + 1 < s.size
        · have e2 : ((k : Int) + 1 == (s.size : Int)) = false := beq_eq_false_iff_ne.2 (by omega)
          by_cases hd : s[k + 1] = 34
          · have d34 : ((s[k + 1].toNat : Int) != 34) = false := by rw [hd]; rfl
            have Hd := Lib.hid hd
            clear hd hconv
            go_wp2_with (at_builtin; refine wpList_append_sl _ rfl (.tmp 54) (.tmp 58) _ rfl E_byte elByte_good w.heap.size _ acc rfl (hown.alloc elByte_good _) ⟨wr.heap.size, 0, none⟩ 1 [.int .u8 _] rfl s[k + 1] rfl (cell_one_new _ _ _) (oneCells rfl) rfl (by simp only [maxLen]; omega) (by omega) (by simp; omega) ?_; intro v1 w1 hown1 hg1 hat1)
            have hb1 := below_own (hbel.alloc (by omega) _) (hown.alloc elByte_good _) hg1 (Nat.le_refl _) (by simp; omega)
            go_wp2
            go_roundw
            case rel => exact ⟨k + 2, _, by omega, by go_num, hown1, by simp; omega, by unfold Hid; rw [Hd.out, ← quoted_two s k acc hlt Hc.out h2 Hd.out]; exact hqk.out, hb1⟩
            case measure => simp [intOf]; omega
          · have d34 : ((s[k + 1].toNat : Int) != 34) = true := by rw [bne_iff_ne]; exact fun e => hd (byte_eq 34 e)
            have Hd := Lib.hid hd
            clear hd
            go_wp2
            go_ret3
            exact ⟨ret_q acc (k + 1) true (by rw [← hqk.out, quoted_close s k acc hlt Hc.out h2 Hd.out]) (by omega), hbel⟩
        · have e2 : ((k : Int) + 1 == (s.size : Int)) = true := beq_iff_eq.2 (by omega)
          go_wp2
          go_ret3
          exact ⟨ret_q acc (k + 1) true (by rw [← hqk.out, quoted_last s k acc hlt Hc.out (by omega)]) (by omega), hbel⟩
      · have c34 : ((s[k].toNat : Int) == 34) = false := beq_eq_false_iff_ne.2 fun e => hc (byte_eq 34 e)
        have Hc := Lib.hid hc
        clear hc
        cases hp : printedB s[k]
        · have Hp := Lib.hid hp
          go_wp2_with (go_at_call 136; refine (text_printed _ _).mono ?_; rintro e w' ⟨rfl, rfl⟩)
          go_ret3
          exact ⟨ret_q [] k false (by rw [← hqk.out, quoted_bad s k acc hlt Hc.out Hp.out]) rfl, hbel⟩
        · have Hp := Lib.hid hp
          go_wp2_with (first | (go_at_call 136; refine (text_printed _ _).mono ?_; rintro e w' ⟨rfl, rfl⟩) | (at_builtin; refine wpList_append_sl _ rfl (.tmp 54) (.tmp 58) _ rfl E_byte elByte_good w.heap.size _ acc rfl (hown.alloc elByte_good _) ⟨wr.heap.size, 0, none⟩ 1 [.int .u8 _] rfl s[k] rfl (cell_one_new _ _ _) (oneCells rfl) rfl (by simp only [maxLen]; omega) (by omega) (by simp; omega) ?_; intro v1 w1 hown1 hg1 hat1))
          have hb1 := below_own (hbel.alloc (by omega) _) (hown.alloc elByte_good _) hg1 (Nat.le_refl _) (by simp; omega)
          go_wp2
          go_roundw
          case rel => exact ⟨k + 1, _, by omega, by go_num, hown1, by simp; omega, by unfold Hid; rw [← quoted_step s k acc hlt Hc.out Hp.out]; exact hqk.out, hb1⟩
          case measure => simp [intOf]; omega
    · go_wp2
      go_ret3
      exact ⟨ret_q [] s.size false (by rw [← hqk.out, quoted_end s k acc (by omega)]) rfl, hbel⟩
end Go.Proofs.YtglkejlimeakbaaGreatDoor

namespace Go.Proofs.YtglkejlimeakbaaGreatDoor
open Go.RowKit

/-- What a function that hands back fields and a column leaves. -/
def FieldsPost (w : World) (q : List Fld × Nat) (e : Ending) (w' : World) : Prop :=
  ∃ v, e = .returned (.tuple #[v, .int .i64 q.2]) ∧ Sl 3 elFld w' (fun b => w.heap.size ≤ b ∧ b < w'.heap.size) v q.1 ∧ Below w.heap.size w w'
theorem fields_done {w w' : World} {q : List Fld × Nat} {v : Value} {n : Int} (x : List Fld) (m : Nat) (h : q = (x, m)) (hv : Sl 3 elFld w' (fun b => w.heap.size ≤ b ∧ b < w'.heap.size) v x) (hn : n = m) (hb : Below w.heap.size w w') :
    FieldsPost w q (.returned (.tuple #[v, .int .i64 n])) w' := ⟨v, by rw [h, hn], by rw [h]; exact hv, hb⟩

set_option maxRecDepth 100000 in
set_option maxHeartbeats 2000000 in
theorem text_fields (s : ByteArray) (w : World) (hs : s.size ≤ 1000000) :
    Calls Tryz.prog 56 #[.string s] w (FieldsPost w (fieldsS s.data.toList)) := by
  obtain ⟨q, hq⟩ : ∃ q, q = fieldsS s.data.toList := ⟨_, rfl⟩
  rw [← hq]
  have HQ := Lib.hid hq
  clear hq
  go_enter Tryz.func56, Tryz.ntmps56
  go_wp2
  go_loopw [4, 5, 6] (fun v a j wr => ∃ (k : Nat) (after : Bool) (out : List Fld), k ≤ s.size ∧ a = .bool after ∧ j = .int .i64 k ∧ OwnSl 3 elFld 87 w.heap.size wr v out ∧ out.length ≤ k ∧ Hid (fieldsAt s k after out = q) ∧ Below w.heap.size w wr)
    (fun _ _ j _ => s.size - (intOf j).toNat)
  case atStart => exact ⟨0, false, [], by omega, rfl, by go_num, OwnSl.nil _, by simp, (fieldsAt_zero s).trans HQ.out.symm, Below.refl _ _⟩
  case round =>
    obtain ⟨k, after, out, hk, rfl, rfl, hown, hout, hqk, hbel⟩ := hrel
    have hbs := hbel.size
    by_cases hlt : k < s.size
    · have hat := Lib.hid (fieldsAt_cons s k after out hlt)
      cases hw : whiteB s[k]
      · have Hw := Lib.hid hw
        by_cases h59 : s[k] = 59
        · have c59 : ((s[k].toNat : Int) == 59) = true := by rw [h59]; rfl
          have H59 := Lib.hid h59
          clear h59
          go_wp2_with (go_at_call 103; refine (text_white _ _).mono ?_; rintro e w' ⟨rfl, rfl⟩)
          go_ret2
          exact fields_done out 0 (by rw [← hqk.out, hat.out, if_neg (by rw [Hw.out]; simp), if_pos H59.out]) (hown.sl elFld_good) rfl hbel
        · have c59 : ((s[k].toNat : Int) == 59) = false := beq_eq_false_iff_ne.2 fun e => h59 (byte_eq 59 e)
          have H59 := Lib.hid h59
          clear h59
          cases after
          · by_cases h34 : s[k] = 34
            · have c34 : ((s[k].toNat : Int) == 34) = true := by rw [h34]; rfl
              have H34 := Lib.hid h34
              clear h34
              have HL := Lib.hid (quotedAt_len s (k + 1) [] hlt)
              obtain ⟨p, hp⟩ : ∃ p, p = quotedAt s (k + 1) [] := ⟨_, rfl⟩
              have HP := Lib.hid hp
              clear hp
              have hcq : ∀ W, Calls Tryz.prog 104 #[.string s, .int .i64 k] W fun e w' => e = .returned (.tuple #[.string (S p.1), .int .i64 p.2.1, .bool p.2.2]) ∧ Below W.heap.size W w' := by
                intro W; rw [HP.out]; exact text_quoted s k W hlt (by omega)
              have HCQ := Lib.hid hcq
              clear hcq
              obtain ⟨px, pn, pb⟩ := p
              have hpl : pn ≤ s.size ∧ (pb = true → k + 2 ≤ pn) := by
                have h1 := HL.out
                rw [← HP.out] at h1
                exact ⟨h1.2.1, h1.2.2⟩
              cases pb
              · go_wp2_with (first | (go_at_call 103; refine (text_white _ _).mono ?_; rintro e w' ⟨rfl, rfl⟩) | (go_at_call 104; refine (HCQ.out _).mono ?_; rintro e w2 ⟨rfl, hb2⟩))
                go_ret2
                exact fields_done [] (pn + 1) (by rw [← hqk.out, hat.out, if_neg (by rw [Hw.out]; simp), if_neg H59.out, if_neg (by simp), if_pos H34.out, ← HP.out]; rfl) (Sl.nil _ _) (by omega) (hbel.trans (hb2.mono hbs))
              · have hpn := hpl.2 rfl
                go_wp2_with (first | (go_at_call 103; refine (text_white _ _).mono ?_; rintro e w' ⟨rfl, rfl⟩) | (go_at_call 104; refine (HCQ.out _).mono ?_; rintro e w2 ⟨rfl, hb2⟩) | (at_builtin; refine wpList_append_sl _ rfl (.tmp 89) (.tmp 94) _ rfl E_fld elFld_good w.heap.size _ out rfl ((hown.below elFld_good hb2).alloc elFld_good _) ⟨w2.heap.size, 0, none⟩ 1 [.string (S px), .int .i64 ((k : Int) + 1), .bool true] rfl ⟨px, (k : Int) + 1, true⟩ rfl (cells_new _ _ _ _) (oneCells rfl) rfl (by simp only [maxLen]; omega) (by omega) (by have := hb2.size; simp; omega) ?_; intro v1 w1 hown1 hg1 hat1))
                have hb1 := below_own ((hbel.trans (hb2.mono hbs)).alloc (by have := hb2.size; omega) _) ((hown.below elFld_good hb2).alloc elFld_good _) hg1 (Nat.le_refl _) (by have := hb2.size; simp; omega)
                go_roundw
                case rel => exact ⟨pn, true, _, hpl.1, rfl, rfl, hown1, by simp; omega, by unfold Hid; rw [← hqk.out, hat.out, if_neg (by rw [Hw.out]; simp), if_neg H59.out, if_neg (by simp), if_pos H34.out, ← HP.out]; rfl, hb1⟩
                case measure => simp [intOf]; omega
            · have c34 : ((s[k].toNat : Int) == 34) = false := beq_eq_false_iff_ne.2 fun e => h34 (byte_eq 34 e)
              have H34 := Lib.hid h34
              clear h34
              go_wp2_with (go_at_call 103; refine (text_white _ _).mono ?_; rintro e w' ⟨rfl, rfl⟩)
              go_loop [10] (fun x => ∃ j : Nat, k ≤ j ∧ j ≤ s.size ∧ x = .int .i64 j ∧ Hid (j - k ≤ wordLen s k)) (fun x => s.size - (intOf x).toNat)
              case atStart => exact ⟨k, Nat.le_refl _, hk, rfl, by unfold Hid; omega⟩
              case round =>
                obtain ⟨j, hkj, hjs, rfl, hjw⟩ := hrel
                by_cases hjl : j < s.size
                · cases hwb : wordB s[j]
                  · have hst := Lib.hid (word_stop s k j hkj hjl hjw.out hwb)
                    have hhd := Lib.hid ((head_drop s j).trans (dif_pos hjl))
                    by_cases hjk : j = k
                    · have e1 : ((j : Int) == (k : Int)) = true := beq_iff_eq.2 (by omega)
                      have Hjk := Lib.hid hjk
                      clear hjk
                      go_wp2_with (go_at_call 105; refine (text_wordByte _ _).mono ?_; rintro e w' ⟨rfl, rfl⟩)
                      go_ret2
                      exact fields_done [] (j + 1) (by rw [← hqk.out, fieldsAt_word_bad s k out j hlt Hw.out H59.out H34.out hst.out (.inl Hjk.out)]) (Sl.nil _ _) (by omega) hbel
                    · have e1 : ((j : Int) == (k : Int)) = false := beq_eq_false_iff_ne.2 (by omega)
                      have hkj' : k < j := by omega
                      have Hjk := Lib.hid hjk
                      clear hjk
                      by_cases hj34 : s[j] = 34
                      · have c34j : ((s[j].toNat : Int) == 34) = true := by rw [hj34]; rfl
                        have H34j := Lib.hid hj34
                        clear hj34
                        go_wp2_with (go_at_call 105; refine (text_wordByte _ _).mono ?_; rintro e w' ⟨rfl, rfl⟩)
                        go_ret2
                        exact fields_done [] (j + 1) (by rw [← hqk.out, fieldsAt_word_bad s k out j hlt Hw.out H59.out H34.out hst.out (.inr (by rw [hhd.out, H34j.out]))]) (Sl.nil _ _) (by omega) hbel
                      · have c34j : ((s[j].toNat : Int) == 34) = false := beq_eq_false_iff_ne.2 fun e => hj34 (byte_eq 34 e)
                        have H34j := Lib.hid hj34
                        clear hj34
                        go_wp2_with (first | (go_at_call 105; refine (text_wordByte _ _).mono ?_; rintro e w' ⟨rfl, rfl⟩) | (at_builtin; refine wpList_append_sl _ rfl (.tmp 45) (.tmp 53) _ rfl E_fld elFld_good w.heap.size _ out rfl (hown.alloc elFld_good _) ⟨wr.heap.size, 0, none⟩ 1 [.string (s.extract k j), .int .i64 ((k : Int) + 1), .bool false] rfl ⟨(s.extract k j).data.toList, (k : Int) + 1, false⟩ rfl (cells_new _ _ _ _) (oneCells rfl) rfl (by simp only [maxLen]; omega) (by omega) (by simp; omega) ?_; intro v1 w1 hown1 hg1 hat1))
                        have hb1 := below_own (hbel.alloc (by omega) _) (hown.alloc elFld_good _) hg1 (Nat.le_refl _) (by simp; omega)
                        go_roundw
                        case rel => exact ⟨j, false, _, hjs, rfl, rfl, hown1, by simp; omega, by unfold Hid; rw [← hqk.out, fieldsAt_word s k out j hlt Hw.out H59.out H34.out hst.out Hjk.out (by rw [hhd.out]; exact fun e => H34j.out (Option.some.inj e)), word_text s k j hst.out], hb1⟩
                        case measure => simp [intOf]; omega
                  · have hnx := Lib.hid (word_next s k j hkj hjl hjw.out hwb)
                    go_wp2_with (go_at_call 105; refine (text_wordByte _ _).mono ?_; rintro e w' ⟨rfl, rfl⟩)
                    go_round
                    case rel => exact ⟨j + 1, by omega, by omega, by go_num, hnx.out⟩
                    case measure => simp [intOf]; omega
                · obtain rfl : j = s.size := by omega
                  have hst := Lib.hid (word_full s k hk hjw.out)
                  have hhd := Lib.hid ((head_drop s s.size).trans (dif_neg (by omega)))
                  have e1 : ((s.size : Int) == (k : Int)) = false := beq_eq_false_iff_ne.2 (by omega)
                  go_wp2_with (first | (go_at_call 105; refine (text_wordByte _ _).mono ?_; rintro e w' ⟨rfl, rfl⟩) | (at_builtin; refine wpList_append_sl _ rfl (.tmp 45) (.tmp 53) _ rfl E_fld elFld_good w.heap.size _ out rfl (hown.alloc elFld_good _) ⟨wr.heap.size, 0, none⟩ 1 [.string (s.extract k s.size), .int .i64 ((k : Int) + 1), .bool false] rfl ⟨(s.extract k s.size).data.toList, (k : Int) + 1, false⟩ rfl (cells_new _ _ _ _) (oneCells rfl) rfl (by simp only [maxLen]; omega) (by omega) (by simp; omega) ?_; intro v1 w1 hown1 hg1 hat1))
                  have hb1 := below_own (hbel.alloc (by omega) _) (hown.alloc elFld_good _) hg1 (Nat.le_refl _) (by simp; omega)
                  go_roundw
                  case rel => exact ⟨s.size, false, _, Nat.le_refl _, rfl, rfl, hown1, by simp; omega, by unfold Hid; rw [← hqk.out, fieldsAt_word s k out s.size hlt Hw.out H59.out H34.out hst.out (by omega) (by rw [hhd.out]; simp), word_text s k s.size hst.out], hb1⟩
                  case measure => simp [intOf]; omega
          · go_wp2_with (go_at_call 103; refine (text_white _ _).mono ?_; rintro e w' ⟨rfl, rfl⟩)
            go_ret2
            exact fields_done [] (k + 1) (by rw [← hqk.out, hat.out, if_neg (by rw [Hw.out]; simp), if_neg H59.out, if_pos trivial]) (Sl.nil _ _) (by omega) hbel
      · have Hw := Lib.hid hw
        go_wp2_with (go_at_call 103; refine (text_white _ _).mono ?_; rintro e w' ⟨rfl, rfl⟩)
        go_roundw
        case rel => exact ⟨k + 1, false, out, by omega, rfl, by go_num, hown, by omega, by unfold Hid; rw [← hqk.out, hat.out, if_pos Hw.out], hbel⟩
        case measure => simp [intOf]; omega
    · go_wp2
      go_ret2
      exact fields_done out 0 (by rw [← hqk.out, fieldsAt_end s k after out (by omega)]) (hown.sl elFld_good) rfl hbel
end Go.Proofs.YtglkejlimeakbaaGreatDoor

namespace Go.Proofs.YtglkejlimeakbaaGreatDoor
open Go.RowKit

/-- What a function that hands back one slice of strings leaves. -/
def StrsPost (w : World) (l : List (List UInt8)) (e : Ending) (w' : World) : Prop :=
  ∃ v, e = .returned v ∧ Sl 1 elStr w' (fun b => w.heap.size ≤ b ∧ b < w'.heap.size) v l ∧ Below w.heap.size w w'
theorem str_Split (c : UInt8) (s : ByteArray) (w : World) (hg : Glob w) (hs : s.size < 4294967281) :
    Calls Tryz.prog 55 #[.string s, .string ⟨#[c]⟩] w (StrsPost w (pieces c s.data.toList)) := by
  refine (Tryz.strings_Split_shaped s ⟨#[c]⟩ w hg.shaped hs (Nat.le_refl 1)).mono ?_
  rintro e w' ⟨rfl, rfl⟩
  have hp := splitB_pieces c _ s rfl
  have hlen := Lib.splitB_all ⟨#[c]⟩ (Nat.le_refl 1) 0 _ s rfl
  have hcnt := Lib.countB_le ⟨#[c]⟩ (Nat.le_refl 1) _ s (Nat.le_refl _)
  generalize Lib.splitB ⟨#[c]⟩ 0 (Lib.countB s ⟨#[c]⟩) s = l at *
  refine ⟨_, rfl, ?_, (Below.refl _ _).alloc (Nat.le_refl _) _⟩
  rw [← hp, ← hlen]
  have hlm : (l.map (·.data.toList)).length = l.length := by simp
  refine ⟨_, l.length, by rw [hlm], by simp, by unfold maxLen; omega, fun h0 => ⟨w.heap.size, 0, rfl, by simp, fun i a hi => ?_⟩⟩
  rw [List.getElem?_map] at hi
  obtain ⟨b, hb, rfl⟩ := Option.map_eq_some_iff.1 hi
  refine ⟨[.string b], rfl, fun j u hu => ?_, rfl⟩
  have hj : j = 0 := by have := (List.getElem?_eq_some_iff.1 hu).1; simp at this; exact this
  subst hj
  simp at hu; subst hu
  have := cells_new w (l.map Value.string) 9 (0, 0) i (.string b) (by simp [hb])
  have hadd : (⟨w.heap.size, 0, none⟩ : Addr).add i = ⟨w.heap.size, i, none⟩ := by unfold Addr.add; split <;> simp_all
  rw [hadd] at this
  rw [Nat.zero_add, Nat.mul_one, Nat.add_zero]; exact this

/-- What a function that hands back lines and diagnostics leaves. -/
def SplitPost (w : World) (q : List Lin × List Dia) (e : Ending) (w' : World) : Prop :=
  ∃ v d, e = .returned (.tuple #[v, d]) ∧ Sl 2 elLin w' (fun b => w.heap.size ≤ b ∧ b < w'.heap.size) v q.1 ∧ Sl 3 elDia w' (fun b => w.heap.size ≤ b ∧ b < w'.heap.size) d q.2 ∧ Below w.heap.size w w'
/-- The loop's two rows. -/
def lineG (base : Nat) (w : World) (v d : Value) : Nat → Prop := fun b => base ≤ b ∧ b < w.heap.size ∧ v.ownBlock ≠ some b ∧ d.ownBlock ≠ some b
structure SplitInv (base : Nat) (w1 w : World) (v d : Value) (out : List Lin) (ds : List Dia) : Prop where
  hv : OwnG 2 elLin 56 base w v (lineG base w v d) out
  hd : OwnSl 3 elDia 41 base w d ds
  hb : Below base w1 w
  hz : base ≤ w.heap.size
section
variable {base : Nat} {w1 w w' : World} {v d v' d' : Value} {out : List Lin} {ds : List Dia}
theorem SplitInv.below (h : SplitInv base w1 w v d out ds) (hb : Below w.heap.size w w') : SplitInv base w1 w' v d out ds :=
  ⟨h.hv.keep elLin_good (Same.below hb fun b hb => hb.2.1) (fun b ⟨a1, a2, a3, a4⟩ => ⟨a1, Nat.lt_of_lt_of_le a2 hb.size, a3, a4⟩) fun b hv => hb.block b (h.hv.block b hv).2,
   h.hd.below elDia_good hb, h.hb.trans (hb.mono h.hz), Nat.le_trans h.hz hb.size⟩
theorem SplitInv.line {x : Lin} (h : SplitInv base w1 w v d out ds) (ho : OwnG 2 elLin 56 base w' v' (lineG base w v d) (out ++ [x])) (hg : w.grownBy w' v.ownBlock) (hat : v'.ownBlock = v.ownBlock ∨ v'.ownBlock = some w.heap.size) :
    SplitInv base w1 w' v' d (out ++ [x]) ds := by
  have hap := h.hv.apart h.hd (by decide)
  refine ⟨ho.keep elLin_good (Same.refl _ _) (fun b ⟨a1, a2, a3, a4⟩ => ⟨a1, Nat.lt_of_lt_of_le a2 hg.size, ?_, a4⟩) (fun _ _ => rfl), h.hd.grown elDia_good hg fun b hb e => hap b e hb, below_own h.hb h.hv hg (Nat.le_refl _) h.hz, Nat.le_trans h.hz hg.size⟩
  rcases hat with e | e <;> rw [e]
  · exact a3
  · intro e'; injection e' with e'; omega
theorem SplitInv.diag {x : Dia} (h : SplitInv base w1 w v d out ds) (ho : OwnSl 3 elDia 41 base w' d' (ds ++ [x])) (hg : w.grownBy w' d.ownBlock) (hat : d'.ownBlock = d.ownBlock ∨ d'.ownBlock = some w.heap.size) :
    SplitInv base w1 w' v d' out (ds ++ [x]) := by
  have hap := h.hv.apart h.hd (by decide)
  refine ⟨h.hv.keep elLin_good (Same.grown hg fun b hb => ⟨hb.2.1, fun e => hb.2.2.2 e.symm⟩) (fun b ⟨a1, a2, a3, a4⟩ => ⟨a1, Nat.lt_of_lt_of_le a2 hg.size, a3, ?_⟩) fun b hb => hg.block b (h.hv.block b hb).2 fun e => hap b hb e.symm, ho, below_own h.hb h.hd hg (Nat.le_refl _) h.hz, Nat.le_trans h.hz hg.size⟩
  rcases hat with e | e <;> rw [e]
  · exact a4
  · intro e'; injection e' with e'; omega
/-- The fields of a new line, as an element of the row of lines. -/
theorem SplitInv.fields_el {w2 : World} {A : Option Addr} {n c : Nat} {x : Int} {fl : List Fld} (h : SplitInv base w1 w v d out ds) (hb : Below w.heap.size w w2) (hv : Sl 3 elFld w2 (fun b => w.heap.size ≤ b ∧ b < w2.heap.size) (.slice A n c) fl) (o : Obj) :
    elLin (w2.alloc o) (lineG base (w2.alloc o) v d) [.int .i64 x, .slice A n c] ⟨x, fl⟩ := by
  refine ⟨_, rfl, hv.keep elFld_good (Same.below ((Below.refl w2.heap.size w2).alloc (Nat.le_refl _) o) fun b hb => hb.2) fun b ⟨h1, h2⟩ => ⟨by have := h.hz; omega, by simp; omega, fun e => ?_, fun e => ?_⟩⟩
  · have := (h.hv.block b e).2; omega
  · have := (OwnSl.block h.hd b e).2; omega
end

/-- The same, and where no diagnostic stands, the row of diagnostics is nil. -/
structure SplitInvN (base : Nat) (w1 w : World) (v d : Value) (out : List Lin) (ds : List Dia) : Prop extends SplitInv base w1 w v d out ds where
  hn : ds = [] → d = .slice none 0 0
section
variable {base : Nat} {w1 w w' : World} {v d v' d' : Value} {out : List Lin} {ds : List Dia}
theorem SplitInvN.below (h : SplitInvN base w1 w v d out ds) (hb : Below w.heap.size w w') : SplitInvN base w1 w' v d out ds := ⟨h.toSplitInv.below hb, h.hn⟩
theorem SplitInvN.line {x : Lin} (h : SplitInvN base w1 w v d out ds) (ho : OwnG 2 elLin 56 base w' v' (lineG base w v d) (out ++ [x])) (hg : w.grownBy w' v.ownBlock) (hat : v'.ownBlock = v.ownBlock ∨ v'.ownBlock = some w.heap.size) :
    SplitInvN base w1 w' v' d (out ++ [x]) ds := ⟨h.toSplitInv.line ho hg hat, h.hn⟩
theorem SplitInvN.diag {x : Dia} (h : SplitInvN base w1 w v d out ds) (ho : OwnSl 3 elDia 41 base w' d' (ds ++ [x])) (hg : w.grownBy w' d.ownBlock) (hat : d'.ownBlock = d.ownBlock ∨ d'.ownBlock = some w.heap.size) :
    SplitInvN base w1 w' v d' out (ds ++ [x]) := ⟨h.toSplitInv.diag ho hg hat, fun e => by simp at e⟩
end
def SplitPostN (w : World) (q : List Lin × List Dia) (e : Ending) (w' : World) : Prop :=
  ∃ v d, e = .returned (.tuple #[v, d]) ∧ Sl 2 elLin w' (fun b => w.heap.size ≤ b ∧ b < w'.heap.size) v q.1 ∧ Sl 3 elDia w' (fun b => w.heap.size ≤ b ∧ b < w'.heap.size) d q.2 ∧ Below w.heap.size w w' ∧ (q.2 = [] → d = .slice none 0 0)
theorem SplitPostN.old {w w' : World} {q : List Lin × List Dia} {e : Ending} (h : SplitPostN w q e w') : SplitPost w q e w' :=
  let ⟨v, d, h1, h2, h3, h4, _⟩ := h
  ⟨v, d, h1, h2, h3, h4⟩
theorem split_doneN {w w' : World} {q : List Lin × List Dia} {v d : Value} (h1 : Sl 2 elLin w' (fun b => w.heap.size ≤ b ∧ b < w'.heap.size) v q.1) (h2 : Sl 3 elDia w' (fun b => w.heap.size ≤ b ∧ b < w'.heap.size) d q.2) (hb : Below w.heap.size w w') (hn : q.2 = [] → d = .slice none 0 0) :
    SplitPostN w q (.returned (.tuple #[v, d])) w' := ⟨v, d, rfl, h1, h2, hb, hn⟩
set_option maxRecDepth 100000 in
set_option maxHeartbeats 2000000 in
theorem text_SplitN (s : ByteArray) (w : World) (hg : Glob w) (hs : s.size ≤ 140737488351232) :
    Calls Tryz.prog 24 #[.string s] w (SplitPostN w (splitS s.data.toList)) := by
  obtain ⟨q, hq⟩ : ∃ q, q = splitS s.data.toList := ⟨_, rfl⟩
  rw [← hq]
  have HQ := Lib.hid hq
  clear hq
  have HG := Lib.hid hg
  clear hg
  have hL : s.data.toList.length = s.size := by simp
  have HL := Lib.hid hL
  clear hL
  go_enter Tryz.func24, Tryz.ntmps24
  by_cases hbig : (262144 : Int) < (s.size : Int)
  · go_wp2
    go_ret2
    refine split_doneN (by rw [HQ.out, splitS, if_pos (by rw [HL.out]; omega)]; exact Sl.nil _ _) ?_ ((Below.refl _ _).alloc (Nat.le_refl _) _) (by rw [HQ.out, splitS, if_pos (by rw [HL.out]; omega)]; intro e; cases e)
    rw [HQ.out, splitS, if_pos (by rw [HL.out]; omega)]
    exact Sl.fresh1 w _ [.int .i64 1, .int .i64 1, .int .i64 9] _ _ rfl (by simp) rfl
  · have HP := Lib.hid (pieces_len 10 s.data.toList)
    obtain ⟨ps, hps⟩ : ∃ ps, ps = pieces 10 s.data.toList := ⟨_, rfl⟩
    have hpl : ps.length ≤ 300000 := by have := HP.out; rw [← hps, HL.out] at this; omega
    have HPS := Lib.hid hps
    have hcs : Calls Tryz.prog 55 #[.string s, .string ⟨#[10]⟩] w (StrsPost w ps) := by rw [hps]; exact str_Split 10 s w HG.out (by omega)
    have HCS := Lib.hid hcs
    clear hcs hps
    go_wp2_with (go_at_call 55; refine HCS.out.mono ?_; rintro e w1 ⟨v1, rfl, hv1, hb1⟩; obtain ⟨A1, c1, rfl, hc1, hc2⟩ := hv1.shape)
    have HV1 := Lib.hid hv1
    clear hv1
    have hs1 := hb1.size
    go_loopw [4, 5, 19] (fun v d i wr => ∃ (k : Nat) (out : List Lin) (ds : List Dia), k ≤ ps.length ∧ i = .int .i64 k ∧ SplitInvN w1.heap.size w1 wr v d out ds ∧ out.length ≤ k ∧ ds.length ≤ k ∧ Hid (splitF (ps.drop k) ((k : Int) + 1) out ds = q))
      (fun _ _ i _ => ps.length - (intOf i).toNat)
    case atStart => exact ⟨0, [], [], Nat.zero_le _, rfl, ⟨⟨OwnG.nil _, OwnSl.nil _, Below.refl _ _, Nat.le_refl _⟩, fun _ => rfl⟩, by simp, by simp, by unfold Hid; rw [HQ.out, splitS, if_neg (by rw [HL.out]; omega), ← HPS.out]; rfl⟩
    case round =>
      obtain ⟨k, out, ds, hk, rfl, hinv, hout, hds, hqk⟩ := hrel
      by_cases hlt : k < ps.length
      · obtain ⟨b, o, rfl, hF, hcu⟩ := HV1.out.str_at hlt
        have hcell : wr.cell? ⟨b, o + k, none⟩ = some (.string (S ps[k])) := (hinv.hb.cell (p := ⟨b, o + k, none⟩) hF.2).trans hcu
        have hdr := drop_get hlt
        have hcf := fun W (h : ps[k].length ≤ 1000) => text_fields (S ps[k]) W (by simp; omega)
        have hqk' := hqk.out
        rw [hdr, splitF] at hqk'
        obtain ⟨p, hp⟩ : ∃ p, p = ps[k] := ⟨_, rfl⟩
        rw [← hp] at hcell hcf hqk'
        clear hdr hqk hp hcu
        obtain ⟨⟨fl, col⟩, hfc⟩ : ∃ fc, fc = fieldsS p := ⟨_, rfl⟩
        rw [S_data, ← hfc] at hcf
        rw [← hfc] at hqk'
        have hfl := fieldsS_len p
        rw [← hfc] at hfl
        clear hfc
        have HQK := Lib.hid hqk'
        have HCF := Lib.hid hcf
        clear hqk' hcf
        obtain ⟨Ad, cd, hvd, hcd, hcd'⟩ := (OwnSl.sl elDia_good hinv.hd).shape
        subst hvd
        by_cases hbigl : (p.length : Int) ≤ 1000
        · by_cases hcol : col = 0
          · subst hcol
            cases fl with
            | nil =>
              go_wp2_with (go_at_call 56; refine (HCF.out _ (by omega)).mono ?_; rintro e w2 ⟨v2, rfl, hv2, hb2⟩; obtain ⟨A2, c2, rfl, hc2, hc2'⟩ := hv2.shape)
              go_roundw
              case rel => exact ⟨k + 1, out, ds, by omega, by go_num, hinv.below hb2, by omega, by omega, by unfold Hid; rw [← HQK.out, if_neg (by omega), if_neg (by simp), if_neg (by simp)]; rfl⟩
              case measure => simp [intOf]; omega
            | cons f0 fl =>
              obtain ⟨fl', hfl'⟩ : ∃ fl', fl' = f0 :: fl := ⟨_, rfl⟩
              rw [← hfl'] at HCF HQK hfl
              have hfp : (0 : Int) < (fl'.length : Int) := by rw [hfl']; simp
              have hne : fl' ≠ [] := by rw [hfl']; simp
              have HNE := Lib.hid hne
              clear hfl' hne
              go_wp2_with (first | (go_at_call 56; refine (HCF.out _ (by omega)).mono ?_; rintro e w2 ⟨v2, rfl, hv2, hb2⟩; obtain ⟨A2, c2, rfl, hc2, hc2'⟩ := hv2.shape) | (at_builtin; refine wpList_append_g _ rfl (.tmp 56) (.tmp 61) _ rfl E_lin elLin_good w1.heap.size _ (lineG w1.heap.size (w2.alloc _) _ _) out rfl ((hinv.below hb2).below ((Below.refl _ _).alloc (Nat.le_refl _) _)).hv ⟨w2.heap.size, 0, none⟩ 1 [.int .i64 ((k : Int) + 1), .slice A2 fl'.length c2] rfl ⟨(k : Int) + 1, fl'⟩ rfl (cells_new _ _ _ _) (oneCells rfl) (fun b hb => ⟨hb.2.1, hb.2.2.1⟩) (hinv.fields_el hb2 hv2 _) (by simp only [maxLen]; omega) (by omega) (by have := hinv.hz; have := hb2.size; simp; omega) ?_; intro v4 w4 hown4 hg4 hat4))
              have hi4 := ((hinv.below hb2).below ((Below.refl _ _).alloc (Nat.le_refl _) _)).line hown4 hg4 hat4
              go_roundw
              case rel => exact ⟨k + 1, _, ds, by omega, by go_num, hi4, by simp; omega, by omega, by unfold Hid; rw [← HQK.out, if_neg (by omega), if_neg (by simp), if_pos HNE.out]; rfl⟩
              case measure => simp [intOf]; omega
          · have hcol0 : (0 : Int) < (col : Int) := by omega
            have hcoln : ((col : Int) == 0) = false := beq_eq_false_iff_ne.2 (by omega)
            have HC := Lib.hid hcol
            clear hcol
            by_cases h50 : (ds.length : Int) < 50
            · go_wp2_with (first | (go_at_call 56; refine (HCF.out _ (by omega)).mono ?_; rintro e w2 ⟨v2, rfl, hv2, hb2⟩; obtain ⟨A2, c2, rfl, hc2, hc2'⟩ := hv2.shape) | (at_builtin; refine wpList_append_sl _ rfl (.tmp 40) (.tmp 46) _ rfl E_dia elDia_good w1.heap.size _ ds rfl ((hinv.below hb2).hd.alloc elDia_good _) ⟨w2.heap.size, 0, none⟩ 1 [.int .i64 ((k : Int) + 1), .int .i64 (col : Int), .int .i64 4] rfl ⟨(k : Int) + 1, (col : Int), 4⟩ rfl (cells_new _ _ _ _) (oneCells rfl) rfl (by simp only [maxLen]; omega) (by omega) (by have := hinv.hz; have := hb2.size; simp; omega) ?_; intro v4 w4 hown4 hg4 hat4))
              have hi4 := ((hinv.below hb2).below ((Below.refl _ _).alloc (Nat.le_refl _) _)).diag hown4 hg4 hat4
              go_roundw
              case rel => exact ⟨k + 1, out, _, by omega, by go_num, hi4, by omega, by simp; omega, by unfold Hid; rw [← HQK.out, if_neg (by omega), if_pos HC.out, if_pos (by omega)]; rfl⟩
              case measure => simp [intOf]; omega
            · go_wp2_with (go_at_call 56; refine (HCF.out _ (by omega)).mono ?_; rintro e w2 ⟨v2, rfl, hv2, hb2⟩; obtain ⟨A2, c2, rfl, hc2, hc2'⟩ := hv2.shape)
              go_roundw
              case rel => exact ⟨k + 1, out, ds, by omega, by go_num, hinv.below hb2, by omega, by omega, by unfold Hid; rw [← HQK.out, if_neg (by omega), if_pos HC.out, if_neg (by omega)]; rfl⟩
              case measure => simp [intOf]; omega
        · by_cases h50 : (ds.length : Int) < 50
          · go_wp2_with (at_builtin; refine wpList_append_sl _ rfl (.tmp 40) (.tmp 46) _ rfl E_dia elDia_good w1.heap.size _ ds rfl (hinv.hd.alloc elDia_good _) ⟨wr.heap.size, 0, none⟩ 1 [.int .i64 ((k : Int) + 1), .int .i64 1001, .int .i64 9] rfl ⟨(k : Int) + 1, 1001, 9⟩ rfl (cells_new _ _ _ _) (oneCells rfl) rfl (by simp only [maxLen]; omega) (by omega) (by have := hinv.hz; simp; omega) ?_; intro v4 w4 hown4 hg4 hat4)
            have hi4 := (hinv.below ((Below.refl _ _).alloc (Nat.le_refl _) _)).diag hown4 hg4 hat4
            go_roundw
            case rel => exact ⟨k + 1, out, _, by omega, by go_num, hi4, by omega, by simp; omega, by unfold Hid; rw [← HQK.out, if_pos (by omega), if_pos (by omega)]; rfl⟩
            case measure => simp [intOf]; omega
          · go_wp2
            go_roundw
            case rel => exact ⟨k + 1, out, ds, by omega, by go_num, hinv, by omega, by omega, by unfold Hid; rw [← HQK.out, if_pos (by omega), if_neg (by omega)]; rfl⟩
            case measure => simp [intOf]; omega
      · go_wp2
        go_ret2
        have hz := hinv.hz
        have hvs := hinv.hv.sl elLin_good (F := fun b => w.heap.size ≤ b ∧ b < wr.heap.size) (fun b hb => ⟨by have := hb.1; omega, hb.2.1⟩) (fun b h1 h2 => ⟨by omega, h2⟩)
        have hdss := OwnG.sl elDia_good (F := fun b => w.heap.size ≤ b ∧ b < wr.heap.size) hinv.hd (fun b hb => hb.elim) (fun b h1 h2 => ⟨by omega, h2⟩)
        have hfin : q = (out, ds) := by rw [← hqk.out, List.drop_of_length_le (by omega)]; rfl
        rw [hfin]
        exact split_doneN hvs hdss (hb1.trans (hinv.hb.mono hs1)) hinv.hn
theorem text_Split (s : ByteArray) (w : World) (hg : Glob w) (hs : s.size ≤ 140737488351232) :
    Calls Tryz.prog 24 #[.string s] w (SplitPost w (splitS s.data.toList)) := (text_SplitN s w hg hs).mono fun _ _ h => h.old
end Go.Proofs.YtglkejlimeakbaaGreatDoor

namespace Go.Proofs.YtglkejlimeakbaaGreatDoor
open Go.RowKit

theorem own_ne {α : Type} {size e base : Nat} {R : World → (Nat → Prop) → List Value → α → Prop} {G : Nat → Prop} {w : World} {v : Value} {l : List α} {g : Nat} {t : TypeId} {cs : Array Value}
    (h : OwnG size R e base w v G l) (hg : Blk w g t cs) (hne : e ≠ t) : v.ownBlock ≠ some g := by
  obtain ⟨xs, hx, ⟨rfl, _⟩ | ⟨g', cap, cur, rfl, _, hh, _⟩⟩ := h.owns
  · simp [Value.ownBlock]
  · intro he
    have : g' = g := by simpa [Value.ownBlock] using he
    subst this
    unfold Blk at hg
    rw [hh] at hg
    injection hg with hg
    injection hg with _ ht
    exact hne ht
/-- append of one element, as a step of a region that draws. -/
theorem step_append_el {P : Program} {ops : Array Oper} {o : Oper} {a : Act} {w : World} {K : Act → World → Prop} {Q : Exit → Act → World → Prop} {E : Prop} (hgd : o.guard = none) (s x : Operand) (t : TypeId)
    (ho : o.op = .call { callee := .builtin .append, args := #[s, x], argTypes := #[t, t] })
    {e : TypeId} {size bytes : Nat} (hE : ElemOf P t e size bytes) {α : Type} {R : World → (Nat → Prop) → List Value → α → Prop} (hR : Good R)
    (base : Nat) (v : Value) (l : List α) (hs : a.eval s = v) (hown : OwnSl size R e base w v l)
    (ad : Addr) (c : Nat) (cs : List Value) (hx : a.eval x = .slice (some ad) 1 c) (el : α) (hl : cs.length = size) (hcell : ∀ j u, cs[j]? = some u → w.cell? (ad.add j) = some u)
    (h1 : ∀ u ∈ cs, u.oneCell' = true) (hel : R w NoG cs el)
    (h63 : l.length + 1 ≤ maxLen) (hbytes : (l.length + 1) * bytes ≤ 140737488355328) (hbase : base ≤ w.heap.size)
    (h : ∀ g cap w', OwnSl size R e base w' (.slice (some ⟨g, 0, none⟩) (l.length + 1) cap) (l ++ [el]) → w.grownBy w' v.ownBlock → (some g = v.ownBlock ∨ g = w.heap.size) → K (a.put o.dst (.slice (some ⟨g, 0, none⟩) (l.length + 1) cap)) w') :
    if Region.wanted o (yielded ops a.tmps) = true then Oper.wp P o a w K Q else E := by
  have hw : Region.wanted o (yielded ops a.tmps) = true := by simp [Region.wanted, hgd]
  rw [if_pos hw]
  obtain ⟨i, z, e1, e2, e3, e4, e5, e6, e7⟩ := hE
  obtain ⟨css, hlen, ho', hsz, hel'⟩ := hown
  obtain ⟨v', w', hr, h2, h3, _, h4⟩ := run_append_own_at (P := P) w base t o.type e i z size bytes e1 e2 e3 e4 e5 e6 e7 v l.length css.flatten ho' ad 1 c cs (by omega) hcell h1 h63 hbytes hbase
  unfold Oper.wp execOp
  simp only [ho, resolve, invoke, builtin, Sem.run_bind, Sem.run_pure, Result.andThen_ok, List.map_toArray, List.map_cons, List.map_nil, hs, hx, hr]
  have hnew : OwnG size R e base w' v' NoG (l ++ [el]) := OwnG.snoc hR hlen hsz hel' h2 (Same.grown h3 fun b hb => hb.elim) hl hel
  obtain ⟨xs, _, ⟨_, h0⟩ | ⟨g, cap, cur, rfl, _⟩⟩ := hnew.owns
  · simp at h0
  · simp only [List.length_append, List.length_cons, List.length_nil, Nat.zero_add] at h4 hnew ⊢
    refine h g cap w' hnew h3 ?_
    rcases h4 with h4 | h4
    · exact .inl h4
    · exact .inr (by simpa [Value.ownBlock] using h4)

theorem CurAt.far {w : World} {F : Nat → Prop} {g k : Nat} {c : Cur} (h : CurAt w F g c) (hk : k ≠ g) (hF : ¬ F k) (p : Addr) (hp : p.block = k) (u : Value) : CurAt (w.setCell p u) F g c :=
  h.keep (G := F) (fun b hb => Below.heap_setCell w p u b (by rintro rfl; rw [hp] at hb; exact hF hb)) (Below.heap_setCell w p u g (by rw [hp]; exact fun e => hk e.symm)) (by simp [World.setCell])
theorem CurAt.drew {w : World} {F : Nat → Prop} {g : Nat} {c : Cur} (h : CurAt w F g c) : CurAt w.drew F g c := h.keep (G := F) (fun _ _ => rfl) rfl (Nat.le_refl _)
theorem CurAt.ne_own {α : Type} {size base e : Nat} {R : World → (Nat → Prop) → List Value → α → Prop} {K F : Nat → Prop} {w : World} {v : Value} {l : List α} {g : Nat} {c : Cur} (h : CurAt w F g c) (ho : OwnG size R e base w v K l) (hne : e ≠ 101) : v.ownBlock ≠ some g :=
  let ⟨_, hb, _⟩ := h.blk; own_ne ho hb hne
/-- A slice literal is a row of the call's own. -/
theorem own_lit {α : Type} {size e : Nat} {R : World → (Nat → Prop) → List Value → α → Prop} (w : World) (css : List (List Value)) (l : List α) (hl : css.length = l.length) (hsz : ∀ cs ∈ css, cs.length = size) (hm : l.length ≤ maxLen)
    (hel : ∀ (i : Nat) (a : α) (cs : List Value), l[i]? = some a → css[i]? = some cs → R (w.alloc (.cells css.flatten.toArray e)) NoG cs a) :
    OwnSl size R e w.heap.size (w.alloc (.cells css.flatten.toArray e)) (.slice (some ⟨w.heap.size, 0, none⟩) l.length l.length) l := by
  have hf : css.flatten.length = css.length * size := by
    clear hl hel
    induction css with
    | nil => simp
    | cons x css ih => rw [List.flatten_cons, List.length_append, ih (fun cs hc => hsz cs (by simp [hc])), hsz x (by simp), List.length_cons, Nat.succ_mul]; omega
  refine ⟨css, hl, ⟨by rw [hf, hl], .inr ⟨w.heap.size, l.length, css.flatten.toArray, rfl, Nat.le_refl _, heap_alloc_new w _, Nat.le_refl _, hm, by simp only [List.size_toArray]; rw [hf, hl], ?_⟩⟩, hsz, hel⟩
  rw [List.take_of_length_le (by rw [hf, hl]; exact Nat.le_refl _)]
def TextPost (w : World) (r : List UInt8 × Int) (e : Ending) (w' : World) : Prop := e = .returned (.tuple #[.string (S r.1), .int .i64 r.2]) ∧ Below w.heap.size w w'
def noD : Value := .slice none 0 0
end Go.Proofs.YtglkejlimeakbaaGreatDoor

namespace Go.Proofs.YtglkejlimeakbaaGreatDoor
open Go.RowKit

theorem own_slice {α : Type} {size e base : Nat} {R : World → (Nat → Prop) → List Value → α → Prop} {G : Nat → Prop} {w : World} {v : Value} {l : List α} (h : OwnG size R e base w v G l) (hl : 0 < l.length) :
    ∃ g n cap, v = .slice (some ⟨g, 0, none⟩) n cap := by
  obtain ⟨xs, _, ⟨_, h0⟩ | ⟨g, cap, cur, rfl, _⟩⟩ := h.owns
  · omega
  · exact ⟨g, _, cap, rfl⟩
def LinePost (w : World) (ws : List (List UInt8)) (e : Ending) (w' : World) : Prop :=
  ∃ A n c, e = .returned (.agg #[.int .i64 0, .slice A n c]) ∧ Sl 3 elFld w' (fun b => w.heap.size ≤ b ∧ b < w'.heap.size) (.slice A n c) (ws.map wordF) ∧ Below w.heap.size w w'
/-- A line that grows: its block, the row of its fields, the block of the result. -/
structure LnAt (w0 wr : World) (v : Value) (l : List Fld) : Prop where
  k0 : Blk wr w0.heap.size 56 #[.int .i64 0, .slice none 0 0]
  k1 : Blk wr (w0.heap.size + 1) 56 #[.int .i64 0, v]
  own : OwnSl 3 elFld 87 (w0.heap.size + 2) wr v l
  bel : Below w0.heap.size w0 wr
theorem LnAt.new (w : World) : LnAt w ((w.alloc (.cells #[.int .i64 0, .slice none 0 0] 56)).alloc (.cells #[.int .i64 0, .slice none 0 0] 56)) (.slice none 0 0) [] := by
  have hk := Blk.new (w.alloc (.cells #[.int .i64 0, .slice none 0 0] 56)) 56 #[.int .i64 0, .slice none 0 0]
  have e : (w.alloc (.cells #[.int .i64 0, .slice none 0 0] 56)).heap.size = w.heap.size + 1 := by simp
  rw [e] at hk
  exact ⟨(Blk.new w _ _).alloc _, hk, OwnSl.nil _, Below.alloc (Below.alloc (Below.refl _ _) (Nat.le_refl _) _) (by simp) _⟩
theorem LnAt.step {w0 wr w5 : World} {v v5 : Value} {l : List Fld} {f : Fld} {o : Obj} (h : LnAt w0 wr v l) (ho : OwnSl 3 elFld 87 (w0.heap.size + 2) w5 v5 (l ++ [f])) (hg : (wr.alloc o).grownBy w5 v.ownBlock) :
    Blk w5 (w0.heap.size + 1) 56 #[.int .i64 0, v] ∧ LnAt w0 (w5.setCell ⟨w0.heap.size + 1, 1, none⟩ v5) v5 (l ++ [f]) := by
  have n0 := own_ne (h.own.alloc elFld_good o) (h.k0.alloc o) (by decide)
  have n1 := own_ne (h.own.alloc elFld_good o) (h.k1.alloc o) (by decide)
  have b0 := (h.k0.alloc o).grown hg n0
  have b1 := (h.k1.alloc o).grown hg n1
  have hz := h.k1.lt
  have hb5 : Below w0.heap.size w0 w5 := below_own (Below.alloc h.bel h.bel.size o) (h.own.alloc elFld_good o) hg (by omega) (by simp; omega)
  refine ⟨b1, b0.far (p := ⟨w0.heap.size + 1, 1, none⟩) (by simp) _, b1.set_ 1 v5, ho.grown elFld_good ((Only.refl (w0.heap.size + 1) w5).setCell (p := ⟨w0.heap.size + 1, 1, none⟩) (.inl rfl) _) fun b hb e => own_ne ho b1 (by decide) (by rw [hb, e]), hb5.setCell (by simp) _⟩
theorem rul_line_ret {R' : Ending → World → Prop} {a : Act} {w : World} {x0 x1 : Value} {g : Nat} (h2 : a.tmps[2]? = some (.pointer (some ⟨g, 0, none⟩))) (hb : Blk w g 56 #[x0, x1])
    (hd : a.defers = []) (hR : R' (.returned (.agg #[x0, x1])) w) : bodyPost Tryz.prog Tryz.f51 R' .ret a w := by
  have r0 := hb.cell 0
  have r1 := hb.cell 1
  simp only [List.getElem?_toArray, List.getElem?_cons_zero, List.getElem?_cons_succ] at r0 r1
  refine bodyPost_ret (v := .agg #[x0, x1]) (by simp [results, Tryz.results51, go_sem, h2, r0, r1]) hd hR
set_option maxRecDepth 100000 in
set_option maxHeartbeats 2000000 in
theorem rul_line (ws : List (List UInt8)) (v : Value) (F : Nat → Prop) (w : World) (h : Sl 1 elStr w F v ws) (hF : ∀ b, F b → b < w.heap.size) (hl : ws.length ≤ 1000) :
    Calls Tryz.prog 51 #[v] w (LinePost w ws) := by
  obtain ⟨A, c, rfl, hc, hc2⟩ := h.shape
  have H := Lib.hid h
  have HF := Lib.hid hF
  have HN := Lib.hid (LnAt.new w)
  clear h hF
  go_enter Tryz.func51, Tryz.ntmps51
  go_wp2
  go_loopw [8] (fun i wr => ∃ (k : Nat) (u : Value), k ≤ ws.length ∧ i = .int .i64 k ∧ LnAt w wr u ((ws.take k).map wordF) ∧ (∃ A n c, u = .slice A n c)) (fun i _ => ws.length - (intOf i).toNat)
  case atStart => exact ⟨0, _, Nat.zero_le _, rfl, HN.out, ⟨_, _, _, rfl⟩⟩
  case round =>
    obtain ⟨k, u, hk, rfl, hln, ⟨Au, nu, cu, rfl⟩⟩ := hrel
    have HLN := Lib.hid hln
    clear hln
    by_cases hlt : k < ws.length
    · obtain ⟨b, o, rfl, hbl, y0⟩ := H.out.str_at hlt
      have y := (HLN.out.bel.cell (p := ⟨b, o + k, none⟩) (HF.out _ hbl)).trans y0
      have htk : Hid ((ws.take (k + 1)).map wordF = (ws.take k).map wordF ++ [wordF ws[k]]) := by
        unfold Hid; rw [List.take_succ_eq_append_getElem hlt, List.map_append]; rfl
      obtain ⟨p, hp⟩ : ∃ p, p = ws[k] := ⟨_, rfl⟩
      rw [← hp] at y htk
      have z1 : wr.cell? ⟨w.heap.size + 1, 1, none⟩ = some (.slice Au nu cu) := HLN.out.k1.cell 1
      have hz := HLN.out.k1.lt
      have htl : ((ws.take k).map wordF).length ≤ 1000 := by simp; omega
      have HTL := Lib.hid htl
      clear y0 hp htl
      go_wp2_with (at_builtin; refine wpList_append_sl _ rfl (.tmp 13) (.tmp 16) _ rfl E_fld elFld_good (w.heap.size + 2) _ ((ws.take k).map wordF) rfl (HLN.out.own.alloc elFld_good _) ⟨wr.heap.size, 0, none⟩ 1 [.string (S p), .int .i64 0, .bool false] rfl (wordF p) rfl (cells_new _ _ _ _) (oneCells rfl) rfl (by have := HTL.out; simp only [maxLen]; omega) (by have := HTL.out; omega) (by simp; omega) ?_; intro v5 w5 hown5 hg5 hat5; obtain ⟨g5, n5, cap5, rfl⟩ := own_slice hown5 (by simp); obtain ⟨hb5, hl5⟩ := HLN.out.step hown5 hg5; have q1 := hb5.cell 1; have q2 := hb5.frozen 1; simp only [List.getElem?_toArray, List.getElem?_cons_zero, List.getElem?_cons_succ] at q1; have HL5 := Lib.hid hl5; clear hb5 hl5 hown5 hg5 hat5)
      go_roundw
      case rel => exact ⟨k + 1, _, by omega, by go_num, by rw [htk.out]; exact HL5.out, ⟨_, _, _, rfl⟩⟩
      case measure => simp [intOf]; omega
    · have hke : k = ws.length := by omega
      have htk : (ws.take k).map wordF = ws.map wordF := by rw [List.take_of_length_le (by omega)]
      rw [htk] at HLN
      have r0 := HLN.out.k1.cell 0
      have r1 := HLN.out.k1.cell 1
      have q0 := HLN.out.k0.cell 0
      have q1 := HLN.out.k0.cell 1
      have f0 := HLN.out.k0.frozen 0
      have f1 := HLN.out.k0.frozen 1
      have hz := HLN.out.k1.lt
      simp only [List.getElem?_toArray, List.getElem?_cons_zero, List.getElem?_cons_succ] at r0 r1 q0 q1
      clear htk hke
      go_wp2
      refine rul_line_ret rfl ((HLN.out.k0.set_ 0 _).set_ 1 _) rfl ⟨_, _, _, rfl, ?_, ?_⟩
      · refine (HLN.out.own.sl elFld_good).keep elFld_good (((Only.refl w.heap.size wr).setCell (p := ⟨w.heap.size, 0, none⟩) (.inl rfl) _).setCell (p := ⟨w.heap.size, 1, none⟩) (.inl rfl) _ |>.same fun b hb => ⟨hb.2, by omega⟩) fun b hb => ⟨by omega, by simpa [World.setCell] using hb.2⟩
      · exact (HLN.out.bel.setCell (Nat.le_refl _) _).setCell (Nat.le_refl _) _
end Go.Proofs.YtglkejlimeakbaaGreatDoor

namespace Go.Proofs.YtglkejlimeakbaaGreatDoor
open Go.RowKit

@[reducible] def tBld : TypeId := 133
theorem bld_size : (Tryz.prog.info? 133).map (·.size) = some 2 := by kernel_rfl
theorem bld_lies : liesAt Tryz.prog Tryz.prog.depth 133 (2 / Tryz.prog.cellsOf 133) 0 133 1 = true := by kernel_rfl
theorem info_byte : (Tryz.prog.info? 5).map (fun i => (i.zero, i.size, i.bytes)) = some (some (.int .u8 0), 1, 1) := by kernel_rfl

theorem owns_kind {w : World} {B : Nat} {e : TypeId} {size : Nat} {v : Value} {n : Nat} {xs : List Value} (h : w.ownsRow B e size v n xs) : ∀ g, v.ownBlock = some g → ∃ c fz, w.heap[g]? = some (.cells c e fz) := by
  intro g hg
  rcases h.2 with ⟨rfl, _⟩ | ⟨g', cap, cur, rfl, _, hgg, _⟩
  · simp [Value.ownBlock] at hg
  · simp [Value.ownBlock] at hg
    subst hg
    exact ⟨cur, _, hgg⟩

set_option maxHeartbeats 1000000 in
set_option maxRecDepth 100000 in
theorem copyCheck_used (b : Nat) (w : World) (h0 : w.cell? ⟨b, 0, none⟩ = some (.pointer (some ⟨b, 0, none⟩))) :
    Calls Tryz.prog 131 #[.pointer (some ⟨b, 0, none⟩)] w fun e w' => e = .returned (.tuple #[]) ∧ w' = w := by
  obtain ⟨j, hj, _⟩ := Option.map_eq_some_iff.1 bld_size
  go_enter Tryz.func131, Tryz.ntmps131
  go_wp2
  rw [Lib.run_neq_ptr_same w _ Tryz.underlying130 hj]
  go_wp2
  go_end0
  exact ⟨rfl, rfl⟩

set_option maxHeartbeats 1000000 in
set_option maxRecDepth 100000 in
theorem copyCheck_fresh (b : Nat) (w : World) (h0 : w.cell? ⟨b, 0, none⟩ = some (.pointer none)) (hsh : w.shape? b = some (133, 2)) (hfz : w.frozen? ⟨b, 0, none⟩ = false) :
    Calls Tryz.prog 131 #[.pointer (some ⟨b, 0, none⟩)] w fun e w' => e = .returned (.tuple #[]) ∧ w' = w.setCell ⟨b, 0, none⟩ (.pointer (some ⟨b, 0, none⟩)) := by
  obtain ⟨j, hj, hjs⟩ := Option.map_eq_some_iff.1 bld_size
  go_enter Tryz.func131, Tryz.ntmps131
  go_wp2
  rw [Lib.run_to_unsafe w ⟨b, 0, none⟩ Tryz.underlying130 Tryz.underlying180 hj (by rw [hjs]; decide) hsh (Nat.zero_lt_succ 1)]
  simp only [Result.andThen]
  rw [Oper.upon_value]
  go_wp2
  rw [run_callFunc_extern Tryz.func151 (by kernel_rfl) (by kernel_rfl) (by kernel_rfl) (e := Extern.AbiNoEscape.same) (by kernel_rfl)]
  rw [Lib.run_noEscape]
  simp only [Result.andThen]
  rw [Oper.upon_value]
  go_wp2
  rw [Lib.run_from_unsafe w ⟨b, 0, none⟩ Tryz.underlying180 Tryz.underlying130 hj hsh bld_lies]
  simp only [Result.andThen]
  rw [Oper.upon_value]
  go_wp2
  go_end0
  exact ⟨rfl, rfl⟩

theorem bld_copyCheck (B b : Nat) (bs : List Value) (w : World) (h : Lib.IsBuilder 133 5 B b bs w) :
    Calls Tryz.prog 131 #[.pointer (some ⟨b, 0, none⟩)] w fun e w' => e = .returned (.tuple #[]) ∧ (Lib.BuilderAt 133 5 B b (.pointer (some ⟨b, 0, none⟩)) bs w' ∧ Below B w w' ∧ Lib.OthersKept 5 (some b) w w') := by
  rcases h with h | h
  · refine (copyCheck_fresh b w h.cell0 h.shape h.frozen0).mono ?_
    rintro e w' ⟨rfl, rfl⟩
    exact ⟨rfl, h.used _, (Below.refl B w).setCell (p := ⟨b, 0, none⟩) h.1 _, (Lib.OthersKept.refl _ _ _).setCell ⟨b, 0, none⟩ rfl _⟩
  · refine (copyCheck_used b w h.cell0).mono ?_
    rintro e w' ⟨rfl, rfl⟩
    exact ⟨rfl, h, Below.refl B _, Lib.OthersKept.refl _ _ _⟩

set_option maxHeartbeats 1000000 in
set_option maxRecDepth 100000 in
theorem bld_WriteByte (B b : Nat) (bs : List Value) (c : Int) (w : World) (h : Lib.IsBuilder 133 5 B b bs w) (hlen : bs.length + 1 ≤ 140737488355328) (hBw : B ≤ w.heap.size) :
    Calls Tryz.prog 96 #[.pointer (some ⟨b, 0, none⟩), .int .u8 c] w fun e w' => e = .returned .nilIface ∧ (Lib.BuilderAt 133 5 B b (.pointer (some ⟨b, 0, none⟩)) (bs ++ [.int .u8 c]) w' ∧ Below B w w' ∧ Lib.OthersKept 5 (some b) w w') := by
  obtain ⟨i0, hi, hz0, hz1, hz2⟩ := info_parts info_byte
  go_enter Tryz.func96, Tryz.ntmps96
  go_wp2_with (go_at_call 131; refine (bld_copyCheck B b bs _ h).mono ?_)
  rintro e w1 ⟨rfl, h1, hb1, hk1⟩
  obtain ⟨hB, v, hbk, hown, hne⟩ := h1
  have c0 : w1.cell? ⟨b, 0, none⟩ = some (.pointer (some ⟨b, 0, none⟩)) := by rw [Lib.cell_of_heap hbk]; rfl
  have c1 : w1.cell? ⟨b, 1, none⟩ = some v := by rw [Lib.cell_of_heap hbk]; rfl
  go_wp2_with (at_builtin; refine wpList_append_own _ rfl _ _ 131 rfl B 5 i0 (.int .u8 0) 1 1 Tryz.underlying131 hi hz0 hz1 hz2 rfl (by decide) _ _ _ rfl (hown.alloc _) ⟨w1.heap.size, 0, none⟩ 1 1 [.int .u8 c] rfl rfl ?c1 ?c2 ?c3 ?c4 ?c5 ?_)
  case c1 =>
    intro j u hj
    match j, hj with
    | 0, hj => simp at hj; subst hj; simp [Addr.add]
  case c2 => intro u hu; simp at hu; subst hu; rfl
  case c3 => unfold maxLen; omega
  case c4 => omega
  case c5 => have := hb1.size; simp; omega
  intro v' w2 hown' hgrow _
  have hlt : b < w1.heap.size := by
    rcases Nat.lt_or_ge b w1.heap.size with h' | h'
    · exact h'
    · simp [Array.getElem?_eq_none h'] at hbk
  have hb2 : w2.heap[b]? = some (.cells #[.pointer (some ⟨b, 0, none⟩), v] 133 (0, 0)) := by
    rw [hgrow.block b (by simp; omega) (fun e => hne e.symm), Lib.alloc_old w1 _ b hlt]
    exact hbk
  have d0 : w2.cell? ⟨b, 0, none⟩ = some (.pointer (some ⟨b, 0, none⟩)) := by rw [Lib.cell_of_heap hb2]; rfl
  have d1 : w2.cell? ⟨b, 1, none⟩ = some v := by rw [Lib.cell_of_heap hb2]; rfl
  have f1 : w2.frozen? ⟨b, 1, none⟩ = false := Lib.frozen_of_heap hb2 1
  obtain ⟨g, cap, rfl⟩ : ∃ g cap, v' = .slice (some ⟨g, 0, none⟩) (bs.length + 1) cap := by
    rcases hown'.2 with ⟨_, h0⟩ | ⟨g, cap, cur, hv, _⟩
    · omega
    · exact ⟨g, cap, hv⟩
  go_wp2
  go_ret
  refine ⟨rfl, ?_, ?_, ?_⟩
  · exact Lib.BuilderAt.put (T := 133) (e := 5) hB hb2 (bs' := bs ++ [.int .u8 c]) (by simpa using hown') (by decide)
  · exact ((hb1.alloc (by have := hb1.size; omega) _).grown hgrow (by have := hb1.size; simp; omega) (fun k hk => (hown.lt k hk).1)).setCell (p := ⟨b, 1, none⟩) hB _
  · exact ((hk1.alloc _).grown hgrow fun g hg => owns_kind (hown.alloc _) g hg).setCell ⟨b, 1, none⟩ rfl _

set_option maxHeartbeats 1000000 in
set_option maxRecDepth 100000 in
theorem bld_WriteString (B b : Nat) (bs : List Value) (s : ByteArray) (w : World) (h : Lib.IsBuilder 133 5 B b bs w) (hlen : bs.length + s.size ≤ 140737488355328) (hBw : B ≤ w.heap.size) :
    Calls Tryz.prog 98 #[.pointer (some ⟨b, 0, none⟩), .string s] w fun e w' => e = .returned (.tuple #[.int .i64 s.size, .nilIface]) ∧ (Lib.BuilderAt 133 5 B b (.pointer (some ⟨b, 0, none⟩)) (bs ++ Lib.strCells s) w' ∧ Below B w w' ∧ Lib.OthersKept 5 (some b) w w') := by
  obtain ⟨i0, hi, hz0, hz1, hz2⟩ := info_parts info_byte
  go_enter Tryz.func98, Tryz.ntmps98
  go_wp2_with (go_at_call 131; refine (bld_copyCheck B b bs _ h).mono ?_)
  rintro e w1 ⟨rfl, h1, hb1, hk1⟩
  obtain ⟨hB, v, hbk, hown, hne⟩ := h1
  have c0 : w1.cell? ⟨b, 0, none⟩ = some (.pointer (some ⟨b, 0, none⟩)) := by rw [Lib.cell_of_heap hbk]; rfl
  have c1 : w1.cell? ⟨b, 1, none⟩ = some v := by rw [Lib.cell_of_heap hbk]; rfl
  go_wp2_with (at_builtin; refine Lib.wpList_append_own_string _ rfl _ _ 131 9 rfl B 5 i0 Tryz.underlying131 Tryz.underlying9 hi hz0 hz1 hz2 _ _ _ rfl hown s rfl ?c3 ?c4 ?c5 ?_)
  case c3 => unfold maxLen; omega
  case c4 => omega
  case c5 => have := hb1.size; omega
  intro v' w2 hown' hgrow _
  have hlt : b < w1.heap.size := by
    rcases Nat.lt_or_ge b w1.heap.size with h' | h'
    · exact h'
    · simp [Array.getElem?_eq_none h'] at hbk
  have hb2 : w2.heap[b]? = some (.cells #[.pointer (some ⟨b, 0, none⟩), v] 133 (0, 0)) := by
    rw [hgrow.block b hlt (fun e => hne e.symm)]
    exact hbk
  have d0 : w2.cell? ⟨b, 0, none⟩ = some (.pointer (some ⟨b, 0, none⟩)) := by rw [Lib.cell_of_heap hb2]; rfl
  have d1 : w2.cell? ⟨b, 1, none⟩ = some v := by rw [Lib.cell_of_heap hb2]; rfl
  have f1 : w2.frozen? ⟨b, 1, none⟩ = false := Lib.frozen_of_heap hb2 1
  obtain ⟨ao, n', cap, rfl⟩ : ∃ ao n' cap, v' = .slice ao n' cap := by
    rcases hown'.2 with ⟨hv, _⟩ | ⟨g, cap, cur, hv, _⟩
    · exact ⟨_, _, _, hv⟩
    · exact ⟨_, _, _, hv⟩
  go_wp2
  go_ret2
  refine ⟨rfl, ?_, ?_, ?_⟩
  · exact Lib.BuilderAt.put (T := 133) (e := 5) hB hb2 (bs' := bs ++ Lib.strCells s) (by simpa [Lib.strCells_length] using hown') (by decide)
  · exact (hb1.grown hgrow (by have := hb1.size; omega) (fun k hk => (hown.lt k hk).1)).setCell (p := ⟨b, 1, none⟩) hB _
  · exact (hk1.grown hgrow fun g hg => owns_kind hown g hg).setCell ⟨b, 1, none⟩ rfl _
end Go.Proofs.YtglkejlimeakbaaGreatDoor

namespace Go.Proofs.YtglkejlimeakbaaGreatDoor
open Go.RowKit


theorem data_app (a b : ByteArray) : (a ++ b).data.toList = a.data.toList ++ b.data.toList := by simp
set_option maxRecDepth 100000 in
set_option maxHeartbeats 400000 in
theorem text_Quote (s : ByteArray) (w : World) (hg : Glob w) (hs : s.size ≤ 1000000000) :
    Calls Tryz.prog 99 #[.string s] w fun e w' => e = .returned (.string (S (quoteS s.data.toList))) ∧ Below w.heap.size w w' := by
  have hc : Lib.countB s ⟨#[34]⟩ ≤ s.size := Lib.countB_le ⟨#[34]⟩ (Nat.le_refl 1) _ s (Nat.le_refl _)
  have h2 : (⟨#[34, 34]⟩ : ByteArray).size = 2 := rfl
  have hcr := Tryz.strings_ReplaceAll_shaped s ⟨#[34]⟩ ⟨#[34, 34]⟩ w hg.shaped (by omega) (Nat.le_refl 1) (by rw [h2]; omega)
  rw [show (⟨#[34]⟩ : ByteArray).data.toList = [34] from rfl, show (⟨#[34, 34]⟩ : ByteArray).data.toList = [34, 34] from rfl, replaceAll_subst1 34 [34, 34] _ (by decide)] at hcr
  have hle := subst1_le s.data.toList
  have hsl : s.data.toList.length = s.size := by simp
  obtain ⟨X, hX⟩ : ∃ X : ByteArray, X = ⟨(subst1 34 [34, 34] s.data.toList).toArray⟩ := ⟨_, rfl⟩
  rw [← hX] at hcr
  have hXd : X.data.toList = subst1 34 [34, 34] s.data.toList := by rw [hX]
  have hXl : X.size = X.data.toList.length := by simp
  rw [hXd] at hXl
  have hXs : X.size ≤ 2000000000 := by omega
  clear hXl
  have HX := Lib.hid hXd
  have HCR := Lib.hid hcr
  clear hcr h2 hc hle hsl hX hXd
  have h1 : (⟨#[34]⟩ : ByteArray).size = 1 := rfl
  have a1 := fun W => run_string_add_sum (P := Tryz.prog) W ⟨#[34]⟩ X (by rw [h1]; omega)
  have a2 := fun W => run_string_add_sum (P := Tryz.prog) W (⟨#[34]⟩ ++ X) ⟨#[34]⟩ (by rw [ByteArray.size_append, h1]; omega)
  clear h1
  go_enter Tryz.func99, Tryz.ntmps99
  go_wp2_with (go_at_call 132; refine HCR.out.mono ?_; rintro e w1 ⟨rfl, hb1⟩)
  go_ret
  refine ⟨ret_str ?_, hb1⟩
  rw [data_app, data_app, HX.out]
  rfl

theorem byteCells_app (a b : List UInt8) : Lib.byteCells (a ++ b) = Lib.byteCells a ++ Lib.byteCells b := by simp [Lib.byteCells]
theorem bld_byte (B b : Nat) (cur : List UInt8) (c : UInt8) (n : Int) (hn : n = c.toNat) (w : World) (h : Lib.IsBuilder 133 5 B b (Lib.byteCells cur) w) (hlen : cur.length ≤ 1000000000) (hBw : B ≤ w.heap.size) :
    Calls Tryz.prog 96 #[.pointer (some ⟨b, 0, none⟩), .int .u8 n] w fun e w' => e = .returned .nilIface ∧ Lib.IsBuilder 133 5 B b (Lib.byteCells (cur ++ [c])) w' ∧ Below B w w' ∧ Lib.OthersKept 5 (some b) w w' := by
  subst hn
  refine (bld_WriteByte B b (Lib.byteCells cur) c.toNat w h (by rw [Lib.byteCells_length]; omega) hBw).mono ?_
  rintro e w' ⟨he, h1, h2, h3⟩
  exact ⟨he, .inr (by rw [byteCells_app]; exact h1), h2, h3⟩
theorem bld_str (B b : Nat) (cur : List UInt8) (s : ByteArray) (w : World) (h : Lib.IsBuilder 133 5 B b (Lib.byteCells cur) w) (hlen : cur.length ≤ 1000000000) (hs : s.size ≤ 10000000000) (hBw : B ≤ w.heap.size) :
    Calls Tryz.prog 98 #[.pointer (some ⟨b, 0, none⟩), .string s] w fun e w' => e = .returned (.tuple #[.int .i64 s.size, .nilIface]) ∧ Lib.IsBuilder 133 5 B b (Lib.byteCells (cur ++ s.data.toList)) w' ∧ Below B w w' ∧ Lib.OthersKept 5 (some b) w w' := by
  refine (bld_WriteString B b (Lib.byteCells cur) s w h (by rw [Lib.byteCells_length]; omega) hBw).mono ?_
  rintro e w' ⟨he, h1, h2, h3⟩
  exact ⟨he, .inr (by rw [byteCells_app]; exact h1), h2, h3⟩
/-- A block of the call's own, behind writes into the builder. -/
theorem kept_cell {e : TypeId} {b g : Nat} {w w' : World} {cs : Array Value} {t : TypeId} (h : Lib.OthersKept e (some b) w w') (hg : Blk w g t cs) (hne : g ≠ b) (ht : t ≠ e) : Blk w' g t cs :=
  h g _ hg (by intro e; injection e with e; exact hne e) (by intro c fz hc; injection hc with _ h2; exact ht h2)
theorem lineW_drop {fs : List Fld} {m : Nat} (h : m < fs.length) (b : Bool) : lineW (fs.drop m) b = (if b then [] else [32]) ++ fieldW fs[m] ++ lineW (fs.drop (m + 1)) false := by
  rw [List.drop_eq_getElem_cons h, lineW]
/-- One field more. -/
theorem write_step {cur rest q : List UInt8} {fs : List Fld} {m : Nat} (h : m < fs.length) (hq : cur ++ (lineW (fs.drop m) (decide (m = 0)) ++ rest) = q) :
    (cur ++ (if m = 0 then [] else [32]) ++ fieldW fs[m]) ++ (lineW (fs.drop (m + 1)) (decide (m + 1 = 0)) ++ rest) = q := by
  rw [lineW_drop h] at hq
  rw [← hq]
  have : decide (m + 1 = 0) = false := by simp
  rw [this]
  by_cases h0 : m = 0 <;> simp [h0]
theorem write_len {cur rest q : List UInt8} {fs : List Fld} {m : Nat} (h : m < fs.length) (hq : cur ++ (lineW (fs.drop m) (decide (m = 0)) ++ rest) = q) :
    cur.length ≤ q.length ∧ (cur ++ (if m = 0 then [] else [32])).length ≤ q.length ∧ fs[m].text.length ≤ q.length := by
  have h1 := write_step h hq
  have h2 := fieldW_len fs[m]
  have h3 := congrArg List.length h1
  simp only [List.length_append] at h3 ⊢
  omega

/-- The state inside the loop over a line's fields: the builder in block B, the copies of the line and of the field in their blocks. -/
structure WrSt (B : Nat) (w : World) (go gi : Nat) (oc ic : Array Value) (cu : List UInt8) (W : World) : Prop where
  bld : Lib.IsBuilder 133 5 B B (Lib.byteCells cu) W
  bel : Below B w W
  bo : Blk W go 56 oc
  bi : Blk W gi 87 ic
  no : go ≠ B
  ni : gi ≠ B
section
variable {B : Nat} {w : World} {go gi : Nat} {oc ic : Array Value} {cu cu' : List UInt8} {W W' : World}
theorem WrSt.below (h : WrSt B w go gi oc ic cu W) (hB : B ≤ W.heap.size) (hb : Below W.heap.size W W') : WrSt B w go gi oc ic cu W' :=
  ⟨builder_keep h.bld hb, h.bel.trans (hb.mono hB), h.bo.below hb h.bo.lt, h.bi.below hb h.bi.lt, h.no, h.ni⟩
theorem WrSt.write (h : WrSt B w go gi oc ic cu W) (h1 : Lib.IsBuilder 133 5 B B (Lib.byteCells cu') W') (h2 : Below B W W') (h3 : Lib.OthersKept 5 (some B) W W') : WrSt B w go gi oc ic cu' W' :=
  ⟨h1, h.bel.trans h2, kept_cell h3 h.bo h.no (by decide), kept_cell h3 h.bi h.ni (by decide), h.no, h.ni⟩
end

set_option maxRecDepth 100000 in
set_option maxHeartbeats 4000000 in
theorem text_Write (v : Value) (ls : List Lin) (w : World) (hg : Glob w) (hl : Sl 2 elLin w (· < w.heap.size) v ls) (hs : (writeS ls).length ≤ 1000000000) :
    Calls Tryz.prog 46 #[v] w fun e w' => e = .returned (.string (S (writeS ls))) ∧ Below w.heap.size w w' := by
  obtain ⟨A, c, rfl, hc1, hc2⟩ := hl.shape
  have HL := Lib.hid hl
  have HG := Lib.hid hg
  clear hl hg
  obtain ⟨q, hq⟩ : ∃ q, q = writeS ls := ⟨_, rfl⟩
  rw [← hq] at hs ⊢
  have HQ := Lib.hid hq
  clear hq
  go_enter Tryz.func46, Tryz.ntmps46
  go_wp2
  go_loopw [10] (fun i wr => ∃ (k : Nat) (cur : List UInt8), k ≤ ls.length ∧ i = .int .i64 k ∧ Lib.IsBuilder 133 5 w.heap.size w.heap.size (Lib.byteCells cur) wr ∧ Below w.heap.size w wr ∧ w.heap.size < wr.heap.size ∧ Hid (cur ++ writeS (ls.drop k) = q))
    (fun i _ => ls.length - (intOf i).toNat)
  case atStart => exact ⟨0, [], Nat.zero_le _, rfl, Lib.fresh_isBuilder _ _ w, (Below.refl _ _).alloc (Nat.le_refl _) _, by simp, HQ.out.symm⟩
  case round =>
    obtain ⟨k, cur, hk, rfl, hbld, hbel, hsz, hqk⟩ := hrel
    obtain ⟨wo, rfl⟩ : ∃ wo : World, wo = wr := ⟨_, rfl⟩
    by_cases hlt : k < ls.length
    · obtain ⟨b, o, cs, rfl, hF, hcl, hcc, hel⟩ := HL.out.at hlt
      have hqk' := hqk.out
      rw [drop_get hlt, writeS] at hqk'
      obtain ⟨⟨xn, fs⟩, hx⟩ : ∃ x, x = ls[k] := ⟨_, rfl⟩
      rw [← hx] at hel hqk'
      clear hx hqk
      obtain ⟨fv, rfl, hfl⟩ := hel
      dsimp only at hfl hcc hqk'
      obtain ⟨A2, c2, rfl, hf1, hf2⟩ := hfl.shape
      have HFL := Lib.hid hfl
      have x0 : wo.cell? ⟨b, o + k * 2, none⟩ = some (.int .i64 xn) := (hbel.cell (p := ⟨b, o + k * 2, none⟩) hF).trans (hcc 0 _ rfl)
      have x1 : wo.cell? ⟨b, o + k * 2 + 1, none⟩ = some (.slice A2 fs.length c2) := (hbel.cell (p := ⟨b, o + k * 2 + 1, none⟩) hF).trans (hcc 1 _ rfl)
      rw [List.append_assoc] at hqk'
      have HQK := Lib.hid hqk'
      clear hfl hcc hqk'
      go_wp2
      have hbld0 := builder_keep hbld ((Below.refl wo.heap.size wo).alloc (Nat.le_refl _) (.cells #[.int .i64 xn, .slice A2 fs.length c2] 56))
      have hbel0 := hbel.alloc (B := w.heap.size) (by omega) (.cells #[.int .i64 xn, .slice A2 fs.length c2] 56)
      have hblk := Blk.new wo 56 #[.int .i64 xn, .slice A2 fs.length c2]
      have hsz0 : wo.heap.size < (wo.alloc (.cells #[.int .i64 xn, .slice A2 fs.length c2] 56)).heap.size := by simp
      have HB0 := Lib.hid hbld0
      have HB1 := Lib.hid hbel0
      have HB2 := Lib.hid hblk
      have HB3 := Lib.hid hsz0
      clear hbld0 hbel0 hblk hsz0 x0 x1
      go_loopw [17] (fun j wr => ∃ (m : Nat) (cu : List UInt8), m ≤ fs.length ∧ j = .int .i64 m ∧ Lib.IsBuilder 133 5 w.heap.size w.heap.size (Lib.byteCells cu) wr ∧ Below w.heap.size w wr ∧ wo.heap.size < wr.heap.size ∧ Hid (Blk wr wo.heap.size 56 #[.int .i64 xn, .slice A2 fs.length c2]) ∧ Hid (cu ++ (lineW (fs.drop m) (decide (m = 0)) ++ (endW fs ++ writeS (ls.drop (k + 1)))) = q))
        (fun j _ => fs.length - (intOf j).toNat)
      case atStart => exact ⟨0, cur, Nat.zero_le _, rfl, HB0.out, HB1.out, HB3.out, HB2.out, HQK.out⟩
      case round =>
        obtain ⟨m, cu, hm, rfl, hbx, hbex, hsx, hblx, hqx⟩ := hrel
        by_cases hmt : m < fs.length
        · obtain ⟨b2, o2, cs2, rfl, hF2, hcl2, hcc2, hel2⟩ := HFL.out.at hmt
          have hstep := Lib.hid (write_step hmt hqx.out)
          obtain ⟨hln1, hln2, hln3⟩ := write_len hmt hqx.out
          obtain ⟨⟨ft, fc, fq⟩, hf⟩ : ∃ f, f = fs[m] := ⟨_, rfl⟩
          rw [← hf] at hel2 hstep hln3
          clear hf hqx
          have hel2' : cs2 = [.string (S ft), .int .i64 fc, .bool fq] := hel2
          subst hel2'
          dsimp only at hln3
          have y0 : wr.cell? ⟨b2, o2 + m * 3, none⟩ = some (.string (S ft)) := (hbex.cell (p := ⟨b2, o2 + m * 3, none⟩) hF2).trans (hcc2 0 _ rfl)
          have y1 : wr.cell? ⟨b2, o2 + m * 3 + 1, none⟩ = some (.int .i64 fc) := (hbex.cell (p := ⟨b2, o2 + m * 3 + 1, none⟩) hF2).trans (hcc2 1 _ rfl)
          have y2 : wr.cell? ⟨b2, o2 + m * 3 + 2, none⟩ = some (.bool fq) := (hbex.cell (p := ⟨b2, o2 + m * 3 + 2, none⟩) hF2).trans (hcc2 2 _ rfl)
          clear hcc2 hel2 hcl2
          have hst0 : WrSt w.heap.size w wo.heap.size wr.heap.size #[.int .i64 xn, .slice (some ⟨b2, o2, none⟩) fs.length c2] #[.string (S ft), .int .i64 fc, .bool fq] cu (wr.alloc (.cells #[.string (S ft), .int .i64 fc, .bool fq] 87)) :=
            ⟨builder_keep hbx ((Below.refl wr.heap.size wr).alloc (Nat.le_refl _) _), hbex.alloc (by omega) _, hblx.out.alloc _, Blk.new wr _ _, by omega, by omega⟩
          have ST0 := Lib.hid hst0
          have hz0 : (wr.alloc (.cells #[.string (S ft), .int .i64 fc, .bool fq] 87)).heap.size = wr.heap.size + 1 := by simp
          have HZ0 := Lib.hid hz0
          clear hst0 hz0
          by_cases hm0 : m = 0
          · have Hm := Lib.hid hm0
            have tm : ¬ (0 : Int) < (m : Int) := by omega
            clear hm0
            cases fq
            · cases hw : wordS ft
              · have Hw := Lib.hid hw
                go_wp2_with (first | (go_at_call 97; refine (text_word (S ft) _ (by simp only [S_size]; unfold maxLen; omega)).mono ?_; rintro e w4 ⟨rfl, hb4⟩; have st4 := Lib.hid ((ST0.out).below (by have := HZ0.out; omega) hb4); have z40 := st4.out.bi.cell 0; have hs4 := hb4.size; have hs4q := HZ0.out; clear hb4; simp only [List.getElem?_toArray, List.getElem?_cons_zero, List.getElem?_cons_succ] at z40) | (go_at_call 99; refine (text_Quote (S ft) _ (HG.out.below (st4.out).bel) (by simp only [S_size]; omega)).mono ?_; rintro e w5 ⟨rfl, hb5⟩; have st5 := Lib.hid ((st4.out).below (by omega) hb5); have hs5 := hb5.size; clear hb5) | (go_at_call 98; refine (bld_str w.heap.size w.heap.size cu (S (quoteS (S ft).data.toList)) _ (st5.out).bld (by first | omega | (simp only [List.length_append, List.length_cons, List.length_nil] at *; omega)) (by simp only [S_size, S_data]; have := quoteS_le ft; omega) (by omega)).mono ?_; rintro e w6 ⟨rfl, hb6, hbe6, hk6⟩))
                have st6 := (st5.out).write hb6 hbe6 hk6
                have hs6 := hbe6.size
                go_roundw
                case rel => exact ⟨m + 1, _, by omega, by go_num, st6.bld, st6.bel, by have := st6.bo.lt; omega, st6.bo, by unfold Hid; have hq := hstep.out; simp only [fieldW, Hw.out, Bool.false_or, Bool.not_false, if_true] at hq; rw [if_pos Hm.out, List.append_nil] at hq; simpa using hq⟩
                case measure => simp [intOf]; omega
              · have Hw := Lib.hid hw
                go_wp2_with (first | (go_at_call 97; refine (text_word (S ft) _ (by simp only [S_size]; unfold maxLen; omega)).mono ?_; rintro e w4 ⟨rfl, hb4⟩; have st4 := Lib.hid ((ST0.out).below (by have := HZ0.out; omega) hb4); have z40 := st4.out.bi.cell 0; have hs4 := hb4.size; have hs4q := HZ0.out; clear hb4; simp only [List.getElem?_toArray, List.getElem?_cons_zero, List.getElem?_cons_succ] at z40) | (go_at_call 98; refine (bld_str w.heap.size w.heap.size cu (S ft) _ (st4.out).bld (by first | omega | (simp only [List.length_append, List.length_cons, List.length_nil] at *; omega)) (by simp only [S_size]; omega) (by omega)).mono ?_; rintro e w6 ⟨rfl, hb6, hbe6, hk6⟩))
                have st6 := (st4.out).write hb6 hbe6 hk6
                have hs6 := hbe6.size
                go_roundw
                case rel => exact ⟨m + 1, _, by omega, by go_num, st6.bld, st6.bel, by have := st6.bo.lt; omega, st6.bo, by unfold Hid; have hq := hstep.out; simp only [fieldW, Hw.out, Bool.false_or, Bool.not_true, Bool.false_eq_true, if_false] at hq; rw [if_pos Hm.out, List.append_nil] at hq; simpa using hq⟩
                case measure => simp [intOf]; omega
            · skip
              go_wp2_with (first | (go_at_call 99; refine (text_Quote (S ft) _ (HG.out.below (ST0.out).bel) (by simp only [S_size]; omega)).mono ?_; rintro e w5 ⟨rfl, hb5⟩; have st5 := Lib.hid ((ST0.out).below (by have := HZ0.out; omega) hb5); have hs5 := hb5.size; have hs5q := HZ0.out; clear hb5) | (go_at_call 98; refine (bld_str w.heap.size w.heap.size cu (S (quoteS (S ft).data.toList)) _ (st5.out).bld (by first | omega | (simp only [List.length_append, List.length_cons, List.length_nil] at *; omega)) (by simp only [S_size, S_data]; have := quoteS_le ft; omega) (by omega)).mono ?_; rintro e w6 ⟨rfl, hb6, hbe6, hk6⟩))
              have st6 := (st5.out).write hb6 hbe6 hk6
              have hs6 := hbe6.size
              go_roundw
              case rel => exact ⟨m + 1, _, by omega, by go_num, st6.bld, st6.bel, by have := st6.bo.lt; omega, st6.bo, by unfold Hid; have hq := hstep.out; simp only [fieldW, Bool.true_or, if_true] at hq; rw [if_pos Hm.out, List.append_nil] at hq; simpa using hq⟩
              case measure => simp [intOf]; omega
          · have Hm := Lib.hid hm0
            have tm : (0 : Int) < (m : Int) := by omega
            rw [if_neg hm0] at hln2
            simp only [List.length_append, List.length_cons, List.length_nil] at hln2
            clear hm0
            cases fq
            · cases hw : wordS ft
              · have Hw := Lib.hid hw
                go_wp2_with (first | (go_at_call 96; refine (bld_byte w.heap.size w.heap.size cu 32 _ rfl _ ST0.out.bld (by omega) (by have := HZ0.out; omega)).mono ?_; rintro e w3 ⟨rfl, hb3, hbe3, hk3⟩; have st3 := Lib.hid (ST0.out.write hb3 hbe3 hk3); have z30 := st3.out.bi.cell 0; have z32 := st3.out.bi.cell 2; have hs3 := hbe3.size; have hs3' := HZ0.out; clear hb3 hbe3 hk3; simp only [List.getElem?_toArray, List.getElem?_cons_zero, List.getElem?_cons_succ] at z30 z32) | (go_at_call 97; refine (text_word (S ft) _ (by simp only [S_size]; unfold maxLen; omega)).mono ?_; rintro e w4 ⟨rfl, hb4⟩; have st4 := Lib.hid ((st3.out).below (by omega) hb4); have z40 := st4.out.bi.cell 0; have hs4 := hb4.size; clear hb4; simp only [List.getElem?_toArray, List.getElem?_cons_zero, List.getElem?_cons_succ] at z40) | (go_at_call 99; refine (text_Quote (S ft) _ (HG.out.below (st4.out).bel) (by simp only [S_size]; omega)).mono ?_; rintro e w5 ⟨rfl, hb5⟩; have st5 := Lib.hid ((st4.out).below (by omega) hb5); have hs5 := hb5.size; clear hb5) | (go_at_call 98; refine (bld_str w.heap.size w.heap.size (cu ++ [32]) (S (quoteS (S ft).data.toList)) _ (st5.out).bld (by first | omega | (simp only [List.length_append, List.length_cons, List.length_nil] at *; omega)) (by simp only [S_size, S_data]; have := quoteS_le ft; omega) (by omega)).mono ?_; rintro e w6 ⟨rfl, hb6, hbe6, hk6⟩))
                have st6 := (st5.out).write hb6 hbe6 hk6
                have hs6 := hbe6.size
                go_roundw
                case rel => exact ⟨m + 1, _, by omega, by go_num, st6.bld, st6.bel, by have := st6.bo.lt; omega, st6.bo, by unfold Hid; have hq := hstep.out; simp only [fieldW, Hw.out, Bool.false_or, Bool.not_false, if_true] at hq; rw [if_neg Hm.out] at hq; simpa using hq⟩
                case measure => simp [intOf]; omega
              · have Hw := Lib.hid hw
                go_wp2_with (first | (go_at_call 96; refine (bld_byte w.heap.size w.heap.size cu 32 _ rfl _ ST0.out.bld (by omega) (by have := HZ0.out; omega)).mono ?_; rintro e w3 ⟨rfl, hb3, hbe3, hk3⟩; have st3 := Lib.hid (ST0.out.write hb3 hbe3 hk3); have z30 := st3.out.bi.cell 0; have z32 := st3.out.bi.cell 2; have hs3 := hbe3.size; have hs3' := HZ0.out; clear hb3 hbe3 hk3; simp only [List.getElem?_toArray, List.getElem?_cons_zero, List.getElem?_cons_succ] at z30 z32) | (go_at_call 97; refine (text_word (S ft) _ (by simp only [S_size]; unfold maxLen; omega)).mono ?_; rintro e w4 ⟨rfl, hb4⟩; have st4 := Lib.hid ((st3.out).below (by omega) hb4); have z40 := st4.out.bi.cell 0; have hs4 := hb4.size; clear hb4; simp only [List.getElem?_toArray, List.getElem?_cons_zero, List.getElem?_cons_succ] at z40) | (go_at_call 98; refine (bld_str w.heap.size w.heap.size (cu ++ [32]) (S ft) _ (st4.out).bld (by first | omega | (simp only [List.length_append, List.length_cons, List.length_nil] at *; omega)) (by simp only [S_size]; omega) (by omega)).mono ?_; rintro e w6 ⟨rfl, hb6, hbe6, hk6⟩))
                have st6 := (st4.out).write hb6 hbe6 hk6
                have hs6 := hbe6.size
                go_roundw
                case rel => exact ⟨m + 1, _, by omega, by go_num, st6.bld, st6.bel, by have := st6.bo.lt; omega, st6.bo, by unfold Hid; have hq := hstep.out; simp only [fieldW, Hw.out, Bool.false_or, Bool.not_true, Bool.false_eq_true, if_false] at hq; rw [if_neg Hm.out] at hq; simpa using hq⟩
                case measure => simp [intOf]; omega
            · skip
              go_wp2_with (first | (go_at_call 96; refine (bld_byte w.heap.size w.heap.size cu 32 _ rfl _ ST0.out.bld (by omega) (by have := HZ0.out; omega)).mono ?_; rintro e w3 ⟨rfl, hb3, hbe3, hk3⟩; have st3 := Lib.hid (ST0.out.write hb3 hbe3 hk3); have z30 := st3.out.bi.cell 0; have z32 := st3.out.bi.cell 2; have hs3 := hbe3.size; have hs3' := HZ0.out; clear hb3 hbe3 hk3; simp only [List.getElem?_toArray, List.getElem?_cons_zero, List.getElem?_cons_succ] at z30 z32) | (go_at_call 99; refine (text_Quote (S ft) _ (HG.out.below (st3.out).bel) (by simp only [S_size]; omega)).mono ?_; rintro e w5 ⟨rfl, hb5⟩; have st5 := Lib.hid ((st3.out).below (by omega) hb5); have hs5 := hb5.size; clear hb5) | (go_at_call 98; refine (bld_str w.heap.size w.heap.size (cu ++ [32]) (S (quoteS (S ft).data.toList)) _ (st5.out).bld (by first | omega | (simp only [List.length_append, List.length_cons, List.length_nil] at *; omega)) (by simp only [S_size, S_data]; have := quoteS_le ft; omega) (by omega)).mono ?_; rintro e w6 ⟨rfl, hb6, hbe6, hk6⟩))
              have st6 := (st5.out).write hb6 hbe6 hk6
              have hs6 := hbe6.size
              go_roundw
              case rel => exact ⟨m + 1, _, by omega, by go_num, st6.bld, st6.bel, by have := st6.bo.lt; omega, st6.bo, by unfold Hid; have hq := hstep.out; simp only [fieldW, Bool.true_or, if_true] at hq; rw [if_neg Hm.out] at hq; simpa using hq⟩
              case measure => simp [intOf]; omega
        · have hz1 := hblx.out.cell 1
          simp only [List.getElem?_toArray, List.getElem?_cons_zero, List.getElem?_cons_succ] at hz1
          have hqe : cu ++ (endW fs ++ writeS (ls.drop (k + 1))) = q := by
            have := hqx.out
            rw [List.drop_of_length_le (by omega)] at this
            simpa [lineW] using this
          have hcul : cu.length ≤ q.length := by rw [← hqe]; simp
          have HQE := Lib.hid hqe
          clear hqe
          by_cases hne : fs = []
          · have hl0 : ¬ (0 : Int) < (fs.length : Int) := by rw [hne]; simp
            have hend : endW fs = [] := by rw [hne]; rfl
            have HE := Lib.hid hend
            clear hne hend
            go_wp2
            go_roundw
            case rel => exact ⟨k + 1, cu, by omega, by go_num, hbx, hbex, by omega, by unfold Hid; rw [← HQE.out, HE.out]; rfl⟩
            case measure => simp [intOf]; omega
          · have hl0 : (0 : Int) < (fs.length : Int) := by have := List.length_pos_iff.2 hne; omega
            have hend : endW fs = [10] := by unfold endW; rw [if_neg]; simpa using hne
            have HE := Lib.hid hend
            clear hne hend
            go_wp2_with (go_at_call 96; refine (bld_byte w.heap.size w.heap.size cu 10 _ rfl _ hbx (by omega) (by omega)).mono ?_; rintro e w3 ⟨rfl, hb3, hbe3, hk3⟩)
            have hs3 := hbe3.size
            go_roundw
            case rel => exact ⟨k + 1, _, by omega, by go_num, hb3, hbex.trans hbe3, by omega, by unfold Hid; rw [← HQE.out, HE.out]; simp⟩
            case measure => simp [intOf]; omega
    · go_wp2_with (go_at_call 100; refine (Tryz.Builder_String_any w.heap.size w.heap.size cur _ hbld (by omega)).mono ?_; rintro e w2 ⟨rfl, hb2⟩)
      go_ret
      have hfin : cur = q := by rw [← hqk.out, List.drop_of_length_le (by omega)]; simp [writeS]
      exact ⟨ret_str hfin, hbel.trans hb2⟩
end Go.Proofs.YtglkejlimeakbaaGreatDoor

namespace Go.Proofs.YtglkejlimeakbaaGreatDoor
section
/-! part N2 -/
open Go.RowKit

theorem trimPrefix_body (l : List UInt8) : Lib.trimPrefix l [45] = bodyD l := by
  unfold Lib.trimPrefix Lib.hasPrefix bodyD negB
  cases l with
  | nil => rfl
  | cons c r =>
    have : [45].isPrefixOf (c :: r) = (45 == c) := by simp [List.isPrefixOf]
    rw [this]
    by_cases h : c = 45
    · subst h; simp
    · have h1 : ((45 : UInt8) == c) = false := beq_eq_false_iff_ne.2 (Ne.symm h)
      have h2 : ((c :: r).head? == some 45) = false := by simp [h]
      rw [h1, h2]; simp
theorem isEmptyT {s : ByteArray} (h : s.size = 0) : s.toList.isEmpty = true := by rw [ByteArray.toList_eq, List.isEmpty_iff, ← List.length_eq_zero_iff]; simpa using h
theorem isEmptyF {s : ByteArray} (h : s.size ≠ 0) : s.toList.isEmpty = false := by rw [Bool.eq_false_iff]; intro h'; rw [ByteArray.toList_eq, List.isEmpty_iff, ← List.length_eq_zero_iff] at h'; exact h (by simpa using h')
theorem headG {s : ByteArray} (h : 0 < s.size) : s.data.toList.head? = some s[0] := by
  have : s.data.toList = s[0] :: s.data.toList.drop 1 := by have := drop_cons s 0 h; simpa using this
  rw [this]; rfl
theorem body_len (l : List UInt8) : (bodyD l).length ≤ l.length := by unfold bodyD; split <;> simp
set_option maxRecDepth 100000 in
set_option maxHeartbeats 2000000 in
theorem text_decimal (s : ByteArray) (w : World) (hs : s.size ≤ maxLen) :
    Calls Tryz.prog 118 #[.string s] w fun e w' => e = .returned (.bool (decB s.data.toList)) ∧ Below w.heap.size w w' := by
  unfold maxLen at hs
  obtain ⟨z, hz⟩ : ∃ z, z = decB s.data.toList := ⟨_, rfl⟩
  rw [← hz]
  unfold decB at hz
  have hbl := body_len s.data.toList
  have hsl : s.data.toList.length = s.size := by simp
  obtain ⟨d, hd⟩ : ∃ d : ByteArray, d = S (bodyD s.data.toList) := ⟨_, rfl⟩
  have hdd : d.data.toList = bodyD s.data.toList := by rw [hd]; rfl
  have hds : d.size ≤ 9223372036854775807 := by rw [hd, S_size]; omega
  rw [← hdd] at hz
  have tp : ∀ W, Calls Tryz.prog 139 #[.string s, .string ⟨#[45]⟩] W fun e W' => e = .returned (.string d) ∧ W = W' := fun W => by
    refine (Tryz.strings_TrimPrefix s ⟨#[45]⟩ W).mono ?_
    rintro e W' ⟨rfl, rfl⟩
    refine ⟨?_, rfl⟩
    rw [show (⟨#[45]⟩ : ByteArray).data.toList = [45] from rfl, trimPrefix_body, hd]; rfl
  have tm : ∀ W, Calls Tryz.prog 140 #[.string d, .string ⟨#[48, 49, 50, 51, 52, 53, 54, 55, 56, 57]⟩] W fun e W' => ∃ t : ByteArray, e = .returned (.string t) ∧ t.toList.isEmpty = d.data.toList.all digB ∧ Below W.heap.size W W' := fun W => by
    refine (Any.strings_Trim_laid Tryz.lays160 (by kernel_rfl) d ⟨#[48, 49, 50, 51, 52, 53, 54, 55, 56, 57]⟩ W hds (by decide) (ascii_of_all (by decide))).mono ?_
    rintro e W' ⟨rfl, hb⟩
    refine ⟨_, rfl, ?_, hb⟩
    rw [show (⟨#[48, 49, 50, 51, 52, 53, 54, 55, 56, 57]⟩ : ByteArray).data.toList = digits10 from rfl]
    rw [ByteArray.toList_eq, Bool.eq_iff_iff, List.isEmpty_iff]
    exact trim_digits _
  have TP := Lib.hid tp
  have TM := Lib.hid tm
  clear tp tm hbl hsl hdd
  by_cases h0 : d.size = 0
  · have e0 := isEmptyT h0
    have hn : d.data.toList = [] := List.eq_nil_of_length_eq_zero (by simpa using h0)
    rw [hn] at hz
    have HZ := Lib.hid hz
    clear hz hn hd h0
    go_enter Tryz.func118, Tryz.ntmps118
    go_wp2_with (go_at_call 139; refine (TP.out _).mono ?_; rintro e w2 ⟨rfl, rfl⟩)
    go_ret
    exact ⟨ret_b (by rw [HZ.out]; rfl), Below.refl _ _⟩
  · have e0 := isEmptyF h0
    have h1 : 0 < d.size := Nat.pos_of_ne_zero h0
    have hne : d.data.toList.isEmpty = false := by rw [← ByteArray.toList_eq]; exact e0
    rw [hne, headG h1] at hz
    by_cases hc : d[0] = 48
    · have e1 : ((d[0].toNat : Int) == 48) = true := by rw [hc]; rfl
      by_cases hl : s.data.toList = [48]
      · have e2 : (s.toList == [48]) = true := by rw [ByteArray.toList_eq]; exact beq_iff_eq.2 hl
        have e3 : (s.data.toList == [48]) = true := beq_iff_eq.2 hl
        rw [e3, hc] at hz
        have HZ := Lib.hid hz
        clear hz hl hd hc h0 e3 hne
        go_enter Tryz.func118, Tryz.ntmps118
        go_wp2_with (first | (go_at_call 139; refine (TP.out _).mono ?_; rintro e w2 ⟨rfl, rfl⟩) | (go_at_call 140; refine (TM.out _).mono ?_; rintro e w3 ⟨t, rfl, ht, hb⟩; have HT := Lib.hid ht; clear ht))
        go_ret
        exact ⟨ret_b (by rw [HZ.out, HT.out]; simp), hb⟩
      · have e2 : (s.toList == [48]) = false := by rw [ByteArray.toList_eq]; exact beq_eq_false_iff_ne.2 hl
        have e3 : (s.data.toList == [48]) = false := beq_eq_false_iff_ne.2 hl
        rw [e3, hc] at hz
        have HZ := Lib.hid hz
        clear hz hl hd hc h0 e3 hne
        go_enter Tryz.func118, Tryz.ntmps118
        go_wp2_with (go_at_call 139; refine (TP.out _).mono ?_; rintro e w2 ⟨rfl, rfl⟩)
        go_ret
        exact ⟨ret_b (by rw [HZ.out]; simp), Below.refl _ _⟩
    · have e1 : ((d[0].toNat : Int) == 48) = false := beq_eq_false_iff_ne.2 (fun h => hc (UInt8.toNat_inj.1 (by have e : (48 : UInt8).toNat = 48 := rfl; omega)))
      have e3 : ((some d[0]) == some (48 : UInt8)) = false := by simp [hc]
      rw [e3] at hz
      have HZ := Lib.hid hz
      clear hz hd hc h0 e3 hne
      go_enter Tryz.func118, Tryz.ntmps118
      go_wp2_with (first | (go_at_call 139; refine (TP.out _).mono ?_; rintro e w2 ⟨rfl, rfl⟩) | (go_at_call 140; refine (TM.out _).mono ?_; rintro e w3 ⟨t, rfl, ht, hb⟩; have HT := Lib.hid ht; clear ht))
      go_ret
      exact ⟨ret_b (by rw [HZ.out, HT.out]; simp), hb⟩
set_option maxRecDepth 100000 in
set_option maxHeartbeats 2000000 in
theorem text_Number (s : ByteArray) (lo hi : Int) (w : World) (hg : GlobN w) (hs : s.size ≤ 281474976710656) :
    Calls Tryz.prog 77 #[.string s, .int .i64 lo, .int .i64 hi] w fun e w' => e = .returned (.tuple #[.int .i64 (numberS s.data.toList lo hi).1, .int .i64 (numberS s.data.toList lo hi).2]) ∧ Below w.heap.size w w' := by
  obtain ⟨z, hz⟩ : ∃ z, z = numberS s.data.toList lo hi := ⟨_, rfl⟩
  rw [← hz]
  unfold numberS at hz
  have hdc := text_decimal s w (by unfold maxLen; omega)
  cases hd : decB s.data.toList
  · rw [if_pos hd] at hz
    rw [hd] at hdc
    have HD := Lib.hid hdc
    have HZ := Lib.hid hz
    clear hz hd hdc hg
    go_enter Tryz.func77, Tryz.ntmps77
    go_wp2_with (go_at_call 118; refine HD.out.mono ?_; rintro e w2 ⟨rfl, hb⟩)
    go_ret2
    exact ⟨by rw [HZ.out] <;> rfl, hb⟩
  · rw [if_neg (by simp [hd])] at hz
    rw [hd] at hdc
    have hp := parse_dec hd
    have HD := Lib.hid hdc
    obtain ⟨v, hv⟩ : ∃ v, v = valI s.data.toList := ⟨_, rfl⟩
    rw [← hv] at hz hp
    clear hd hdc hv
    cases hf : fitB v
    · rw [hf] at hp hz
      rw [if_neg (by simp)] at hp hz
      have pr : ∀ W, Below w.heap.size w W → Calls Tryz.prog 119 #[.string s, .int .i64 10, .int .i64 64] W fun e W' => ∃ (x : Int) (T : TypeId) (N : Nat), e = .returned (.tuple #[.int .i64 x, .iface T (.pointer (some ⟨N, 0, none⟩))]) ∧ Below w.heap.size w W' := fun W hW => by
        obtain ⟨tp, p, h1⟩ := (hg.below hW).rng
        refine (Tryz.strconv_ParseInt_10_at64_range_var s hs hp tp p W h1).mono ?_
        rintro e W' ⟨N, rfl, _, _, hb⟩
        exact ⟨_, _, N, rfl, hW.trans (hb.mono hW.size)⟩
      have PR := Lib.hid pr
      have HZ := Lib.hid hz
      clear pr hz hp hg hf
      go_enter Tryz.func77, Tryz.ntmps77
      go_wp2_with (first | (go_at_call 118; refine HD.out.mono ?_; rintro e w2 ⟨rfl, hb⟩; have HB := Lib.hid hb; clear hb) | (go_at_call 119; refine (PR.out _ HB.out).mono ?_; rintro e w3 ⟨x, T, N, rfl, hb3⟩; have HB3 := Lib.hid hb3; clear hb3))
      go_ret2
      exact ⟨by rw [HZ.out] <;> rfl, HB3.out⟩
    · rw [hf] at hp hz
      rw [if_pos rfl] at hp
      have pr : ∀ W, Below w.heap.size w W → Calls Tryz.prog 119 #[.string s, .int .i64 10, .int .i64 64] W fun e W' => e = .returned (.tuple #[.int .i64 v, .nilIface]) ∧ Below w.heap.size w W' := fun W hW => by
        refine (Tryz.strconv_ParseInt_10_at64_ok s (by omega) v hp W).mono ?_
        rintro e W' ⟨rfl, hw⟩
        refine ⟨rfl, ?_⟩
        rcases hw with rfl | ⟨t, rfl⟩
        · exact hW
        · exact hW.trans ((Lib.bytesWorld_below _ _ _).mono hW.size)
      have PR := Lib.hid pr
      clear pr hp hg hf
      by_cases hlo : lo ≤ v
      · by_cases hhi : v ≤ hi
        · rw [if_pos ⟨rfl, hlo, hhi⟩] at hz
          have HZ := Lib.hid hz
          have e1 : decide (v < lo) = false := decide_eq_false (by omega)
          have e2 : decide (hi < v) = false := decide_eq_false (by omega)
          clear hz hlo hhi
          go_enter Tryz.func77, Tryz.ntmps77
          go_wp2_with (first | (go_at_call 118; refine HD.out.mono ?_; rintro e w2 ⟨rfl, hb⟩; have HB := Lib.hid hb; clear hb) | (go_at_call 119; refine (PR.out _ HB.out).mono ?_; rintro e w3 ⟨rfl, hb3⟩; have HB3 := Lib.hid hb3; clear hb3))
          go_ret2
          exact ⟨by rw [HZ.out] <;> rfl, HB3.out⟩
        · rw [if_neg (fun h => hhi h.2.2)] at hz
          have HZ := Lib.hid hz
          have e1 : decide (v < lo) = false := decide_eq_false (by omega)
          have e2 : decide (hi < v) = true := decide_eq_true (by omega)
          clear hz hlo hhi
          go_enter Tryz.func77, Tryz.ntmps77
          go_wp2_with (first | (go_at_call 118; refine HD.out.mono ?_; rintro e w2 ⟨rfl, hb⟩; have HB := Lib.hid hb; clear hb) | (go_at_call 119; refine (PR.out _ HB.out).mono ?_; rintro e w3 ⟨rfl, hb3⟩; have HB3 := Lib.hid hb3; clear hb3))
          go_ret2
          exact ⟨by rw [HZ.out] <;> rfl, HB3.out⟩
      · rw [if_neg (fun h => hlo h.2.1)] at hz
        have HZ := Lib.hid hz
        have e1 : decide (v < lo) = true := decide_eq_true (by omega)
        clear hz hlo
        go_enter Tryz.func77, Tryz.ntmps77
        go_wp2_with (first | (go_at_call 118; refine HD.out.mono ?_; rintro e w2 ⟨rfl, hb⟩; have HB := Lib.hid hb; clear hb) | (go_at_call 119; refine (PR.out _ HB.out).mono ?_; rintro e w3 ⟨rfl, hb3⟩; have HB3 := Lib.hid hb3; clear hb3))
        go_ret2
        exact ⟨by rw [HZ.out] <;> rfl, HB3.out⟩
end

section
/-! part N3 -/
open Go.RowKit

theorem grow_below (w : World) (k : Nat) (os : Array Obj) : Below w.heap.size w (Sort.grow (w.drewN k) os) := Lib.below_grow _ w (Nat.le_refl _) k os
set_option maxRecDepth 100000 in
theorem text_Decimal (n : Int) (w : World) (hg : GlobN w) (h0 : -9223372036854775808 ≤ n) (h1 : n ≤ 9223372036854775807) :
    Calls Tryz.prog 45 #[.int .i64 n] w fun e w' => e = .returned (.string (S (Lib.itoa n))) ∧ Below w.heap.size w w' := by
  have hf := Tryz.strconv_FormatInt_10 n h0 h1 w hg.pow
  have HF := Lib.hid hf
  clear hf hg
  go_enter Tryz.func45, Tryz.ntmps45
  go_wp2_with (go_at_call 95; refine HF.out.mono ?_; rintro e w2 ⟨rfl, k, os, rfl⟩)
  go_ret
  exact ⟨rfl, grow_below _ _ _⟩
end

section
/-! part N5 -/
open Go.RowKit

end
end Go.Proofs.YtglkejlimeakbaaGreatDoor

namespace Go.Proofs.YtglkejlimeakbaaGreatDoor
open Go.RowKit

/-- The operations of a region of a function's text. -/
def findR (n : Nat) : Code → Option (Array Oper)
  | .region id ops _ => if id = n then some ops else none
  | .seq a b => match findR n a with
    | some x => some x
    | none => findR n b
  | .cond _ a b => match findR n a with
    | some x => some x
    | none => findR n b
  | .block _ c => findR n c
  | .loop c => findR n c
  | .scope c => findR n c
  | _ => none
def backB (ops : Array Oper) : Bool := (List.range ops.size).all fun i => match ops[i]? with
  | some o => o.after.toList.all fun e => decide (e.on < i)
  | none => true
def dstB (ops : Array Oper) (N : Nat) : Bool := (List.range ops.size).all fun i => match ops[i]? with
  | some o => o.guard.isNone && (match o.dst with | some d => decide (d < N) | none => false)
  | none => true
def needB (ops : Array Oper) (needs : List (List Nat)) (init : List Nat) : Bool := (List.range ops.size).all fun i => match ops[i]? with
  | some o => (needs.getD i []).all fun d => init.contains d || o.after.toList.any fun e => Region.binds .any e && (match ops[e.on]? with | some p => p.dst == some d | none => false)
  | none => true
theorem back_of {ops : Array Oper} (h : backB ops = true) : ∀ (i : Nat) (o : Oper), ops[i]? = some o → ∀ e ∈ o.after, e.on < i := by
  intro i o ho e he
  have := List.all_eq_true.1 h i (List.mem_range.2 (Array.getElem?_eq_some_iff.1 ho).1)
  rw [ho] at this
  exact of_decide_eq_true (List.all_eq_true.1 this e (Array.mem_toList_iff.2 he))
theorem dst_of {ops : Array Oper} {N : Nat} (h : dstB ops N = true) : ∀ (i : Nat) (o : Oper), ops[i]? = some o → o.guard = none ∧ ∃ d, o.dst = some d ∧ d < N := by
  intro i o ho
  have := List.all_eq_true.1 h i (List.mem_range.2 (Array.getElem?_eq_some_iff.1 ho).1)
  rw [ho] at this
  simp only [Bool.and_eq_true, Option.isNone_iff_eq_none] at this
  refine ⟨this.1, ?_⟩
  have h2 := this.2
  cases hd : o.dst with
  | none => rw [hd] at h2; cases h2
  | some d => rw [hd] at h2; exact ⟨d, rfl, of_decide_eq_true h2⟩
theorem need_of {ops : Array Oper} {needs : List (List Nat)} {init : List Nat} (h : needB ops needs init = true) : ∀ (i : Nat) (o : Oper), ops[i]? = some o → ∀ d ∈ needs.getD i [], d ∈ init ∨ ∃ e ∈ o.after, Region.binds .any e = true ∧ ∃ p, ops[e.on]? = some p ∧ p.dst = some d := by
  intro i o ho d hd
  have := List.all_eq_true.1 h i (List.mem_range.2 (Array.getElem?_eq_some_iff.1 ho).1)
  rw [ho] at this
  have := List.all_eq_true.1 this d hd
  rcases Bool.or_eq_true_iff.1 this with h1 | h1
  · exact .inl (by simpa using h1)
  · obtain ⟨e, he, h2⟩ := List.any_eq_true.1 h1
    rw [Bool.and_eq_true] at h2
    refine .inr ⟨e, Array.mem_toList_iff.1 he, h2.1, ?_⟩
    cases hp : ops[e.on]? with
    | none => rw [hp] at h2; cases h2.2
    | some p => rw [hp] at h2; exact ⟨p, rfl, by simpa using h2.2⟩
theorem op_of {ops : Array Oper} {i : Nat} {o : Oper} {x : Op} {d : Option Tmp} (h : (ops[i]?).map (fun o => (o.op, o.dst)) = some (x, d)) (ho : ops[i]? = some o) : o.op = x ∧ o.dst = d := by
  rw [ho] at h
  simpa using h

def elStrs (w : World) (F : Nat → Prop) (cs : List Value) (l : List (List UInt8)) : Prop := ∃ v, cs = [v] ∧ Sl 1 elStr w F v l
theorem elStrs_good : Good elStrs := Sl.good elStr_good
inductive Kd where
  | val (v : Value)
  | strs (l : List (List UInt8))
  | line (l : List (List UInt8))
  | rows (ls : List Lin)
  | strss (l : List (List (List UInt8)))
  | non
/-- The blocks from B on. -/
abbrev Fr (B : Nat) (w : World) : Nat → Prop := fun b => B ≤ b ∧ b < w.heap.size
def Kd.ok (B : Nat) (w0 : World) : Kd → World → Value → Prop
  | .val u, _, v => v = u
  | .strs l, w, v => Sl 1 elStr w (Fr B w) v l
  | .line l, w, v => ∃ A n c, v = .agg #[.int .i64 0, .slice A n c] ∧ Sl 3 elFld w (Fr B w) (.slice A n c) (l.map wordF)
  | .rows ls, w, v => SplitInv B w0 w v noD ls []
  | .strss l, w, v => Sl 1 elStrs w (Fr B w) v l
  | .non, _, _ => False
theorem Fr.mono {B : Nat} {w w' : World} (hb : Below w.heap.size w w') : ∀ b, Fr B w b → Fr B w' b := fun b h => ⟨h.1, Nat.lt_of_lt_of_le h.2 hb.size⟩
theorem Sl.fr {α : Type} {size : Nat} {R : World → (Nat → Prop) → List Value → α → Prop} (hR : Good R) {B : Nat} {w w' : World} {v : Value} {l : List α} (h : Sl size R w (Fr B w) v l) (hb : Below w.heap.size w w') : Sl size R w' (Fr B w') v l :=
  h.keep hR (Same.below hb fun _ h => h.2) (Fr.mono hb)
theorem Kd.below {B : Nat} {w0 w w' : World} {v : Value} : ∀ {k : Kd}, k.ok B w0 w v → Below w.heap.size w w' → k.ok B w0 w' v
  | .val _, h, _ => h
  | .strs _, h, hb => Sl.fr elStr_good h hb
  | .line _, ⟨A, n, c, h1, h2⟩, hb => ⟨A, n, c, h1, Sl.fr elFld_good h2 hb⟩
  | .rows _, h, hb => SplitInv.below h hb
  | .strss _, h, hb => Sl.fr elStrs_good h hb
  | .non, h, _ => h.elim
/-- The kinds as a list by slot. -/
def tabK (B : Nat) (w0 : World) (K : List (Nat × Kd)) : Tab := fun d w v => ((K.lookup d).getD .non).ok B w0 w v
theorem tab_below {B : Nat} {w0 : World} {K : List (Nat × Kd)} : ∀ d w w' v, tabK B w0 K d w v → Below w.heap.size w w' → tabK B w0 K d w' v := fun d w w' v h hb => Kd.below h hb
section
variable {B : Nat} {w0 : World} {K : List (Nat × Kd)} {a : Act} {w : World} {d : Nat}
theorem holds_val {u : Value} (h : Holds (tabK B w0 K) a w d) (hk : K.lookup d = some (.val u)) : a.tmps[d]? = some u ∧ a.eval (.tmp d) = u := by
  obtain ⟨v, h1, h2⟩ := h
  unfold tabK at h2
  rw [hk] at h2
  have : v = u := h2
  subst this
  exact ⟨h1, eval_tmp h1⟩
theorem holds_strs {l : List (List UInt8)} (h : Holds (tabK B w0 K) a w d) (hk : K.lookup d = some (.strs l)) : ∃ v, a.eval (.tmp d) = v ∧ Sl 1 elStr w (Fr B w) v l := by
  obtain ⟨v, h1, h2⟩ := h
  unfold tabK at h2
  rw [hk] at h2
  exact ⟨v, eval_tmp h1, h2⟩
theorem holds_line {l : List (List UInt8)} (h : Holds (tabK B w0 K) a w d) (hk : K.lookup d = some (.line l)) : ∃ A n c, a.eval (.tmp d) = .agg #[.int .i64 0, .slice A n c] ∧ Sl 3 elFld w (Fr B w) (.slice A n c) (l.map wordF) := by
  obtain ⟨v, h1, h2⟩ := h
  unfold tabK at h2
  rw [hk] at h2
  obtain ⟨A, n, c, rfl, h3⟩ := h2
  exact ⟨A, n, c, eval_tmp h1, h3⟩
theorem holds_rows {ls : List Lin} (h : Holds (tabK B w0 K) a w d) (hk : K.lookup d = some (.rows ls)) : ∃ v, a.tmps[d]? = some v ∧ SplitInv B w0 w v noD ls [] := by
  obtain ⟨v, h1, h2⟩ := h
  unfold tabK at h2
  rw [hk] at h2
  exact ⟨v, h1, h2⟩
theorem tab_is {k : Kd} {v : Value} (hk : K.lookup d = some k) (h : k.ok B w0 w v) : tabK B w0 K d w v := by unfold tabK; rw [hk]; exact h
theorem tab_o {o : Oper} {k : Kd} {v : Value} (hd : o.dst = some d) (hk : K.lookup d = some k) (h : k.ok B w0 w v) : ∀ d', o.dst = some d' → tabK B w0 K d' w v := by
  intro d' h'
  have : d = d' := Option.some.inj (hd.symm.trans h')
  subst this
  exact tab_is hk h
end

/-- A literal of strings. -/
theorem strs_lit (w : World) (B : Nat) (hB : B ≤ w.heap.size) (l : List (List UInt8)) (e : TypeId) (hm : l.length ≤ maxLen) :
    Sl 1 elStr (w.alloc (.cells (l.map fun s => Value.string (S s)).toArray e)) (Fr B (w.alloc (.cells (l.map fun s => Value.string (S s)).toArray e))) (.slice (some ⟨w.heap.size, 0, none⟩) l.length l.length) l := by
  refine ⟨_, l.length, rfl, Nat.le_refl _, hm, fun h0 => ⟨w.heap.size, 0, rfl, ⟨hB, by simp⟩, fun i a hi => ⟨[.string (S a)], rfl, fun j u hu => ?_, rfl⟩⟩⟩
  have : j = 0 := by have := (List.getElem?_eq_some_iff.1 hu).1; simp at this; exact this
  subst this
  simp at hu; subst hu
  have hk := Blk.new w e (l.map fun s => Value.string (S s)).toArray
  rw [Nat.mul_one, Nat.zero_add, Nat.add_zero, hk.cell]
  simp [hi]
/-- A literal of lines. -/
theorem rows_lit (w w0 : World) (B : Nat) (hB : B ≤ w.heap.size) (hb : Below B w0 w) (ls : List Lin) (css : List (List Value)) (hl : css.length = ls.length) (hsz : ∀ cs ∈ css, cs.length = 2) (hm : ls.length ≤ maxLen)
    (hel : ∀ (i : Nat) (x : Lin) (cs : List Value), ls[i]? = some x → css[i]? = some cs → elLin w (Fr B w) cs x) :
    SplitInv B w0 (w.alloc (.cells css.flatten.toArray 56)) (.slice (some ⟨w.heap.size, 0, none⟩) ls.length ls.length) noD ls [] := by
  have hf := flat_len hsz
  have hal : Below w.heap.size w (w.alloc (.cells css.flatten.toArray 56)) := Below.alloc (Below.refl _ _) (Nat.le_refl _) _
  refine ⟨⟨css, hl, ⟨by rw [hf, hl], .inr ⟨w.heap.size, ls.length, css.flatten.toArray, rfl, hB, heap_alloc_new w _, Nat.le_refl _, hm, by simp only [List.size_toArray]; rw [hf, hl], ?_⟩⟩, hsz, fun i x cs hi hc => ?_⟩, OwnSl.nil _, hb.trans (hal.mono hB), by simp; omega⟩
  · rw [List.take_of_length_le (by rw [hf, hl]; exact Nat.le_refl _)]
  · refine elLin_good.keep (hel i x cs hi hc) (Same.below hal fun b h => h.2) fun b h => ⟨h.1, by simp; have := h.2; omega, ?_, by simp [noD, Value.ownBlock]⟩
    intro e
    have : w.heap.size = b := by simpa [Value.ownBlock] using e
    have := h.2; omega
theorem list_cons {α : Type} {n : Nat} {l : List α} (h : l.length = n + 1) : ∃ x t, l = x :: t ∧ t.length = n := by
  cases l with
  | nil => simp at h
  | cons x t => exact ⟨x, t, rfl, by simpa using h⟩
theorem wp_region_at {P : Program} {ops ops' : Array Oper} {V : Tab} {G : World → Prop} {needs : Nat → List Nat} {init : List Nat} {N : Nat} {Q : Exit → Act → World → Prop} {a0 : Act} {w0 : World} {id : Nat} (he : ops = ops') (hm : P.follows .mixedOrders = true) (hF : FreeR P ops' V G needs init N) (hN : N ≤ a0.tmps.size) (hG : G w0) (hini : ∀ d ∈ init, Holds V a0 w0 d)
    (fin : ∀ a w, RIn ops' V G init a0 w0 (Array.replicate ops'.size true) a w → Q .normal a w) : (Code.region id ops true).wp P Q a0 w0 := by
  subst he
  exact wp_region_free hm hF hN hG hini fin
theorem RIn.at {ops : Array Oper} {V : Tab} {G : World → Prop} {init : List Nat} {a0 a : Act} {w0 w : World} (h : RIn ops V G init a0 w0 (Array.replicate ops.size true) a w) (i d : Nat) (hd : (ops[i]?).bind (·.dst) = some d) : Holds V a w d := by
  cases ho : ops[i]? with
  | none => rw [ho] at hd; cases hd
  | some o =>
    rw [ho] at hd
    have hlt := (Array.getElem?_eq_some_iff.1 ho).1
    exact h.done i o d ho (by simp [hlt]) hd
def keptB (ops : Array Oper) (k : Nat) : Bool := ops.toList.all fun o => !(o.dst == some k)
theorem RIn.kept {ops : Array Oper} {V : Tab} {G : World → Prop} {init : List Nat} {a0 a : Act} {w0 w : World} {l : Array Bool} (h : RIn ops V G init a0 w0 l a w) (k : Nat) (hk : keptB ops k = true) : a.tmps[k]? = a0.tmps[k]? :=
  h.keep k fun i o ho e => by
    have := List.all_eq_true.1 hk o (Array.mem_toList_iff.2 (Array.mem_of_getElem? ho))
    rw [e] at this
    simp at this
end Go.Proofs.YtglkejlimeakbaaGreatDoor

namespace Go.Proofs.YtglkejlimeakbaaGreatDoor
section
/-! part U1 -/
open Go.RowKit

def elPha (_ : World) (_ : Nat → Prop) (cs : List Value) (p : Pha) : Prop := cs = [.int .i64 p.fr, .int .i64 p.til, .int .i64 p.out]
theorem elPha_good : Good elPha := ⟨fun h _ _ => h⟩
def rulCells (r : Rul) (pv : Value) : Array Value := #[.string (S r.name), .int .i64 r.side, .int .i64 r.inns, .int .i64 r.overs, .int .i64 r.balls, .int .i64 r.quota, .int .i64 r.wide, .int .i64 r.noball, .bool r.free, .int .i64 r.newball, .int .i64 r.follow, .int .i64 r.reviews, .int .i64 r.outside, pv]
def rulV (r : Rul) (pv : Value) : Value := .agg (rulCells r pv)

theorem rul_between (n lo hi : Int) (w : World) : Calls Tryz.prog 109 #[.int .i64 n, .int .i64 lo, .int .i64 hi] w fun e w' => e = .returned (.bool (inB n lo hi)) ∧ w = w' := by
  by_cases h : lo ≤ n
  · have e1 : decide (lo ≤ n) = true := decide_eq_true h
    go_enter Tryz.func109, Tryz.ntmps109
    go_wp2
    go_ret
    exact ⟨ret_b (by unfold inB; rw [e1]; simp), rfl⟩
  · have e1 : decide (lo ≤ n) = false := decide_eq_false h
    go_enter Tryz.func109, Tryz.ntmps109
    go_wp2
    go_ret
    exact ⟨ret_b (by unfold inB; rw [e1]; simp), rfl⟩
theorem ref_in (n lo hi : Int) (w : World) : Calls Tryz.prog 74 #[.int .i64 n, .int .i64 lo, .int .i64 hi] w fun e w' => e = .returned (.bool (inB n lo hi)) ∧ w = w' := by
  by_cases h : lo ≤ n
  · have e1 : decide (lo ≤ n) = true := decide_eq_true h
    go_enter Tryz.func74, Tryz.ntmps74
    go_wp2
    go_ret
    exact ⟨ret_b (by unfold inB; rw [e1]; simp), rfl⟩
  · have e1 : decide (lo ≤ n) = false := decide_eq_false h
    go_enter Tryz.func74, Tryz.ntmps74
    go_wp2
    go_ret
    exact ⟨ret_b (by unfold inB; rw [e1]; simp), rfl⟩
set_option maxRecDepth 100000 in
set_option maxHeartbeats 2000000 in
theorem rul_inRange (r : Rul) (pv : Value) (w : World) : Calls Tryz.prog 66 #[rulV r pv] w fun e w' => e = .returned (.bool (inRangeS r)) ∧ Below w.heap.size w w' := by
  obtain ⟨z, hz⟩ : ∃ z, z = inRangeS r := ⟨_, rfl⟩
  rw [← hz]
  unfold inRangeS at hz
  have HZ := Lib.hid hz
  clear hz
  unfold rulV rulCells
  go_enter Tryz.func66, Tryz.ntmps66
  go_wp2_with (go_at_call 109; refine (rul_between _ _ _ _).mono ?_; rintro e w2 ⟨rfl, rfl⟩)
  all_goals go_ret
  all_goals refine ⟨ret_b ?_, Below.alloc (Below.refl _ _) (Nat.le_refl _) _⟩
  all_goals (rw [HZ.out]; simp [*])
end

section
/-! part U2 -/
open Go.RowKit

/-- The rules r lie in block g; their powerplays below. -/
structure RulAt (w : World) (g : Nat) (r : Rul) (pv : Value) : Prop where
  blk : Blk w g 25 (rulCells r pv)
  sl : Sl 3 elPha w (· < w.heap.size) pv r.power
theorem RulAt.below {w w' : World} {g : Nat} {r : Rul} {pv : Value} (h : RulAt w g r pv) (hb : Below w.heap.size w w') : RulAt w' g r pv :=
  ⟨h.blk.below hb h.blk.lt, h.sl.keep elPha_good (Same.below hb fun _ h => h) fun b h => Nat.lt_of_lt_of_le h hb.size⟩
theorem RulAt.new {w : World} {r : Rul} {pv : Value} (h : Sl 3 elPha w (· < w.heap.size) pv r.power) : RulAt (w.alloc (.cells (rulCells r pv) 25)) w.heap.size r pv :=
  ⟨Blk.new w _ _, h.keep elPha_good (Same.below (Below.alloc (Below.refl w.heap.size w) (Nat.le_refl _) _) fun _ h => h) fun b h => by simp; omega⟩
/-- The powerplay k of a list that lies. -/
theorem pha_at {w : World} {F : Nat → Prop} {A : Option Addr} {n c : Nat} {l : List Pha} (h : Sl 3 elPha w F (.slice A n c) l) {k : Nat} (hk : k < l.length) :
    ∃ b o, A = some ⟨b, o, none⟩ ∧ F b ∧ w.cell? ⟨b, o + k * 3, none⟩ = some (.int .i64 l[k].fr) ∧ w.cell? ⟨b, o + k * 3 + 1, none⟩ = some (.int .i64 l[k].til) ∧ w.cell? ⟨b, o + k * 3 + 2, none⟩ = some (.int .i64 l[k].out) := by
  obtain ⟨b, o, cs, h1, h2, h3, h4, h5⟩ := h.at hk
  have h5' : cs = [.int .i64 l[k].fr, .int .i64 l[k].til, .int .i64 l[k].out] := h5
  subst h5'
  have y0 := h4 0 _ rfl
  rw [Nat.add_zero] at y0
  exact ⟨b, o, h1, h2, y0, h4 1 _ rfl, h4 2 _ rfl⟩
set_option maxRecDepth 100000 in
set_option maxHeartbeats 2000000 in
theorem rul_phases (r : Rul) (pv : Value) (w : World) (h : Sl 3 elPha w (· < w.heap.size) pv r.power) : Calls Tryz.prog 67 #[rulV r pv] w fun e w' => e = .returned (.int .i64 (phasesS r)) ∧ Below w.heap.size w w' := by
  obtain ⟨z, hz⟩ : ∃ z, z = phasesS r := ⟨_, rfl⟩
  rw [← hz]
  unfold phasesS at hz
  obtain ⟨A, c, rfl, hc, hc2⟩ := h.shape
  have hA := RulAt.new h
  have hb0 : Below w.heap.size w (w.alloc (.cells (rulCells r (.slice A r.power.length c)) 25)) := Below.alloc (Below.refl _ _) (Nat.le_refl _) _
  unfold rulV
  unfold rulCells at *
  by_cases h8 : 8 < r.power.length
  · rw [if_pos h8] at hz
    have HZ := Lib.hid hz
    have h8' : (8 : Int) < (r.power.length : Int) := by omega
    clear hz hA h
    have HB0 := Lib.hid hb0
    clear hb0
    go_enter Tryz.func67, Tryz.ntmps67
    go_wp2
    go_ret
    exact ⟨ret_i HZ.out.symm, HB0.out⟩
  · rw [if_neg h8] at hz
    have h8' : (r.power.length : Int) ≤ 8 := by omega
    have HZ := Lib.hid hz
    have H := Lib.hid h
    have HA := Lib.hid hA
    have HB0 := Lib.hid hb0
    clear hz hA h hb0
    go_enter Tryz.func67, Tryz.ntmps67
    go_wp2
    go_loopw [12] (fun i wr => ∃ k : Nat, k ≤ r.power.length ∧ i = .int .i64 k ∧ Below w.heap.size w wr ∧ RulAt wr w.heap.size r (.slice A r.power.length c) ∧ Hid (z = phasesF r.overs (r.power.drop k) (prevP r.power k)))
      (fun i _ => r.power.length - (intOf i).toNat)
    case atStart => exact ⟨0, Nat.zero_le _, rfl, HB0.out, HA.out, HZ.out⟩
    case round =>
      obtain ⟨k, hk, rfl, hb, ha, hzz⟩ := hrel
      have HB := Lib.hid hb
      have HAA := Lib.hid ha
      by_cases hlt : k < r.power.length
      · obtain ⟨b, o, rfl, hbl, y0, y1, y2⟩ := pha_at ha.sl hlt
        have hzz' := hzz.out
        rw [phasesF_at hlt] at hzz'
        obtain ⟨⟨pf, pt, po⟩, hp⟩ : ∃ p, p = r.power[k] := ⟨_, rfl⟩
        rw [← hp] at y0 y1 y2 hzz'
        have hkb := ha.blk
        have hg := hkb.lt
        unfold rulCells at hkb
        have x3 := hkb.cell 3
        have x13 := hkb.cell 13
        simp only [List.getElem?_toArray, List.getElem?_cons_zero, List.getElem?_cons_succ] at x3 x13
        have HP := Lib.hid hp
        rcases phaB_ways r.overs ⟨pf, pt, po⟩ with ⟨hB, hw⟩ | ⟨hB, e1, e2, e3, e4⟩
        · have hz2 : z = 2 := by rw [hzz', phaErr_two hB]; rfl
          have HZZ := Lib.hid hz2
          clear hb ha hzz hzz' hkb hp hz2 hB
          rcases hw with e1 | ⟨e1, e2⟩ | ⟨e1, e2, e3⟩ | ⟨e1, e2, e3, e4⟩
          all_goals
            dsimp only at *
            go_wp2_with (go_at_call 109; refine (rul_between _ _ _ _).mono ?_; rintro e w2 ⟨rfl, rfl⟩)
            go_ret
            exact ⟨ret_i HZZ.out.symm, Below.alloc HB.out HB.out.size _⟩
        · dsimp only at e1 e2 e3 e4
          by_cases hk0 : k = 0
          · have hz2 : z = phasesF r.overs (r.power.drop (k + 1)) (prevP r.power (k + 1)) := by
              rw [hzz', hk0, prevP_zero, phaErr_none hB]; rfl
            have HZZ := Lib.hid hz2
            have g1 : decide ((0 : Int) < (k : Int)) = false := decide_eq_false (by omega)
            have g2 : decide (0 < k) = false := decide_eq_false (by omega)
            clear hb ha hzz hzz' hkb hp hz2 hB hk0
            go_wp2_with (go_at_call 109; refine (rul_between _ _ _ _).mono ?_; rintro e w2 ⟨rfl, rfl⟩)
            go_quiet (fail)
            go_wp2
            go_roundw
            case rel => exact ⟨k + 1, by omega, by go_num, Below.drewN_ (Below.alloc HB.out HB.out.size _) _, HAA.out.below (Below.drewN_ (Below.alloc (Below.refl _ _) (Nat.le_refl _) _) _), HZZ.out⟩
            case measure => simp [intOf]; omega
          · obtain ⟨b', o', hbo, hbl', q0, q1, q2⟩ := pha_at ha.sl (k := k - 1) (by omega)
            simp only [Option.some.injEq, Addr.mk.injEq] at hbo
            obtain ⟨rfl, rfl, _⟩ := hbo
            obtain ⟨x, hx⟩ : ∃ x, x = r.power[k - 1]'(by omega) := ⟨_, rfl⟩
            have hz2 : z = if (if pf ≤ x.til then (8 : Int) else 0) ≠ 0 then (if pf ≤ x.til then (8 : Int) else 0) else phasesF r.overs (r.power.drop (k + 1)) (prevP r.power (k + 1)) := by
              rw [hzz', prevP_succ hk0 (by omega), phaErr_some hB, ← hx]
            rw [← hx] at q0 q1 q2
            have g1 : decide ((0 : Int) < (k : Int)) = true := decide_eq_true (by omega)
            have g2 : decide (0 < k) = true := decide_eq_true (by omega)
            have s1 : IntKind.i64.wrap ((k : Int) - 1) = (k : Int) - 1 := IntWalk.i64_in _ (by omega)
            have s2 : (0 : Int) ≤ (k : Int) - 1 := by omega
            have s3 : ((k : Int) - 1).toNat = k - 1 := by omega
            have s4 : (k : Int) - 1 < (r.power.length : Int) := by omega
            by_cases hle : pf ≤ x.til
            · rw [if_pos hle, if_pos (by decide)] at hz2
              have HZZ := Lib.hid hz2
              have g3 : decide (pf ≤ x.til) = true := decide_eq_true hle
              clear hb ha hzz hzz' hkb hp hz2 hB hk0 hx
              go_wp2_with (go_at_call 109; refine (rul_between _ _ _ _).mono ?_; rintro e w2 ⟨rfl, rfl⟩)
              go_quiet (fail)
              go_wp2
              go_ret
              exact ⟨ret_i HZZ.out.symm, Below.drewN_ (Below.alloc HB.out HB.out.size _) _⟩
            · rw [if_neg hle, if_neg (by decide)] at hz2
              have HZZ := Lib.hid hz2
              have g3 : decide (pf ≤ x.til) = false := decide_eq_false hle
              clear hb ha hzz hzz' hkb hp hz2 hB hk0 hx
              go_wp2_with (go_at_call 109; refine (rul_between _ _ _ _).mono ?_; rintro e w2 ⟨rfl, rfl⟩)
              go_quiet (fail)
              go_wp2
              go_roundw
              case rel => exact ⟨k + 1, by omega, by go_num, Below.drewN_ (Below.alloc HB.out HB.out.size _) _, HAA.out.below (Below.drewN_ (Below.alloc (Below.refl _ _) (Nat.le_refl _) _) _), HZZ.out⟩
              case measure => simp [intOf]; omega
      · obtain rfl : k = r.power.length := by omega
        have hzz' := hzz.out
        rw [phasesF_end (Nat.le_refl _)] at hzz'
        have HZZ := Lib.hid hzz'
        clear hb ha hzz hzz'
        go_wp2
        go_ret
        exact ⟨ret_i HZZ.out.symm, HB.out⟩
end
end Go.Proofs.YtglkejlimeakbaaGreatDoor

namespace Go.Proofs.YtglkejlimeakbaaGreatDoor
open Go.RowKit

theorem Blk.fourteen {w : World} {g : Nat} {t : TypeId} {a0 a1 a2 a3 a4 a5 a6 a7 a8 a9 a10 a11 a12 a13 : Value} (h : Blk w g t #[a0, a1, a2, a3, a4, a5, a6, a7, a8, a9, a10, a11, a12, a13]) :
    w.cell? ⟨g, 0, none⟩ = some a0 ∧ w.cell? ⟨g, 1, none⟩ = some a1 ∧ w.cell? ⟨g, 2, none⟩ = some a2 ∧ w.cell? ⟨g, 3, none⟩ = some a3 ∧ w.cell? ⟨g, 4, none⟩ = some a4 ∧ w.cell? ⟨g, 5, none⟩ = some a5 ∧ w.cell? ⟨g, 6, none⟩ = some a6 ∧ w.cell? ⟨g, 7, none⟩ = some a7 ∧ w.cell? ⟨g, 8, none⟩ = some a8 ∧ w.cell? ⟨g, 9, none⟩ = some a9 ∧ w.cell? ⟨g, 10, none⟩ = some a10 ∧ w.cell? ⟨g, 11, none⟩ = some a11 ∧ w.cell? ⟨g, 12, none⟩ = some a12 ∧ w.cell? ⟨g, 13, none⟩ = some a13 :=
  ⟨h.cell 0, h.cell 1, h.cell 2, h.cell 3, h.cell 4, h.cell 5, h.cell 6, h.cell 7, h.cell 8, h.cell 9, h.cell 10, h.cell 11, h.cell 12, h.cell 13⟩
theorem RulAt.cells {w : World} {g : Nat} {r : Rul} {pv : Value} (h : RulAt w g r pv) :
    w.cell? ⟨g, 0, none⟩ = some (.string (S r.name)) ∧ w.cell? ⟨g, 1, none⟩ = some (.int .i64 r.side) ∧ w.cell? ⟨g, 2, none⟩ = some (.int .i64 r.inns) ∧ w.cell? ⟨g, 3, none⟩ = some (.int .i64 r.overs) ∧ w.cell? ⟨g, 4, none⟩ = some (.int .i64 r.balls) ∧ w.cell? ⟨g, 5, none⟩ = some (.int .i64 r.quota) ∧ w.cell? ⟨g, 6, none⟩ = some (.int .i64 r.wide) ∧ w.cell? ⟨g, 7, none⟩ = some (.int .i64 r.noball) ∧ w.cell? ⟨g, 8, none⟩ = some (.bool r.free) ∧ w.cell? ⟨g, 9, none⟩ = some (.int .i64 r.newball) ∧ w.cell? ⟨g, 10, none⟩ = some (.int .i64 r.follow) ∧ w.cell? ⟨g, 11, none⟩ = some (.int .i64 r.reviews) ∧ w.cell? ⟨g, 12, none⟩ = some (.int .i64 r.outside) ∧ w.cell? ⟨g, 13, none⟩ = some pv :=
  Blk.fourteen h.blk
theorem RulAt.lt {w : World} {g : Nat} {r : Rul} {pv : Value} (h : RulAt w g r pv) : g < w.heap.size := h.blk.lt
/-- The checks ahead of the powerplays, in the walk's spelling. -/
def midErr (r : Rul) : Int :=
  if ((r.follow != 0) && (r.inns == 1)) = true then 1
  else if (((r.quota != 0) || decide (0 < r.power.length)) && (r.overs == 0)) = true then 1
  else if ((r.quota != 0) && decide (r.quota * r.side < r.overs)) = true then 13 else phasesS r
theorem checkR_mid {r : Rul} (h1 : nameS r.name = true) (h2 : inRangeS r = true) : checkR r = midErr r := by
  have hh : headErr r = if r.follow ≠ 0 ∧ r.inns = 1 then 1
  else if (r.quota ≠ 0 ∨ 0 < r.power.length) ∧ r.overs = 0 then 1
  else if r.quota ≠ 0 ∧ r.quota * r.side < r.overs then 13 else 0 := by
    unfold headErr; rw [if_neg (by simp [h1]), if_neg (by simp [h2])]
  have e1 : (((r.follow != 0) && (r.inns == 1)) = true) = (r.follow ≠ 0 ∧ r.inns = 1) := by simp
  have e2 : ((((r.quota != 0) || decide (0 < r.power.length)) && (r.overs == 0)) = true) = ((r.quota ≠ 0 ∨ 0 < r.power.length) ∧ r.overs = 0) := by simp
  have e3 : (((r.quota != 0) && decide (r.quota * r.side < r.overs)) = true) = (r.quota ≠ 0 ∧ r.quota * r.side < r.overs) := by simp
  unfold checkR midErr
  rw [hh]
  simp only [e1, e2, e3]
  by_cases c1 : r.follow ≠ 0 ∧ r.inns = 1
  · simp only [if_pos c1]; rfl
  · simp only [if_neg c1]
    by_cases c2 : (r.quota ≠ 0 ∨ 0 < r.power.length) ∧ r.overs = 0
    · simp only [if_pos c2]; rfl
    · simp only [if_neg c2]
      by_cases c3 : r.quota ≠ 0 ∧ r.quota * r.side < r.overs
      · simp only [if_pos c3]; rfl
      · simp only [if_neg c3]; rfl
theorem checkR_rng {r : Rul} (h1 : nameS r.name = true) (h2 : inRangeS r = false) : checkR r = 2 := by
  have hh : headErr r = 2 := by unfold headErr; rw [if_neg (by simp [h1]), if_pos h2]
  unfold checkR; rw [hh]; rfl
theorem band (a b : Bool) : (a = true ∧ b = true) ∨ (a = true ∧ b = false) ∨ a = false := by cases a <;> cases b <;> simp
theorem boor (a : Bool) : a = true ∨ a = false := by cases a <;> simp
set_option maxRecDepth 100000 in
set_option maxHeartbeats 4000000 in
theorem rul_Check (r : Rul) (pv : Value) (w : World) (h : Sl 3 elPha w (· < w.heap.size) pv r.power) (hn : r.name.length ≤ 1000000000) :
    Calls Tryz.prog 28 #[rulV r pv] w fun e w' => e = .returned (.int .i64 (checkR r)) ∧ Below w.heap.size w w' := by
  obtain ⟨z, hz⟩ : ∃ z, z = checkR r := ⟨_, rfl⟩
  rw [← hz]
  obtain ⟨A, c, rfl, hc, hc2⟩ := h.shape
  have hA := RulAt.new h
  have hb0 : Below w.heap.size w (w.alloc (.cells (rulCells r (.slice A r.power.length c)) 25)) := Below.alloc (Below.refl _ _) (Nat.le_refl _) _
  have HB0 := Lib.hid hb0
  have hnm : ∀ W, Below w.heap.size w W → RulAt W w.heap.size r (.slice A r.power.length c) → Calls Tryz.prog 65 #[.string (S r.name)] W fun e W' => e = .returned (.bool (nameS r.name)) ∧ Below w.heap.size w W' ∧ RulAt W' w.heap.size r (.slice A r.power.length c) := fun W h1 h2 => by
    refine (text_Name (S r.name) W (by simp only [S_size, maxLen]; omega)).mono ?_
    rintro e W' ⟨rfl, hb⟩
    exact ⟨rfl, h1.trans (hb.mono h1.size), h2.below hb⟩
  have hir : ∀ W, Below w.heap.size w W → RulAt W w.heap.size r (.slice A r.power.length c) → Calls Tryz.prog 66 #[rulV r (.slice A r.power.length c)] W fun e W' => e = .returned (.bool (inRangeS r)) ∧ Below w.heap.size w W' ∧ RulAt W' w.heap.size r (.slice A r.power.length c) := fun W h1 h2 => by
    refine (rul_inRange r _ W).mono ?_
    rintro e W' ⟨rfl, hb⟩
    exact ⟨rfl, h1.trans (hb.mono h1.size), h2.below hb⟩
  have hph : ∀ W, Below w.heap.size w W → RulAt W w.heap.size r (.slice A r.power.length c) → Calls Tryz.prog 67 #[rulV r (.slice A r.power.length c)] W fun e W' => e = .returned (.int .i64 (phasesS r)) ∧ Below w.heap.size w W' := fun W h1 h2 => by
    refine (rul_phases r _ W h2.sl).mono ?_
    rintro e W' ⟨rfl, hb⟩
    exact ⟨rfl, h1.trans (hb.mono h1.size)⟩
  have HA := Lib.hid hA
  unfold rulV at hir hph
  unfold rulCells at hir hph HA HB0
  have HNM := Lib.hid hnm
  have HIR := Lib.hid hir
  have HPH := Lib.hid hph
  clear h hA hb0 hnm hir hph
  unfold rulV rulCells
  cases h1 : nameS r.name
  · have hz2 : z = 5 := by rw [hz]; unfold checkR headErr; rw [if_pos h1]; rfl
    have HZ := Lib.hid hz2
    clear hz hz2
    as_aux_lemma =>
      go_enter Tryz.func28, Tryz.ntmps28
      go_wp2_with (go_at_call 65; refine (HNM.out _ HB0.out HA.out).mono ?_; rintro e w2 ⟨rfl, hb2, hr2⟩; have HB2 := Lib.hid hb2; clear hb2 hr2)
      go_ret
      exact ⟨ret_i HZ.out.symm, HB2.out⟩
  · cases h2 : inRangeS r
    · have hz2 : z = 2 := by rw [hz]; exact checkR_rng h1 h2
      have HZ := Lib.hid hz2
      clear hz hz2
      as_aux_lemma =>
        go_enter Tryz.func28, Tryz.ntmps28
        go_wp2_with (first | (go_at_call 65; refine (HNM.out _ HB0.out HA.out).mono ?_; rintro e w2 ⟨rfl, hb2, hr2⟩; obtain ⟨y0, y1, y2, y3, y4, y5, y6, y7, y8, y9, y10, y11, y12, y13⟩ := hr2.cells; have HB2 := Lib.hid hb2; have HR2 := Lib.hid hr2; clear hb2 hr2) | (go_at_call 66; refine (HIR.out _ HB2.out HR2.out).mono ?_; rintro e w3 ⟨rfl, hb3, hr3⟩; have HB3 := Lib.hid hb3; clear hb3 hr3))
        go_ret
        exact ⟨ret_i HZ.out.symm, HB3.out⟩
    · rw [checkR_mid h1 h2] at hz
      unfold midErr at hz
      obtain ⟨⟨a1, a2⟩, _, ⟨a3, a4⟩, _, ⟨a5, a6⟩, _⟩ := (inRangeS_iff r).1 h2
      have m1 : 0 ≤ r.quota * r.side := Int.mul_nonneg a5 (by omega)
      have m2 : r.quota * r.side ≤ 990 := by
        have := Int.mul_le_mul a6 a2 (by omega) (by omega)
        omega
      rcases band (r.follow != 0) (r.inns == 1) with ⟨f1, f2⟩ | ⟨f1, f2⟩ | f1
      · have hz2 : z = 1 := by rw [hz]; simp [f1, f2]
        have HZ := Lib.hid hz2
        clear hz hz2
        as_aux_lemma =>
          go_enter Tryz.func28, Tryz.ntmps28
          go_wp2_with (first | (go_at_call 65; refine (HNM.out _ HB0.out HA.out).mono ?_; rintro e w2 ⟨rfl, hb2, hr2⟩; obtain ⟨y0, y1, y2, y3, y4, y5, y6, y7, y8, y9, y10, y11, y12, y13⟩ := hr2.cells; have HB2 := Lib.hid hb2; have HR2 := Lib.hid hr2; clear hb2 hr2) | (go_at_call 66; refine (HIR.out _ HB2.out HR2.out).mono ?_; rintro e w3 ⟨rfl, hb3, hr3⟩; obtain ⟨x0, x1, x2, x3, x4, x5, x6, x7, x8, x9, x10, x11, x12, x13⟩ := hr3.cells; have HB3 := Lib.hid hb3; have HR3 := Lib.hid hr3; clear hb3 hr3))
          go_ret
          exact ⟨ret_i HZ.out.symm, HB3.out⟩
      · rcases band (r.quota != 0) (r.overs == 0) with ⟨q1, o1⟩ | ⟨q1, o1⟩ | q1
        · have hz2 : z = 1 := by rw [hz]; simp [f1, f2, q1, o1]
          have HZ := Lib.hid hz2
          clear hz hz2
          as_aux_lemma =>
            go_enter Tryz.func28, Tryz.ntmps28
            go_wp2_with (first | (go_at_call 65; refine (HNM.out _ HB0.out HA.out).mono ?_; rintro e w2 ⟨rfl, hb2, hr2⟩; obtain ⟨y0, y1, y2, y3, y4, y5, y6, y7, y8, y9, y10, y11, y12, y13⟩ := hr2.cells; have HB2 := Lib.hid hb2; have HR2 := Lib.hid hr2; clear hb2 hr2) | (go_at_call 66; refine (HIR.out _ HB2.out HR2.out).mono ?_; rintro e w3 ⟨rfl, hb3, hr3⟩; obtain ⟨x0, x1, x2, x3, x4, x5, x6, x7, x8, x9, x10, x11, x12, x13⟩ := hr3.cells; have HB3 := Lib.hid hb3; have HR3 := Lib.hid hr3; clear hb3 hr3))
            go_ret
            exact ⟨ret_i HZ.out.symm, HB3.out⟩
        · rcases boor (decide (r.quota * r.side < r.overs)) with p1 | p1
          · have hz2 : z = 13 := by rw [hz]; simp [f1, f2, q1, o1, p1]
            have HZ := Lib.hid hz2
            clear hz hz2
            as_aux_lemma =>
              go_enter Tryz.func28, Tryz.ntmps28
              go_wp2_with (first | (go_at_call 65; refine (HNM.out _ HB0.out HA.out).mono ?_; rintro e w2 ⟨rfl, hb2, hr2⟩; obtain ⟨y0, y1, y2, y3, y4, y5, y6, y7, y8, y9, y10, y11, y12, y13⟩ := hr2.cells; have HB2 := Lib.hid hb2; have HR2 := Lib.hid hr2; clear hb2 hr2) | (go_at_call 66; refine (HIR.out _ HB2.out HR2.out).mono ?_; rintro e w3 ⟨rfl, hb3, hr3⟩; obtain ⟨x0, x1, x2, x3, x4, x5, x6, x7, x8, x9, x10, x11, x12, x13⟩ := hr3.cells; have HB3 := Lib.hid hb3; have HR3 := Lib.hid hr3; clear hb3 hr3))
              go_ret
              exact ⟨ret_i HZ.out.symm, HB3.out⟩
          · have hz2 : z = phasesS r := by rw [hz]; simp [f1, f2, q1, o1, p1]
            have HZ := Lib.hid hz2
            clear hz hz2
            as_aux_lemma =>
              go_enter Tryz.func28, Tryz.ntmps28
              go_wp2_with (first | (go_at_call 65; refine (HNM.out _ HB0.out HA.out).mono ?_; rintro e w2 ⟨rfl, hb2, hr2⟩; obtain ⟨y0, y1, y2, y3, y4, y5, y6, y7, y8, y9, y10, y11, y12, y13⟩ := hr2.cells; have HB2 := Lib.hid hb2; have HR2 := Lib.hid hr2; clear hb2 hr2) | (go_at_call 66; refine (HIR.out _ HB2.out HR2.out).mono ?_; rintro e w3 ⟨rfl, hb3, hr3⟩; obtain ⟨x0, x1, x2, x3, x4, x5, x6, x7, x8, x9, x10, x11, x12, x13⟩ := hr3.cells; have HB3 := Lib.hid hb3; have HR3 := Lib.hid hr3; clear hb3 hr3) | (go_at_call 67; refine (HPH.out _ HB3.out HR3.out).mono ?_; rintro e w4 ⟨rfl, hb4⟩; have HB4 := Lib.hid hb4; clear hb4))
              go_ret
              exact ⟨ret_i HZ.out.symm, HB4.out⟩
        · rcases band (decide (0 < r.power.length)) (r.overs == 0) with ⟨l1, o1⟩ | ⟨l1, o1⟩ | l1
          · have l2 : decide ((0 : Int) < (r.power.length : Int)) = true := by rw [← l1]; simp
            have hz2 : z = 1 := by rw [hz]; simp [f1, f2, q1, l1, o1]
            have HZ := Lib.hid hz2
            clear hz hz2
            as_aux_lemma =>
              go_enter Tryz.func28, Tryz.ntmps28
              go_wp2_with (first | (go_at_call 65; refine (HNM.out _ HB0.out HA.out).mono ?_; rintro e w2 ⟨rfl, hb2, hr2⟩; obtain ⟨y0, y1, y2, y3, y4, y5, y6, y7, y8, y9, y10, y11, y12, y13⟩ := hr2.cells; have HB2 := Lib.hid hb2; have HR2 := Lib.hid hr2; clear hb2 hr2) | (go_at_call 66; refine (HIR.out _ HB2.out HR2.out).mono ?_; rintro e w3 ⟨rfl, hb3, hr3⟩; obtain ⟨x0, x1, x2, x3, x4, x5, x6, x7, x8, x9, x10, x11, x12, x13⟩ := hr3.cells; have HB3 := Lib.hid hb3; have HR3 := Lib.hid hr3; clear hb3 hr3))
              go_ret
              exact ⟨ret_i HZ.out.symm, HB3.out⟩
          · have l2 : decide ((0 : Int) < (r.power.length : Int)) = true := by rw [← l1]; simp
            have hz2 : z = phasesS r := by rw [hz]; simp [f1, f2, q1, l1, o1]
            have HZ := Lib.hid hz2
            clear hz hz2
            as_aux_lemma =>
              go_enter Tryz.func28, Tryz.ntmps28
              go_wp2_with (first | (go_at_call 65; refine (HNM.out _ HB0.out HA.out).mono ?_; rintro e w2 ⟨rfl, hb2, hr2⟩; obtain ⟨y0, y1, y2, y3, y4, y5, y6, y7, y8, y9, y10, y11, y12, y13⟩ := hr2.cells; have HB2 := Lib.hid hb2; have HR2 := Lib.hid hr2; clear hb2 hr2) | (go_at_call 66; refine (HIR.out _ HB2.out HR2.out).mono ?_; rintro e w3 ⟨rfl, hb3, hr3⟩; obtain ⟨x0, x1, x2, x3, x4, x5, x6, x7, x8, x9, x10, x11, x12, x13⟩ := hr3.cells; have HB3 := Lib.hid hb3; have HR3 := Lib.hid hr3; clear hb3 hr3) | (go_at_call 67; refine (HPH.out _ HB3.out HR3.out).mono ?_; rintro e w4 ⟨rfl, hb4⟩; have HB4 := Lib.hid hb4; clear hb4))
              go_ret
              exact ⟨ret_i HZ.out.symm, HB4.out⟩
          · have l2 : decide ((0 : Int) < (r.power.length : Int)) = false := by rw [← l1]; simp
            have hz2 : z = phasesS r := by rw [hz]; simp [f1, f2, q1, l1]
            have HZ := Lib.hid hz2
            clear hz hz2
            as_aux_lemma =>
              go_enter Tryz.func28, Tryz.ntmps28
              go_wp2_with (first | (go_at_call 65; refine (HNM.out _ HB0.out HA.out).mono ?_; rintro e w2 ⟨rfl, hb2, hr2⟩; obtain ⟨y0, y1, y2, y3, y4, y5, y6, y7, y8, y9, y10, y11, y12, y13⟩ := hr2.cells; have HB2 := Lib.hid hb2; have HR2 := Lib.hid hr2; clear hb2 hr2) | (go_at_call 66; refine (HIR.out _ HB2.out HR2.out).mono ?_; rintro e w3 ⟨rfl, hb3, hr3⟩; obtain ⟨x0, x1, x2, x3, x4, x5, x6, x7, x8, x9, x10, x11, x12, x13⟩ := hr3.cells; have HB3 := Lib.hid hb3; have HR3 := Lib.hid hr3; clear hb3 hr3) | (go_at_call 67; refine (HPH.out _ HB3.out HR3.out).mono ?_; rintro e w4 ⟨rfl, hb4⟩; have HB4 := Lib.hid hb4; clear hb4))
              go_ret
              exact ⟨ret_i HZ.out.symm, HB4.out⟩
      · rcases band (r.quota != 0) (r.overs == 0) with ⟨q1, o1⟩ | ⟨q1, o1⟩ | q1
        · have hz2 : z = 1 := by rw [hz]; simp [f1, q1, o1]
          have HZ := Lib.hid hz2
          clear hz hz2
          as_aux_lemma =>
            go_enter Tryz.func28, Tryz.ntmps28
            go_wp2_with (first | (go_at_call 65; refine (HNM.out _ HB0.out HA.out).mono ?_; rintro e w2 ⟨rfl, hb2, hr2⟩; obtain ⟨y0, y1, y2, y3, y4, y5, y6, y7, y8, y9, y10, y11, y12, y13⟩ := hr2.cells; have HB2 := Lib.hid hb2; have HR2 := Lib.hid hr2; clear hb2 hr2) | (go_at_call 66; refine (HIR.out _ HB2.out HR2.out).mono ?_; rintro e w3 ⟨rfl, hb3, hr3⟩; obtain ⟨x0, x1, x2, x3, x4, x5, x6, x7, x8, x9, x10, x11, x12, x13⟩ := hr3.cells; have HB3 := Lib.hid hb3; have HR3 := Lib.hid hr3; clear hb3 hr3))
            go_ret
            exact ⟨ret_i HZ.out.symm, HB3.out⟩
        · rcases boor (decide (r.quota * r.side < r.overs)) with p1 | p1
          · have hz2 : z = 13 := by rw [hz]; simp [f1, q1, o1, p1]
            have HZ := Lib.hid hz2
            clear hz hz2
            as_aux_lemma =>
              go_enter Tryz.func28, Tryz.ntmps28
              go_wp2_with (first | (go_at_call 65; refine (HNM.out _ HB0.out HA.out).mono ?_; rintro e w2 ⟨rfl, hb2, hr2⟩; obtain ⟨y0, y1, y2, y3, y4, y5, y6, y7, y8, y9, y10, y11, y12, y13⟩ := hr2.cells; have HB2 := Lib.hid hb2; have HR2 := Lib.hid hr2; clear hb2 hr2) | (go_at_call 66; refine (HIR.out _ HB2.out HR2.out).mono ?_; rintro e w3 ⟨rfl, hb3, hr3⟩; obtain ⟨x0, x1, x2, x3, x4, x5, x6, x7, x8, x9, x10, x11, x12, x13⟩ := hr3.cells; have HB3 := Lib.hid hb3; have HR3 := Lib.hid hr3; clear hb3 hr3))
              go_ret
              exact ⟨ret_i HZ.out.symm, HB3.out⟩
          · have hz2 : z = phasesS r := by rw [hz]; simp [f1, q1, o1, p1]
            have HZ := Lib.hid hz2
            clear hz hz2
            as_aux_lemma =>
              go_enter Tryz.func28, Tryz.ntmps28
              go_wp2_with (first | (go_at_call 65; refine (HNM.out _ HB0.out HA.out).mono ?_; rintro e w2 ⟨rfl, hb2, hr2⟩; obtain ⟨y0, y1, y2, y3, y4, y5, y6, y7, y8, y9, y10, y11, y12, y13⟩ := hr2.cells; have HB2 := Lib.hid hb2; have HR2 := Lib.hid hr2; clear hb2 hr2) | (go_at_call 66; refine (HIR.out _ HB2.out HR2.out).mono ?_; rintro e w3 ⟨rfl, hb3, hr3⟩; obtain ⟨x0, x1, x2, x3, x4, x5, x6, x7, x8, x9, x10, x11, x12, x13⟩ := hr3.cells; have HB3 := Lib.hid hb3; have HR3 := Lib.hid hr3; clear hb3 hr3) | (go_at_call 67; refine (HPH.out _ HB3.out HR3.out).mono ?_; rintro e w4 ⟨rfl, hb4⟩; have HB4 := Lib.hid hb4; clear hb4))
              go_ret
              exact ⟨ret_i HZ.out.symm, HB4.out⟩
        · rcases band (decide (0 < r.power.length)) (r.overs == 0) with ⟨l1, o1⟩ | ⟨l1, o1⟩ | l1
          · have l2 : decide ((0 : Int) < (r.power.length : Int)) = true := by rw [← l1]; simp
            have hz2 : z = 1 := by rw [hz]; simp [f1, q1, l1, o1]
            have HZ := Lib.hid hz2
            clear hz hz2
            as_aux_lemma =>
              go_enter Tryz.func28, Tryz.ntmps28
              go_wp2_with (first | (go_at_call 65; refine (HNM.out _ HB0.out HA.out).mono ?_; rintro e w2 ⟨rfl, hb2, hr2⟩; obtain ⟨y0, y1, y2, y3, y4, y5, y6, y7, y8, y9, y10, y11, y12, y13⟩ := hr2.cells; have HB2 := Lib.hid hb2; have HR2 := Lib.hid hr2; clear hb2 hr2) | (go_at_call 66; refine (HIR.out _ HB2.out HR2.out).mono ?_; rintro e w3 ⟨rfl, hb3, hr3⟩; obtain ⟨x0, x1, x2, x3, x4, x5, x6, x7, x8, x9, x10, x11, x12, x13⟩ := hr3.cells; have HB3 := Lib.hid hb3; have HR3 := Lib.hid hr3; clear hb3 hr3))
              go_ret
              exact ⟨ret_i HZ.out.symm, HB3.out⟩
          · have l2 : decide ((0 : Int) < (r.power.length : Int)) = true := by rw [← l1]; simp
            have hz2 : z = phasesS r := by rw [hz]; simp [f1, q1, l1, o1]
            have HZ := Lib.hid hz2
            clear hz hz2
            as_aux_lemma =>
              go_enter Tryz.func28, Tryz.ntmps28
              go_wp2_with (first | (go_at_call 65; refine (HNM.out _ HB0.out HA.out).mono ?_; rintro e w2 ⟨rfl, hb2, hr2⟩; obtain ⟨y0, y1, y2, y3, y4, y5, y6, y7, y8, y9, y10, y11, y12, y13⟩ := hr2.cells; have HB2 := Lib.hid hb2; have HR2 := Lib.hid hr2; clear hb2 hr2) | (go_at_call 66; refine (HIR.out _ HB2.out HR2.out).mono ?_; rintro e w3 ⟨rfl, hb3, hr3⟩; obtain ⟨x0, x1, x2, x3, x4, x5, x6, x7, x8, x9, x10, x11, x12, x13⟩ := hr3.cells; have HB3 := Lib.hid hb3; have HR3 := Lib.hid hr3; clear hb3 hr3) | (go_at_call 67; refine (HPH.out _ HB3.out HR3.out).mono ?_; rintro e w4 ⟨rfl, hb4⟩; have HB4 := Lib.hid hb4; clear hb4))
              go_ret
              exact ⟨ret_i HZ.out.symm, HB4.out⟩
          · have l2 : decide ((0 : Int) < (r.power.length : Int)) = false := by rw [← l1]; simp
            have hz2 : z = phasesS r := by rw [hz]; simp [f1, q1, l1]
            have HZ := Lib.hid hz2
            clear hz hz2
            as_aux_lemma =>
              go_enter Tryz.func28, Tryz.ntmps28
              go_wp2_with (first | (go_at_call 65; refine (HNM.out _ HB0.out HA.out).mono ?_; rintro e w2 ⟨rfl, hb2, hr2⟩; obtain ⟨y0, y1, y2, y3, y4, y5, y6, y7, y8, y9, y10, y11, y12, y13⟩ := hr2.cells; have HB2 := Lib.hid hb2; have HR2 := Lib.hid hr2; clear hb2 hr2) | (go_at_call 66; refine (HIR.out _ HB2.out HR2.out).mono ?_; rintro e w3 ⟨rfl, hb3, hr3⟩; obtain ⟨x0, x1, x2, x3, x4, x5, x6, x7, x8, x9, x10, x11, x12, x13⟩ := hr3.cells; have HB3 := Lib.hid hb3; have HR3 := Lib.hid hr3; clear hb3 hr3) | (go_at_call 67; refine (HPH.out _ HB3.out HR3.out).mono ?_; rintro e w4 ⟨rfl, hb4⟩; have HB4 := Lib.hid hb4; clear hb4))
              go_ret
              exact ⟨ret_i HZ.out.symm, HB4.out⟩
end Go.Proofs.YtglkejlimeakbaaGreatDoor
