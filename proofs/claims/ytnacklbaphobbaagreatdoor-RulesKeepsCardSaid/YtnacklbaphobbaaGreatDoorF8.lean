/- The reference's cursor: its state; fail, More, next. -/
import Derived.Test.YtnacklbaphobbaaGreatDoorF3
import Derived.Test.YtnacklbaphobbaaGreatDoorC
import Derived.Test.YtnacklbaphobbaaGreatDoorF0
set_option linter.unusedSimpArgs false
set_option linter.unusedVariables false
namespace Go.Proofs.YtnacklbaphobbaaGreatDoor
open Go.RowKit

def rcurCells (c : Cur) (fv : Value) : Array Value := #[.int .i64 c.num, fv, .int .i64 c.next, .int .i64 c.err, .int .i64 c.pos]
/-- The column of the field read last. -/
def lastOf (c : Cur) : Int := if c.next = 0 then 0 else ((c.fields[c.next - 1]?).map (·.col)).getD 0
structure RCurAt (w : World) (F : Nat → Prop) (g : Nat) (c : Cur) : Prop where
  ok : c.ok
  blk : ∃ fv, Blk w g 106 (rcurCells c fv) ∧ Sl 3 elFld w F fv c.fields
  foot : ∀ b, F b → b < w.heap.size ∧ b ≠ g
  last : c.last = lastOf c
theorem RCurAt.lt {w : World} {F : Nat → Prop} {g : Nat} {c : Cur} (h : RCurAt w F g c) : g < w.heap.size := let ⟨_, hb, _⟩ := h.blk; hb.lt
theorem RCurAt.keep {w w' : World} {F G : Nat → Prop} {g : Nat} {c : Cur} (h : RCurAt w F g c) (hs : Same F w w') (hg : w'.heap[g]? = w.heap[g]?) (hz : w.heap.size ≤ w'.heap.size) : RCurAt w' F g c := by
  obtain ⟨fv, hb, hf⟩ := h.blk
  exact ⟨h.ok, ⟨fv, hg.trans hb, hf.keep elFld_good hs fun _ h => h⟩, fun b hF => ⟨by have := (h.foot b hF).1; omega, (h.foot b hF).2⟩, h.last⟩
theorem RCurAt.below {w w' : World} {F : Nat → Prop} {g : Nat} {c : Cur} (h : RCurAt w F g c) (hb : Below w.heap.size w w') : RCurAt w' F g c :=
  h.keep (G := F) (Same.below hb fun b hF => (h.foot b hF).1) (hb.block g h.lt) hb.size
theorem RCurAt.drewN {w : World} {F : Nat → Prop} {g : Nat} {c : Cur} (h : RCurAt w F g c) (n : Nat) : RCurAt (w.drewN n) F g c :=
  h.keep (G := F) (fun _ _ => rfl) rfl (Nat.le_refl _)
theorem RCurAt.alloc {w : World} {F : Nat → Prop} {g : Nat} {c : Cur} (h : RCurAt w F g c) (o : Obj) : RCurAt (w.alloc o) F g c := h.below (Below.alloc (Below.refl _ _) (Nat.le_refl _) o)
/-- Behind writes into the cursor's own block. -/
theorem RCurAt.wrote {w w' : World} {F : Nat → Prop} {g : Nat} {c c' : Cur} {fv : Value} (h : RCurAt w F g c) (hf : Sl 3 elFld w F fv c.fields) (ho : Only g w w') (hb : Blk w' g 106 (rcurCells c' fv)) (hc : c'.fields = c.fields) (hok : c'.ok) (hl : c'.last = lastOf c') : RCurAt w' F g c' :=
  ⟨hok, ⟨fv, hb, by rw [hc]; exact hf.keep elFld_good (ho.same h.foot) fun _ h => h⟩, fun b hF => ⟨by have := (h.foot b hF).1; have := ho.size; omega, (h.foot b hF).2⟩, hl⟩
theorem fail_last {c : Cur} (h : c.last = lastOf c) (e col : Int) : (c.fail e col).last = lastOf (c.fail e col) := by
  unfold Cur.fail
  split
  · exact h
  · exact h
set_option maxRecDepth 100000 in
set_option maxHeartbeats 1000000 in
theorem rcur_fail (c : Cur) (e col : Int) (F : Nat → Prop) (g : Nat) (w : World) (h : RCurAt w F g c) (he : c.err = 0) :
    Calls Tryz.prog 103 #[.pointer (some ⟨g, 0, none⟩), .int .i64 e, .int .i64 col] w fun x w' => x = .returned (.tuple #[]) ∧ RCurAt w' F g (c.fail e col) ∧ Only g w w' := by
  obtain ⟨fv, hb, hf⟩ := h.blk
  have c2 : w.cell? ⟨g, 3, none⟩ = some (.int .i64 c.err) := hb.cell 3
  have c3 : w.cell? ⟨g, 4, none⟩ = some (.int .i64 c.pos) := hb.cell 4
  have f2 := hb.frozen 3
  have f3 := hb.frozen 4
  have H := Lib.hid h
  have HB := Lib.hid hb
  have HF := Lib.hid hf
  have HE := Lib.hid he
  clear h hb hf he
  go_enter Tryz.func103, Tryz.ntmps103
  go_wp2
  go_end0
  have ho : Only g w ((w.setCell ⟨g, 3, none⟩ (.int .i64 e)).setCell ⟨g, 4, none⟩ (.int .i64 col)) := ((Only.refl g w).setCell (p := ⟨g, 3, none⟩) (.inl rfl) _).setCell (p := ⟨g, 4, none⟩) (.inl rfl) _
  refine ⟨rfl, H.out.wrote HF.out ho (c' := c.fail e col) ?_ (by unfold Cur.fail; rw [if_pos HE.out]) (Cur.fail_ok H.out.ok e col) (fail_last H.out.last e col), ho⟩
  have := (HB.out.set_ 3 (.int .i64 e)).set_ 4 (.int .i64 col)
  unfold Cur.fail
  rw [if_pos HE.out]
  exact this
set_option maxRecDepth 100000 in
set_option maxHeartbeats 1000000 in
theorem rcur_More (c : Cur) (F : Nat → Prop) (g : Nat) (w : World) (h : RCurAt w F g c) :
    Calls Tryz.prog 83 #[.pointer (some ⟨g, 0, none⟩)] w fun x w' => x = .returned (.bool c.more) ∧ ∃ n, w' = w.drewN n := by
  obtain ⟨fv, hb, hf⟩ := h.blk
  obtain ⟨A, cp, rfl, hc1, hc2⟩ := hf.shape
  have c1 : w.cell? ⟨g, 1, none⟩ = some (.slice A c.fields.length cp) := hb.cell 1
  have c2 : w.cell? ⟨g, 2, none⟩ = some (.int .i64 c.next) := hb.cell 2
  have c4 : w.cell? ⟨g, 3, none⟩ = some (.int .i64 c.err) := hb.cell 3
  clear h hb hf
  by_cases he : c.err = 0
  · have e0 : (c.err == 0) = true := beq_iff_eq.2 he
    have HE := Lib.hid he
    clear he
    go_enter Tryz.func83, Tryz.ntmps83
    go_wp2
    go_quiet (fail)
    go_wp2
    go_ret
    refine ⟨ret_b ?_, _, rfl⟩
    unfold Cur.more
    rw [decide_eq_true HE.out]
    simp
  · have e0 : (c.err == 0) = false := beq_eq_false_iff_ne.2 he
    have HE := Lib.hid he
    clear he
    go_enter Tryz.func83, Tryz.ntmps83
    go_wp2
    go_quiet (fail)
    go_wp2
    go_ret
    refine ⟨ret_b ?_, _, rfl⟩
    unfold Cur.more
    rw [decide_eq_false HE.out]
    simp
/-- A block of three cells behind three stores. -/
def put3 (W : World) (R : Nat) (a b c : Value) : World := ((W.setCell ⟨R, 0, none⟩ a).setCell ⟨R, 1, none⟩ b).setCell ⟨R, 2, none⟩ c
theorem put3_only (W : World) (R : Nat) (a b c : Value) : Only R W (put3 W R a b c) :=
  (((Only.refl R W).setCell (p := ⟨R, 0, none⟩) (.inl rfl) _).setCell (p := ⟨R, 1, none⟩) (.inl rfl) _).setCell (p := ⟨R, 2, none⟩) (.inl rfl) _
theorem blk_put3 {w : World} {g : Nat} {t : TypeId} {a b c : Value} (h : Blk w g t #[a, b, c]) (x0 x1 x2 : Value) : Blk (put3 w g x0 x1 x2) g t #[x0, x1, x2] :=
  ((h.set_ 0 x0).set_ 1 x1).set_ 2 x2
theorem RCurAt.only {w w' : World} {F : Nat → Prop} {g R : Nat} {c : Cur} (h : RCurAt w F g c) (ho : Only R w w') (hg : g ≠ R) (hF : ¬ F R) : RCurAt w' F g c :=
  h.keep (G := F) (ho.same fun b hb => ⟨(h.foot b hb).1, fun e => hF (e ▸ hb)⟩) (ho.block g h.lt fun e => hg (Option.some.inj e)) ho.size
/-- Only the blocks g and, behind w's own, others have turned. -/
theorem Only.glue {w w0 w' : World} {g R : Nat} (h1 : Only g w w0) (h2 : Only R w0 w') (hR : w.heap.size ≤ R) : Only g w w' :=
  ⟨h2.os.trans h1.os, h2.tape.trans h1.tape, h2.output.trans h1.output, Nat.le_trans h1.size h2.size, fun i hi hne => (h2.block i (Nat.lt_of_lt_of_le hi h1.size) fun e => by injection e with e; omega).trans (h1.block i hi hne)⟩
/-- How the reference hands back a field. -/
def fieldV (r : Cur × List UInt8 × Bool) (q : Bool) : Value := if r.2.2 then .tuple #[.agg #[.string (S r.2.1), .int .i64 r.1.last, .bool q], .bool true] else .tuple #[.agg #[.string ⟨#[]⟩, .int .i64 0, .bool false], .bool false]
def RNextPost (w : World) (F : Nat → Prop) (g : Nat) (r : Cur × List UInt8 × Bool) (q : Bool) (x : Ending) (w' : World) : Prop :=
  x = .returned (fieldV r q) ∧ RCurAt w' F g r.1 ∧ Only g w w'
theorem next_ret {R' : Ending → World → Prop} {a : Act} {w : World} {x0 x1 x2 v : Value} {g : Nat} (h2 : a.tmps[4]? = some (.pointer (some ⟨g, 0, none⟩))) (h3 : a.tmps[5]? = some v) (hb : Blk w g 83 #[x0, x1, x2])
    (hd : a.defers = []) (hR : R' (.returned (.tuple #[.agg #[x0, x1, x2], v])) w) : bodyPost Tryz.prog Tryz.f102 R' .ret a w := by
  obtain ⟨r0, r1, r2, _⟩ := hb.three
  refine bodyPost_ret (v := .tuple #[.agg #[x0, x1, x2], v]) (by simp [results, Tryz.results102, go_sem, h2, h3, r0, r1, r2]) hd hR
@[go_sem] theorem build_fld0 (w : World) : (Instr.build 83 #[]).run Tryz.prog w = .ok (.agg #[.string ByteArray.empty, .int .i64 0, .bool false]) w := run_build w 83 _ _ (by kernel_rfl)
set_option maxRecDepth 100000 in
set_option maxHeartbeats 2000000 in
theorem rcur_next (c : Cur) (q : Bool) (F : Nat → Prop) (g : Nat) (w : World) (h : RCurAt w F g c) :
    Calls Tryz.prog 102 #[.pointer (some ⟨g, 0, none⟩), .bool q] w (RNextPost w F g (c.read q) q) := by
  obtain ⟨r, hr⟩ : ∃ r, r = c.read q := ⟨_, rfl⟩
  rw [← hr]
  unfold Cur.read at hr
  obtain ⟨w0, hw0⟩ : ∃ x, x = w.alloc (.cells #[.string ⟨#[]⟩, .int .i64 0, .bool false] 83) := ⟨_, rfl⟩
  have h0 : RCurAt w0 F g c := by rw [hw0]; exact h.alloc _
  have hk0 : Blk w0 w.heap.size 83 #[.string ⟨#[]⟩, .int .i64 0, .bool false] := by rw [hw0]; exact Blk.new w _ _
  have ho0 : Only g w w0 := by rw [hw0]; exact (Only.refl g w).alloc _
  obtain ⟨fv, hb, hf⟩ := h0.blk
  obtain ⟨A, cp, rfl, hc1, hc2⟩ := hf.shape
  have hgw : g < w.heap.size := h.lt
  have c3 : w0.cell? ⟨g, 3, none⟩ = some (.int .i64 c.err) := hb.cell 3
  obtain ⟨r0, r1, r2, j0, j1, j2⟩ := hk0.three
  by_cases he : c.err = 0
  · have e0 : (c.err != 0) = false := by rw [he]; rfl
    rw [if_pos he] at hr
    have hmore := rcur_More c F g w0 h0
    by_cases hlt : c.next < c.fields.length
    · have hm : c.more = true := by unfold Cur.more; rw [decide_eq_true hlt, decide_eq_true he]; rfl
      rw [hm] at hmore
      obtain ⟨b, o, cs, rfl, hF, hcl, hcc, hel⟩ := hf.at hlt
      rw [List.getElem?_eq_getElem hlt] at hr
      have hlast2 : ((c.fields[c.next + 1 - 1]?).map (·.col)).getD 0 = (c.fields[c.next]).col := by rw [Nat.add_sub_cancel, List.getElem?_eq_getElem hlt]; rfl
      obtain ⟨⟨ft, fc, fq⟩, hfe⟩ : ∃ f, f = c.fields[c.next] := ⟨_, rfl⟩
      rw [← hfe] at hel hr hlast2
      clear hfe
      have hel' : cs = [.string (S ft), .int .i64 fc, .bool fq] := hel
      subst hel'
      have hbg := h0.foot b hF
      have hFR : ¬ F w.heap.size := fun hf => by have := (h.foot _ hf).1; omega
      have HR := Lib.hid hr
      have HM := Lib.hid hmore
      have H0 := Lib.hid h0
      have HK0 := Lib.hid hk0
      have HO0 := Lib.hid ho0
      have HB := Lib.hid hb
      have HF := Lib.hid hf
      have HCC := Lib.hid hcc
      have HE := Lib.hid he
      have HL2 := Lib.hid hlast2
      have HFR := Lib.hid hFR
      have hz0 : w0.heap.size = w.heap.size + 1 := by rw [hw0]; simp
      rw [hw0] at c3
      clear hr hmore h0 hb hf h hk0 ho0 he hm hcc hel hcl r0 r1 r2 j0 j1 j2 hlast2 hFR
      go_enter Tryz.func102, Tryz.ntmps102
      go_wp2_with fail
      rw [← hw0]
      refine HM.out.mono ?_
      rintro x w1 ⟨rfl, nd, rfl⟩
      have HZ0 := Lib.hid hz0
      clear c3 hw0 hz0
      go_wp2_with fail
      generalize hwq : w0.drewN nd = wq
      have hzq : wq.heap.size = w.heap.size + 1 := by rw [← hwq]; exact HZ0.out
      have hbl : b < wq.heap.size := by rw [hzq, ← HZ0.out]; exact hbg.1
      have hgl : g < wq.heap.size := by omega
      have hRl : w.heap.size < wq.heap.size := by omega
      have kq : Blk wq w.heap.size 83 #[.string ⟨#[]⟩, .int .i64 0, .bool false] := by rw [← hwq]; exact HK0.out
      have bq : Blk wq g 106 (rcurCells c (.slice (some ⟨b, o, none⟩) c.fields.length cp)) := by rw [← hwq]; exact HB.out
      have cq : RCurAt wq F g c := by rw [← hwq]; exact H0.out.drewN _
      have oq : Only g w wq := by rw [← hwq]; exact HO0.out.drewN _
      have z0 : wq.cell? ⟨b, o + c.next * 3, none⟩ = some (.string (S ft)) := by rw [← hwq]; exact HCC.out 0 _ rfl
      have z1 : wq.cell? ⟨b, o + c.next * 3 + 1, none⟩ = some (.int .i64 fc) := by rw [← hwq]; exact HCC.out 1 _ rfl
      have z2 : wq.cell? ⟨b, o + c.next * 3 + 2, none⟩ = some (.bool fq) := by rw [← hwq]; exact HCC.out 2 _ rfl
      have d1 : wq.cell? ⟨g, 1, none⟩ = some (.slice (some ⟨b, o, none⟩) c.fields.length cp) := bq.cell 1
      have d2 : wq.cell? ⟨g, 2, none⟩ = some (.int .i64 c.next) := bq.cell 2
      have d1a := (World.cell?_alloc_lt wq (Obj.cells #[.string ⟨#[]⟩, .int .i64 0, .bool false] 83) ⟨g, 1, none⟩ hgl).trans d1
      have d2a := (World.cell?_alloc_lt wq (Obj.cells #[.string ⟨#[]⟩, .int .i64 0, .bool false] 83) ⟨g, 2, none⟩ hgl).trans d2
      have z0a := (World.cell?_alloc_lt wq (Obj.cells #[.string ⟨#[]⟩, .int .i64 0, .bool false] 83) ⟨b, o + c.next * 3, none⟩ hbl).trans z0
      have z1a := (World.cell?_alloc_lt wq (Obj.cells #[.string ⟨#[]⟩, .int .i64 0, .bool false] 83) ⟨b, o + c.next * 3 + 1, none⟩ hbl).trans z1
      have z2a := (World.cell?_alloc_lt wq (Obj.cells #[.string ⟨#[]⟩, .int .i64 0, .bool false] 83) ⟨b, o + c.next * 3 + 2, none⟩ hbl).trans z2
      have fq0 : Sl 3 elFld wq F (.slice (some ⟨b, o, none⟩) c.fields.length cp) c.fields := by rw [← hwq]; exact HF.out.keep elFld_good (fun _ _ => rfl) fun _ h => h
      have FQ := Lib.hid fq0
      have KQ := Lib.hid kq
      have BQ := Lib.hid bq
      have CQ := Lib.hid cq
      have OQ := Lib.hid oq
      clear hwq kq bq cq oq fq0 HM H0 HK0 HO0 HB HCC
      go_region
      generalize hW : World.drew _ = wx
      have hx : wx = (wq.alloc (Obj.cells #[.string (S ft), .int .i64 fc, .bool fq] 83)).drew := hW.symm
      clear hW
      have hox : Only g w wx := by rw [hx]; exact (OQ.out.alloc _).drew
      have hbx : Blk wx g 106 (rcurCells c (.slice (some ⟨b, o, none⟩) c.fields.length cp)) := by rw [hx]; exact BQ.out.alloc _
      have hkx : Blk wx w.heap.size 83 #[.string ⟨#[]⟩, .int .i64 0, .bool false] := by rw [hx]; exact KQ.out.alloc _
      have hnx : Blk wx (w.heap.size + 1) 83 #[.string (S ft), .int .i64 fc, .bool fq] := by rw [hx, ← hzq]; exact Blk.new wq _ _
      have hfx : Sl 3 elFld wx F (.slice (some ⟨b, o, none⟩) c.fields.length cp) c.fields := by rw [hx]; exact FQ.out.keep elFld_good (Same.below (Below.drew (Below.alloc (Below.refl wq.heap.size wq) (Nat.le_refl _) _)) fun b hb => (CQ.out.foot b hb).1) fun _ h => h
      have hcx : RCurAt wx F g c := by rw [hx]; exact (CQ.out.alloc _).keep (G := F) (fun _ _ => rfl) rfl (Nat.le_refl _)
      obtain ⟨x0, x1, x2, _⟩ := hnx.three
      have w2 : wx.cell? ⟨g, 2, none⟩ = some (.int .i64 c.next) := hbx.cell 2
      have v2 := hbx.frozen 2
      obtain ⟨k0, k1, k2, l0, l1, l2⟩ := hkx.three
      have HFX := Lib.hid hfx
      have HZQ := Lib.hid hzq
      have HX := Lib.hid hox
      have HBX := Lib.hid hbx
      have HCX := Lib.hid hcx
      have HKX := Lib.hid hkx
      have HNX := Lib.hid hnx
      clear hfx hzq hx hox hbx hkx hnx hcx d1 d2 z0 z1 z2 d1a d2a z0a z1a z2a
      by_cases hq : fq = q
      · have hr2 : r = ({ c with next := c.next + 1, last := fc }, ft, true) := by rw [HR.out, if_pos hq]
        have e1 : (!(fq == q)) = false := by rw [hq]; simp
        have HR2 := Lib.hid hr2
        have Hq := Lib.hid hq
        have hnw : Only g wx (wx.setCell ⟨g, 2, none⟩ (.int .i64 ((c.next : Int) + 1))) := (Only.refl g wx).setCell (p := ⟨g, 2, none⟩) (.inl rfl) _
        have hbn := HBX.out.set_ 2 (.int .i64 ((c.next : Int) + 1))
        have hcn : RCurAt (wx.setCell ⟨g, 2, none⟩ (.int .i64 ((c.next : Int) + 1))) F g { c with next := c.next + 1, last := fc } :=
          HCX.out.wrote (c' := { c with next := c.next + 1, last := fc }) HFX.out hnw hbn rfl (by unfold Cur.ok; exact hlt) (by unfold lastOf; rw [if_neg (by simp)]; exact HL2.out.symm)
        clear hr2 hq
        have hkn := HKX.out.far (p := ⟨g, 2, none⟩) (by show w.heap.size ≠ g; omega) (.int .i64 ((c.next : Int) + 1))
        have HNW := Lib.hid hnw
        have HCN := Lib.hid hcn
        have HKN := Lib.hid hkn
        clear hnw hbn hcn hkn
        go_wp2
        refine next_ret rfl rfl (blk_put3 HKN.out _ _ _) rfl ?_
        rw [HR2.out, Hq.out]
        have hp := put3_only (wx.setCell ⟨g, 2, none⟩ (.int .i64 ((c.next : Int) + 1))) w.heap.size (.string (S ft)) (.int .i64 fc) (.bool q)
        exact ⟨rfl, HCN.out.only hp (by omega) HFR.out, Only.glue (HX.out.trans HNW.out) hp (Nat.le_refl _)⟩
      · have hr2 : r = (c.fail 4 fc, [], false) := by rw [HR.out, if_neg hq]
        have e1 : (!(fq == q)) = true := by simp [hq]
        have HR2 := Lib.hid hr2
        have hfl := rcur_fail c 4 fc F g wx HCX.out HE.out
        have HFL := Lib.hid hfl
        clear hr2 hq hfl
        go_wp2_with (go_at_call 103; refine HFL.out.mono ?_; rintro x w2 ⟨rfl, hc2, ho2⟩; have hk2 := HKX.out.grown ho2 (fun e => by injection e with e; omega); obtain ⟨p0, p1, p2, m0, m1, m2⟩ := hk2.three; have HC2 := Lib.hid hc2; have HO2 := Lib.hid ho2; have HK2 := Lib.hid hk2; clear hc2 ho2 hk2)
        refine next_ret rfl rfl (blk_put3 HK2.out _ _ _) rfl ?_
        rw [HR2.out]
        have hp := put3_only w2 w.heap.size (.string ⟨#[]⟩) (.int .i64 0) (.bool false)
        exact ⟨rfl, HC2.out.only hp (by omega) HFR.out, Only.glue (HX.out.trans HO2.out) hp (Nat.le_refl _)⟩
    · have hm : c.more = false := by unfold Cur.more; rw [decide_eq_false hlt, Bool.and_false]
      rw [hm] at hmore
      rw [List.getElem?_eq_none (by omega)] at hr
      have hfl := fun n => rcur_fail c 4 0 F g (w0.drewN n) (h0.drewN n) he
      have hFR : ¬ F w.heap.size := fun hf => by have := (h.foot _ hf).1; omega
      have HFR := Lib.hid hFR
      have HR := Lib.hid hr
      have HM := Lib.hid hmore
      have HFL := Lib.hid hfl
      have HK0 := Lib.hid hk0
      have HO0 := Lib.hid ho0
      rw [hw0] at c3
      clear hr hmore hfl h0 hb hf h hk0 ho0 he hm hFR r0 r1 r2 j0 j1 j2
      go_enter Tryz.func102, Tryz.ntmps102
      go_wp2_with fail
      rw [← hw0]
      refine HM.out.mono ?_
      rintro x w1 ⟨rfl, nd, rfl⟩
      clear c3 hw0
      go_wp2_with (go_at_call 103; refine (HFL.out nd).mono ?_; rintro x w2 ⟨rfl, hc2, ho2⟩; have hk2 := Blk.grown (w := w0.drewN nd) HK0.out ho2 (fun e => by injection e with e; omega); obtain ⟨p0, p1, p2, m0, m1, m2⟩ := hk2.three; have HC2 := Lib.hid hc2; have HO2 := Lib.hid ho2; have HK2 := Lib.hid hk2; clear hc2 ho2 hk2)
      refine next_ret rfl rfl (blk_put3 HK2.out _ _ _) rfl ?_
      rw [HR.out]
      have hp := put3_only w2 w.heap.size (.string ⟨#[]⟩) (.int .i64 0) (.bool false)
      exact ⟨rfl, HC2.out.only hp (by omega) HFR.out, Only.glue ((HO0.out.drewN nd).trans HO2.out) hp (Nat.le_refl _)⟩
  · have e0 : (c.err != 0) = true := by rw [bne_iff_ne]; exact he
    rw [if_neg he] at hr
    have HR := Lib.hid hr
    have H0 := Lib.hid h0
    have HK0 := Lib.hid hk0
    have HO0 := Lib.hid ho0
    rw [hw0] at c3
    clear hr h0 hb hf h hk0 ho0 he r0 r1 r2 j0 j1 j2
    go_enter Tryz.func102, Tryz.ntmps102
    go_wp2
    rw [← hw0]
    refine next_ret rfl rfl HK0.out rfl ?_
    rw [HR.out]
    exact ⟨rfl, H0.out, HO0.out⟩
end Go.Proofs.YtnacklbaphobbaaGreatDoor
