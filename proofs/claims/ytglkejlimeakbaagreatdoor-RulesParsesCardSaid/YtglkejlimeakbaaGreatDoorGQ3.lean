/- Several texts of this family in one: U19 U20 U21 U13 F3 U15 F8 F9 F10 F11 F15 F16 F12 U30. -/
import Derived.Test.YtglkejlimeakbaaGreatDoorGQ2
import Derived.Deep.RegionLaw
import Derived.Test.YtglkejlimeakbaaGreatDoorGQ0
import Derived.Test.YtglkejlimeakbaaGreatDoorGQ1
import Derived.Laws.Tables
import Derived.IntWalk
import Derived.Deep.AppendSrc
import Derived.Deep.Upon
set_option linter.unusedSimpArgs false
set_option linter.unusedVariables false
namespace Go.Proofs.YtglkejlimeakbaaGreatDoor
open Go.RowKit

section
variable {w2 Wb : World} {g : Nat} {F : Nat → Prop} {W W' W3 : World} {q q' : Rul} {c c' : Cur} {bc bf : Nat}
theorem RC.drew (h : RC w2 Wb g F W q c) : RC w2 Wb g F W.drew q c := h.below (Below.drew (Below.refl _ _))
theorem RC.alloc (h : RC w2 Wb g F W q c) (o : Obj) : RC w2 Wb g F (W.alloc o) q c := h.below (Below.alloc (Below.refl _ _) (Nat.le_refl _) o)
theorem Cur.oneOf_fields (c : Cur) (l : List (List UInt8)) : (c.oneOf l).1.fields = c.fields := by
  unfold Cur.oneOf Cur.fail
  repeat' split
  all_goals exact Cur.read_fields c false
/-- The two words of a free hit, just laid. -/
theorem yes_no (w : World) : Sl 1 elStr (w.alloc (.cells #[.string ⟨#[89, 69, 83]⟩, .string ⟨#[78, 79]⟩] 9)) (fun b => b = w.heap.size) (.slice (some ⟨w.heap.size, 0, none⟩) 2 2) [kYES, kNO] := by
  refine ⟨_, 2, rfl, Nat.le_refl _, by decide, fun _ => ⟨w.heap.size, 0, rfl, rfl, fun i a hi => ?_⟩⟩
  have hb := Blk.new w 9 #[.string ⟨#[89, 69, 83]⟩, .string ⟨#[78, 79]⟩]
  have hlt := (List.getElem?_eq_some_iff.1 hi).1
  have : i = 0 ∨ i = 1 := by simp at hlt; omega
  rcases this with rfl | rfl
  · simp at hi; subst hi
    refine ⟨[.string (S kYES)], rfl, fun j u hu => ?_, rfl⟩
    have : j = 0 := by have := (List.getElem?_eq_some_iff.1 hu).1; simp at this; exact this
    subst this
    simp at hu; subst hu
    exact hb.cell 0
  · simp at hi; subst hi
    refine ⟨[.string (S kNO)], rfl, fun j u hu => ?_, rfl⟩
    have : j = 0 := by have := (List.getElem?_eq_some_iff.1 hu).1; simp at this; exact this
    subst this
    simp at hu; subst hu
    exact hb.cell 1
theorem rc_OneOf {i : Int} (h : RC w2 Wb g F W q c) (ho : (c', i) = c.oneOf [kYES, kNO]) : Calls Tryz.prog 63 #[.pointer (some ⟨g, 0, none⟩), .slice (some ⟨W.heap.size, 0, none⟩) 2 2] (W.alloc (.cells #[.string ⟨#[89, 69, 83]⟩, .string ⟨#[78, 79]⟩] 9)) fun x W' => x = .returned (.int .i64 i) ∧ RC w2 Wb g F W' q c' := by
  have h1 := h.alloc (.cells #[.string ⟨#[89, 69, 83]⟩, .string ⟨#[78, 79]⟩] 9)
  obtain ⟨a, hc, hs⟩ := h1.cur
  obtain ⟨a0, hc0, _⟩ := h.cur
  refine (cur_OneOf a _ [kYES, kNO] (fun b => b = W.heap.size) F g _ hc (yes_no W) (fun b hb => ⟨by rw [hb]; simp, by have := hc0.lt; omega⟩)).mono ?_
  rintro x w' ⟨rfl, k1, k2⟩
  have hso := hs.oneOf [kYES, kNO]
  rw [← ho] at hso
  refine ⟨by rw [hso.2], h1.only k2 k1 hso.1 ?_⟩
  have := Cur.oneOf_fields c [kYES, kNO]
  rw [← ho] at this
  exact this
/-- A powerplay more. -/
theorem rc_app {pv v3 : Value} {p : Pha} {o : Obj} (h : RC w2 Wb g F W q c) (hk : Blk W w2.heap.size 25 (rulCells q pv)) (hown : OwnSl 3 elPha 72 (w2.heap.size + 1) W pv q.power) (hFp : ∀ b, F b → pv.ownBlock ≠ some b)
    (hg3 : (W.alloc o).grownBy W3 pv.ownBlock) (hw3 : OwnSl 3 elPha 72 (w2.heap.size + 1) W3 v3 (q.power ++ [p])) (hat : v3.ownBlock = pv.ownBlock ∨ v3.ownBlock = some (W.alloc o).heap.size) :
    Blk W3 w2.heap.size 25 (rulCells q pv) ∧ RC w2 Wb g F (W3.setCell ⟨w2.heap.size, 13, none⟩ v3) { q with power := q.power ++ [p] } c := by
  obtain ⟨a, hc, hs⟩ := h.cur
  have hc' : CurAt (W.alloc o) F g a := hc.below (Below.alloc (Below.refl _ _) (Nat.le_refl _) o)
  have hown' := hown.alloc elPha_good o
  have hpg := hc'.ne_own hown' (by decide)
  have hpG := own_ne hown' (hk.alloc o) (by decide)
  have hk3 := (hk.alloc o).grown hg3 hpG
  have hc3 : CurAt W3 F g a := hc'.keep (G := F) (Same.grown hg3 fun b hb => ⟨(hc'.foot b hb).1, fun e => hFp b hb e.symm⟩) (hg3.block g hc'.lt fun e => hpg e.symm) hg3.size
  have hl := h.lt
  have hgl := h.hg
  have hbel : Below w2.heap.size w2 W3 := below_own (Below.alloc h.bel (by omega) o) hown' hg3 (by omega) (by simp; omega)
  refine ⟨hk3, ⟨v3, hk3.set_ 13 v3, hw3.grown elPha_good ((Only.refl w2.heap.size W3).setCell (p := ⟨w2.heap.size, 13, none⟩) (.inl rfl) _) fun b hb e => own_ne hw3 hk3 (by decide) (by rw [hb, e]), fun b hb e => ?_⟩, ⟨a, hc3.far (by omega) h.hF _ rfl _, hs⟩, hbel.setCell (Nat.le_refl _) _, h.hg, h.hF, h.len, ((h.sm.trans (Same.below (Below.alloc (Below.refl W.heap.size W) (Nat.le_refl _) o) fun b hb => (hc.foot b hb).1)).trans (Same.grown hg3 fun b hb => ⟨(hc'.foot b hb).1, fun e => hFp b hb e.symm⟩)).trans fun b hb => Below.heap_setCell W3 ⟨w2.heap.size, 13, none⟩ v3 b (fun e => h.hF (by rw [show w2.heap.size = b from e.symm]; exact hb))⟩
  rcases hat with h1 | h1
  · exact hFp b hb (by rw [← h1, e])
  · rw [h1] at e
    have := (hc'.foot b hb).1
    have := Option.some.inj e
    omega
end
set_option maxRecDepth 100000 in
set_option maxHeartbeats 4000000 in
theorem read_0 {w2 Wb : World} {g : Nat} {F : Nat → Prop} {W : World} {q : Rul} {c : Cur} (hgl : GlobN w2) (h : RC w2 Wb g F W q c) :
    Calls Tryz.prog 26 #[.pointer (some ⟨w2.heap.size, 0, none⟩), .int .i64 0, .pointer (some ⟨g, 0, none⟩)] W fun e W' => e = .returned (.tuple #[]) ∧ RC w2 Wb g F W' (readR q 0 c).1 (readR q 0 c).2 := by
  have hd := RD.one h
  obtain ⟨cc, hcc⟩ : ∃ x, x = (c.keyword kRULES).1 := ⟨_, rfl⟩
  obtain ⟨⟨c', t⟩, hct⟩ : ∃ x, x = cc.ident := ⟨_, rfl⟩
  have he : readR q 0 c = ({ q with name := t }, c') := by
    have : readR q 0 c = ({ q with name := (c.keyword kRULES).1.ident.2 }, (c.keyword kRULES).1.ident.1) := rfl
    rw [this, ← hcc, ← hct]
  rw [he]
  have k1 := rd_Keyword hd ⟨#[82, 85, 76, 69, 83]⟩
  have e1 : (c.keyword (ByteArray.mk #[82, 85, 76, 69, 83]).data.toList).1 = cc := hcc.symm
  rw [e1] at k1
  have k2 := fun W1 (h1 : RD w2 Wb g F W.heap.size (W.heap.size + 1) W1 q cc) => rd_Ident h1
  rw [← hct] at k2
  have K1 := Lib.hid k1
  have K2 := Lib.hid k2
  have tok0 : True := trivial
  clear h hd k1 k2 hgl hcc hct he e1
  go_enter Tryz.func26, Tryz.ntmps26
  go_wp2_with (first
    | (clear tok0; go_at_call 61; refine K1.out.mono ?_; rintro e W1 ⟨⟨bb, rfl⟩, h1⟩; obtain ⟨y0, y1⟩ := h1.cells; have H1 := Lib.hid h1; clear h1; have tok1 : True := trivial)
    | (clear tok1; go_at_call 62; refine (K2.out _ H1.out).mono ?_; rintro e W2 ⟨rfl, h2⟩; obtain ⟨⟨u, z0⟩, z1⟩ := h2.spot 0 (by decide); have H2 := Lib.hid h2; clear h2; have tok2 : True := trivial))
  go_end0
  exact ⟨rfl, (H2.out.set (q' := { q with name := t }) 0 (.string (S t)) (fun _ => rfl) rfl).toRC⟩
set_option maxRecDepth 100000 in
set_option maxHeartbeats 4000000 in
theorem read_6 {w2 Wb : World} {g : Nat} {F : Nat → Prop} {W : World} {q : Rul} {c : Cur} (hgl : GlobN w2) (h : RC w2 Wb g F W q c) :
    Calls Tryz.prog 26 #[.pointer (some ⟨w2.heap.size, 0, none⟩), .int .i64 6, .pointer (some ⟨g, 0, none⟩)] W fun e W' => e = .returned (.tuple #[]) ∧ RC w2 Wb g F W' (readR q 6 c).1 (readR q 6 c).2 := by
  have hd := RD.one h
  obtain ⟨⟨c1, v1⟩, hcv⟩ : ∃ x, x = (c.keyword kRUNS).1.n := ⟨_, rfl⟩
  obtain ⟨⟨c2, v2⟩, hcv2⟩ : ∃ x, x = c1.n := ⟨_, rfl⟩
  have he : readR q 6 c = ({ q with wide := v1, noball := v2 }, c2) := by
    have : readR q 6 c = ({ q with wide := (c.keyword kRUNS).1.n.2, noball := (c.keyword kRUNS).1.n.1.n.2 }, (c.keyword kRUNS).1.n.1.n.1) := rfl
    rw [this, ← hcv, ← hcv2]
  rw [he]
  have k1 := read2 hgl hd ⟨#[82, 85, 78, 83]⟩ 6 (by decide) c1 v1 hcv (q' := { q with wide := v1 }) (fun _ => rfl) rfl
  have k2 := fun W1 (h1 : RD w2 Wb g F W.heap.size (W.heap.size + 1) W1 { q with wide := v1 } c1) => read1 hgl h1
  rw [← hcv2] at k2
  have K1 := Lib.hid k1
  have K2 := Lib.hid k2
  have tok0 : True := trivial
  clear h hd k1 k2 hgl hcv hcv2 he
  go_enter Tryz.func26, Tryz.ntmps26
  go_wp2_with (first
    | (clear tok0; go_at_call 60; refine K1.out.mono ?_; rintro e W1 ⟨rfl, h1⟩; obtain ⟨y0, y1⟩ := h1.cells; have H1 := Lib.hid h1; clear h1; have tok1 : True := trivial)
    | (clear tok1; go_at_call 58; refine (K2.out _ H1.out).mono ?_; rintro e W2 ⟨rfl, h2⟩; obtain ⟨⟨u, z0⟩, z1⟩ := h2.spot 7 (by decide); have H2 := Lib.hid h2; clear h2; have tok2 : True := trivial))
  go_end0
  exact ⟨rfl, (H2.out.set (q' := { q with wide := v1, noball := v2 }) 7 (.int .i64 v2) (fun _ => rfl) rfl).toRC⟩
set_option maxRecDepth 100000 in
set_option maxHeartbeats 4000000 in
theorem read_7 {w2 Wb : World} {g : Nat} {F : Nat → Prop} {W : World} {q : Rul} {c : Cur} (hgl : GlobN w2) (h : RC w2 Wb g F W q c) :
    Calls Tryz.prog 26 #[.pointer (some ⟨w2.heap.size, 0, none⟩), .int .i64 7, .pointer (some ⟨g, 0, none⟩)] W fun e W' => e = .returned (.tuple #[]) ∧ RC w2 Wb g F W' (readR q 7 c).1 (readR q 7 c).2 := by
  have hd := RD.one h
  obtain ⟨cc, hcc⟩ : ∃ x, x = (c.keyword kFREEHIT).1 := ⟨_, rfl⟩
  obtain ⟨⟨c', i⟩, hct⟩ : ∃ x, x = cc.oneOf [kYES, kNO] := ⟨_, rfl⟩
  have he : readR q 7 c = ({ q with free := (i == 0) }, c') := by
    have : readR q 7 c = ({ q with free := decide ((((c.keyword kFREEHIT).1.oneOf [kYES, kNO]).2 = 0)) }, ((c.keyword kFREEHIT).1.oneOf [kYES, kNO]).1) := rfl
    rw [this, ← hcc, ← hct]; rfl
  rw [he]
  have k1 := rd_Keyword hd ⟨#[70, 82, 69, 69, 72, 73, 84]⟩
  have e1 : (c.keyword (ByteArray.mk #[70, 82, 69, 69, 72, 73, 84]).data.toList).1 = cc := hcc.symm
  rw [e1] at k1
  have k2 := fun W1 (h1 : RC w2 Wb g F W1 q cc) => rc_OneOf h1 hct
  have K1 := Lib.hid k1
  have K2 := Lib.hid k2
  have tok0 : True := trivial
  clear h hd k1 k2 hgl hcc hct he e1
  go_enter Tryz.func26, Tryz.ntmps26
  go_wp2_with (first
    | (clear tok0; go_at_call 61; refine K1.out.mono ?_; rintro e W1 ⟨⟨bb, rfl⟩, h1⟩; obtain ⟨y0, y1⟩ := h1.cells; have H1 := Lib.hid h1; clear h1; have tok1 : True := trivial)
    | (clear tok1; go_at_call 63; refine (K2.out _ H1.out.toRC).mono ?_; rintro e W2 ⟨rfl, h2⟩; obtain ⟨⟨u, z0⟩, z1⟩ := h2.spot 8 (by decide); have H2 := Lib.hid h2; clear h2; have tok2 : True := trivial))
  go_end0
  exact ⟨rfl, H2.out.set (q' := { q with free := (i == 0) }) 8 (.bool (i == 0)) (fun _ => rfl) rfl⟩
/-- While a powerplay is read: it lies in block bp. -/
structure RP (w2 Wb : World) (g : Nat) (F : Nat → Prop) (bc bf bp : Nat) (W : World) (q : Rul) (c : Cur) (pv : Value) (p : Pha) : Prop where
  blk : Blk W w2.heap.size 25 (rulCells q pv)
  own : OwnSl 3 elPha 72 (w2.heap.size + 1) W pv q.power
  hFp : ∀ b, F b → pv.ownBlock ≠ some b
  nown : pv.ownBlock ≠ some bp
  cur : ∃ a, CurAt W F g a ∧ Cur.sim a c
  bel : Below w2.heap.size w2 W
  hg : w2.heap.size < g
  hF : ¬ F w2.heap.size
  len : ∀ f ∈ c.fields, f.text.length ≤ 1000
  kc : Blk W bc 57 #[.pointer (some ⟨g, 0, none⟩)]
  kf : Blk W bf 103 #[.func (.func 58) #[] #[.pointer (some ⟨bc, 0, none⟩)]]
  kp : Blk W bp 72 #[.int .i64 p.fr, .int .i64 p.til, .int .i64 p.out]
  nc : bc ≠ g
  nf : bf ≠ g
  mc : bc ≠ w2.heap.size
  mf : bf ≠ w2.heap.size
  np : bp ≠ g
  mp : w2.heap.size < bp
  pc : bc ≠ bp
  pf : bf ≠ bp
  Fp : ¬ F bp
  sm : Same F Wb W
section
variable {w2 Wb : World} {g : Nat} {F : Nat → Prop} {W W' W3 : World} {q q' : Rul} {c c' : Cur} {bc bf bp : Nat} {pv : Value} {p p' : Pha}
theorem RP.rd (h : RP w2 Wb g F bc bf bp W q c pv p) : RD w2 Wb g F bc bf W q c := ⟨⟨⟨pv, h.blk, h.own, h.hFp⟩, h.cur, h.bel, h.hg, h.hF, h.len, h.sm⟩, h.kc, h.kf, h.nc, h.nf, h.mc, h.mf⟩
theorem RP.only (h : RP w2 Wb g F bc bf bp W q c pv p) (ho : Only g W W') {a : Cur} (hc : CurAt W' F g a) (hs : Cur.sim a c') (hf : c'.fields = c.fields) : RP w2 Wb g F bc bf bp W' q c' pv p := by
  have hr := h.rd.only ho hc hs hf
  obtain ⟨a0, hc0, _⟩ := h.cur
  have hgl := h.hg
  exact ⟨h.blk.grown ho (by simp; omega), h.own.grown elPha_good ho fun b hb e => by
    have : g = b := Option.some.inj e
    subst this
    exact hc0.ne_own h.own (by decide) hb, h.hFp, h.nown, hr.cur, hr.bel, h.hg, h.hF, hr.len, hr.kc, hr.kf, h.kp.grown ho (by simpa using fun e => h.np e.symm), h.nc, h.nf, h.mc, h.mf, h.np, h.mp, h.pc, h.pf, h.Fp, hr.sm⟩
theorem RP.below (h : RP w2 Wb g F bc bf bp W q c pv p) (hb : Below W.heap.size W W') : RP w2 Wb g F bc bf bp W' q c pv p := by
  obtain ⟨a, hc, hs⟩ := h.cur
  exact ⟨h.blk.below hb h.blk.lt, h.own.below elPha_good hb, h.hFp, h.nown, ⟨a, hc.below hb, hs⟩, h.bel.trans (hb.mono (Nat.le_of_lt h.blk.lt)), h.hg, h.hF, h.len, h.kc.below hb h.kc.lt, h.kf.below hb h.kf.lt, h.kp.below hb h.kp.lt, h.nc, h.nf, h.mc, h.mf, h.np, h.mp, h.pc, h.pf, h.Fp, h.sm.trans (Same.below hb fun b hb => (hc.foot b hb).1)⟩
theorem RP.set (h : RP w2 Wb g F bc bf bp W q c pv p) (i : Nat) (u : Value) (hp : (#[.int .i64 p.fr, .int .i64 p.til, .int .i64 p.out] : Array Value).setIfInBounds i u = #[.int .i64 p'.fr, .int .i64 p'.til, .int .i64 p'.out]) : RP w2 Wb g F bc bf bp (W.setCell ⟨bp, i, none⟩ u) q c pv p' := by
  obtain ⟨a, hc, hs⟩ := h.cur
  have hm := h.mp
  refine ⟨h.blk.far (by simp; omega) _, h.own.grown elPha_good ((Only.refl bp W).setCell (p := ⟨bp, i, none⟩) (.inl rfl) _) fun b hb e => h.nown (by rw [hb, e]), h.hFp, h.nown, ⟨a, hc.far h.np h.Fp _ rfl _, hs⟩, h.bel.setCell (Nat.le_of_lt hm) _, h.hg, h.hF, h.len, h.kc.far h.pc _, h.kf.far h.pf _, ?_, h.nc, h.nf, h.mc, h.mf, h.np, h.mp, h.pc, h.pf, h.Fp, h.sm.trans fun b hb => Below.heap_setCell W ⟨bp, i, none⟩ u b (fun e => h.Fp (by rw [show bp = b from e.symm]; exact hb))⟩
  rw [← hp]; exact h.kp.set_ i u
theorem RP.new (h : RD w2 Wb g F bc bf W q c) (p : Pha) : ∃ pv, RP w2 Wb g F bc bf W.heap.size (W.alloc (.cells #[.int .i64 p.fr, .int .i64 p.til, .int .i64 p.out] 72)) q c pv p := by
  obtain ⟨pv, hk, hown, hFp⟩ := h.ex
  obtain ⟨a, hc, hs⟩ := h.cur
  have hb : Below W.heap.size W (W.alloc (.cells #[.int .i64 p.fr, .int .i64 p.til, .int .i64 p.out] 72)) := Below.alloc (Below.refl _ _) (Nat.le_refl _) _
  have l1 := hk.lt
  have l2 := hc.lt
  have l3 := h.kc.lt
  have l4 := h.kf.lt
  exact ⟨pv, hk.below hb l1, hown.below elPha_good hb, hFp, fun e => by have := (hown.block _ e).2; omega, ⟨a, hc.below hb, hs⟩, h.bel.trans (hb.mono (Nat.le_of_lt l1)), h.hg, h.hF, h.len, h.kc.below hb l3, h.kf.below hb l4, Blk.new W _ _, h.nc, h.nf, h.mc, h.mf, by omega, l1, by omega, by omega, fun e => by have := (hc.foot _ e).1; omega, h.sm.trans (Same.below hb fun b hb => (hc.foot b hb).1)⟩
theorem rp_Int (hgl : GlobN w2) (h : RP w2 Wb g F bc bf bp W q c pv p) : Calls Tryz.prog 59 #[.pointer (some ⟨g, 0, none⟩), .int .i64 0, .int .i64 10000] W fun e W' => e = .returned (.int .i64 c.n.2) ∧ RP w2 Wb g F bc bf bp W' q c.n.1 pv p := by
  obtain ⟨a, hc, hs⟩ := h.cur
  refine (cur_Int a 0 10000 F g W hc (fun f hf => by rw [hs.fields] at hf; have := h.len f hf; omega) fun W9 h9 => hgl.below (h.bel.trans (h9.below (Nat.le_of_lt h.hg) (Nat.le_of_lt h.blk.lt)))).mono ?_
  rintro e W' ⟨rfl, h1, h2⟩
  have hi := hs.int 0 10000
  exact ⟨by rw [hi.2]; rfl, h.only h2 h1 hi.1 (Cur.int_fields _ _ _)⟩
theorem RP.cells (h : RP w2 Wb g F bc bf bp W q c pv p) : W.cell? ⟨bc, 0, none⟩ = some (.pointer (some ⟨g, 0, none⟩)) ∧ W.cell? ⟨bf, 0, none⟩ = some (.func (.func 58) #[] #[.pointer (some ⟨bc, 0, none⟩)]) ∧ W.cell? ⟨bp, 0, none⟩ = some (.int .i64 p.fr) ∧ W.cell? ⟨bp, 1, none⟩ = some (.int .i64 p.til) ∧ W.cell? ⟨bp, 2, none⟩ = some (.int .i64 p.out) ∧ W.frozen? ⟨bp, 1, none⟩ = false ∧ W.frozen? ⟨bp, 2, none⟩ = false ∧ W.cell? ⟨w2.heap.size, 13, none⟩ = some pv ∧ W.frozen? ⟨w2.heap.size, 13, none⟩ = false :=
  ⟨h.kc.cell 0, h.kf.cell 0, h.kp.cell 0, h.kp.cell 1, h.kp.cell 2, h.kp.frozen 1, h.kp.frozen 2, h.blk.cell 13, h.blk.frozen 13⟩
end
set_option maxRecDepth 100000 in
set_option maxHeartbeats 2000000 in
theorem read1p {w2 Wb : World} {g : Nat} {F : Nat → Prop} {bc bf bp : Nat} {W : World} {q : Rul} {c c' : Cur} {pv : Value} {p : Pha} {v : Int} (hgl : GlobN w2) (h : RP w2 Wb g F bc bf bp W q c pv p) (hcv : (c', v) = c.n) :
    Calls Tryz.prog 58 #[.pointer (some ⟨bc, 0, none⟩)] W fun e W' => e = .returned (.int .i64 v) ∧ RP w2 Wb g F bc bf bp W' q c' pv p := by
  obtain ⟨y0, _⟩ := h.cells
  have k := rp_Int hgl h
  rw [← hcv] at k
  have K := Lib.hid k
  clear h hgl hcv k
  go_enter Tryz.func58, Tryz.ntmps58
  go_wp2_with (go_at_call 59; refine K.out.mono ?_; rintro e W' ⟨rfl, h1⟩; have H1 := Lib.hid h1; clear h1)
  go_ret
  exact ⟨rfl, H1.out⟩
set_option maxRecDepth 100000 in
set_option maxHeartbeats 4000000 in
theorem read_pow {w2 Wb : World} {g : Nat} {F : Nat → Prop} {W : World} {q : Rul} {c : Cur} {i : Nat} (hgl : GlobN w2) (h : RC w2 Wb g F W q c) (hi : 12 ≤ i) (hn : q.power.length ≤ 1000000) :
    Calls Tryz.prog 26 #[.pointer (some ⟨w2.heap.size, 0, none⟩), .int .i64 i, .pointer (some ⟨g, 0, none⟩)] W fun e W' => e = .returned (.tuple #[]) ∧ RC w2 Wb g F W' (readR q i c).1 (readR q i c).2 := by
  have hd := RD.one h
  obtain ⟨cc, hcc⟩ : ∃ x, x = (c.keyword kPOWER).1 := ⟨_, rfl⟩
  obtain ⟨⟨c1, v1⟩, h1⟩ : ∃ x, x = cc.n := ⟨_, rfl⟩
  obtain ⟨⟨c2, v2⟩, h2⟩ : ∃ x, x = c1.n := ⟨_, rfl⟩
  obtain ⟨⟨c3, v3⟩, h3⟩ : ∃ x, x = c2.n := ⟨_, rfl⟩
  have he : readR q i c = ({ q with power := q.power ++ [⟨v1, v2, v3⟩] }, c3) := by
    obtain ⟨j, rfl⟩ : ∃ j, i = j + 12 := ⟨i - 12, by omega⟩
    have hr : readR q (j + 12) c = ({ q with power := q.power ++ [⟨(c.keyword kPOWER).1.n.2, (c.keyword kPOWER).1.n.1.n.2, (c.keyword kPOWER).1.n.1.n.1.n.2⟩] }, (c.keyword kPOWER).1.n.1.n.1.n.1) := rfl
    rw [hr, ← hcc, ← h1, ← h2, ← h3]
  rw [he]
  have k1 := rd_Keyword hd ⟨#[80, 79, 87, 69, 82]⟩
  have e1 : (c.keyword (ByteArray.mk #[80, 79, 87, 69, 82]).data.toList).1 = cc := hcc.symm
  rw [e1] at k1
  have k2 := fun W1 (h9 : RD w2 Wb g F W.heap.size (W.heap.size + 1) W1 q cc) => read1 hgl h9
  rw [← h1] at k2
  have K1 := Lib.hid k1
  have K2 := Lib.hid k2
  have HGL := Lib.hid hgl
  have H2E := Lib.hid h2
  have H3E := Lib.hid h3
  have tok0 : True := trivial
  have g0 : ((i : Int) == 0) = false := beq_eq_false_iff_ne.2 (by omega)
  have g1 : ((i : Int) == 1) = false := beq_eq_false_iff_ne.2 (by omega)
  have g2 : ((i : Int) == 2) = false := beq_eq_false_iff_ne.2 (by omega)
  have g3 : ((i : Int) == 3) = false := beq_eq_false_iff_ne.2 (by omega)
  have g4 : ((i : Int) == 4) = false := beq_eq_false_iff_ne.2 (by omega)
  have g5 : ((i : Int) == 5) = false := beq_eq_false_iff_ne.2 (by omega)
  have g6 : ((i : Int) == 6) = false := beq_eq_false_iff_ne.2 (by omega)
  have g7 : ((i : Int) == 7) = false := beq_eq_false_iff_ne.2 (by omega)
  have g8 : ((i : Int) == 8) = false := beq_eq_false_iff_ne.2 (by omega)
  have g9 : ((i : Int) == 9) = false := beq_eq_false_iff_ne.2 (by omega)
  have g10 : ((i : Int) == 10) = false := beq_eq_false_iff_ne.2 (by omega)
  have g11 : ((i : Int) == 11) = false := beq_eq_false_iff_ne.2 (by omega)
  clear h hd k1 k2 hgl hcc h1 h2 h3 he e1
  go_enter Tryz.func26, Tryz.ntmps26
  go_wp2_with (first
    | (clear tok0; go_at_call 61; refine K1.out.mono ?_; rintro e W1 ⟨⟨bb, rfl⟩, hd1⟩; obtain ⟨y0, y1⟩ := hd1.cells; have D1 := Lib.hid hd1; clear hd1; have tok1 : True := trivial)
    | (clear tok1; go_at_call 58; refine (K2.out _ D1.out).mono ?_; rintro e W2 ⟨rfl, hd2⟩; clear y0 y1; obtain ⟨y0, y1⟩ := hd2.cells; obtain ⟨pv, hp2⟩ := RP.new hd2 ⟨v1, 0, 0⟩; have n1 := hd2.kc.lt; have n2 := hd2.kf.lt; have P2 := Lib.hid hp2; clear hd2 hp2; have tok2 : True := trivial)
    | (clear tok2; go_at_call 58; refine (read1p HGL.out P2.out H2E.out).mono ?_; rintro e W3 ⟨rfl, hp3⟩; clear y0 y1; obtain ⟨y0, y1, a0, a1, a2, f1, f2, a13, f13⟩ := hp3.cells; have P3 := Lib.hid (hp3.set (p' := ⟨v1, v2, 0⟩) 1 (.int .i64 v2) rfl); have n3 := hp3.pc; have n4 := hp3.pf; clear hp3; have tok3 : True := trivial)
    | (clear tok3; go_at_call 58; refine (read1p HGL.out P3.out H3E.out).mono ?_; rintro e W4 ⟨rfl, hp4⟩; clear y0 y1 a0 a1 a2 f1 f2 a13 f13; obtain ⟨y0, y1, a0, a1, a2, f1, f2, a13, f13⟩ := hp4.cells; have P4 := Lib.hid (hp4.set (p' := ⟨v1, v2, v3⟩) 2 (.int .i64 v3) rfl); clear hp4; have tok4 : True := trivial))
  have hst := P4.out
  revert hst
  generalize World.setCell _ _ _ = W5
  intro hst
  have h5 := hst.rd.toRC
  obtain ⟨_, _, a0, a1, a2, _, _, a13, f13⟩ := (hst.below (Below.drew (Below.refl _ _))).cells
  obtain ⟨_, _, _, _, _, _, _, b13, _⟩ := (hst.below (Below.drew (Below.alloc (Below.refl _ _) (Nat.le_refl _) (.cells #[.int .i64 v1, .int .i64 v2, .int .i64 v3] 72)))).cells
  dsimp only at a0 a1 a2
  have how : OwnSl 3 elPha 72 (w2.heap.size + 1) W5.drew pv q.power := hst.own.below elPha_good (Below.drew (Below.refl _ _))
  have hz5 := h5.lt
  have HOW := Lib.hid how
  have P5 := Lib.hid hst
  clear hst h5 how
  go_region_law ((refine step_append_el rfl (.tmp 27) (.tmp 29) _ rfl E_pha elPha_good (w2.heap.size + 1) pv q.power rfl (HOW.out.alloc elPha_good _) ⟨W5.heap.size, 0, none⟩ 1 [.int .i64 v1, .int .i64 v2, .int .i64 v3] rfl ⟨v1, v2, v3⟩ rfl (cells_new _ _ _ _) (oneCells rfl) rfl (by simp only [maxLen]; omega) (by omega) (by simp; omega) ?_; intro g6 cap6 w6 hown6 hg6 hat6; obtain ⟨hk3, hr3⟩ := rc_app (W := W5.drew) P5.out.rd.toRC.drew P5.out.blk HOW.out P5.out.hFp hg6 hown6 (hat6.imp (fun e => e) fun e => congrArg some e); have y4 : w6.cell? ⟨w2.heap.size, 13, none⟩ = some pv := hk3.cell 13; have f4 := hk3.frozen 13; have HR3 := Lib.hid hr3; clear hk3 hr3 hown6 hg6 hat6))
  all_goals go_wp2
  all_goals go_end0
  all_goals exact ⟨rfl, HR3.out⟩
theorem rul_read {w2 Wb : World} {g : Nat} {F : Nat → Prop} {W : World} {q : Rul} {c : Cur} (i : Nat) (hgl : GlobN w2) (h : RC w2 Wb g F W q c) (hn : q.power.length ≤ 1000000) :
    Calls Tryz.prog 26 #[.pointer (some ⟨w2.heap.size, 0, none⟩), .int .i64 i, .pointer (some ⟨g, 0, none⟩)] W fun e W' => e = .returned (.tuple #[]) ∧ RC w2 Wb g F W' (readR q i c).1 (readR q i c).2 := by
  by_cases hi : 12 ≤ i
  · exact read_pow hgl h hi hn
  · match i, (show i < 12 by omega) with
    | 0, _ => exact read_0 hgl h
    | 1, _ => exact read_1 hgl h
    | 2, _ => exact read_2 hgl h
    | 3, _ => exact read_3 hgl h
    | 4, _ => exact read_4 hgl h
    | 5, _ => exact read_5 hgl h
    | 6, _ => exact read_6 hgl h
    | 7, _ => exact read_7 hgl h
    | 8, _ => exact read_8 hgl h
    | 9, _ => exact read_9 hgl h
    | 10, _ => exact read_10 hgl h
    | 11, _ => exact read_11 hgl h
end Go.Proofs.YtglkejlimeakbaaGreatDoor

namespace Go.Proofs.YtglkejlimeakbaaGreatDoor
open Go.RowKit

theorem Blk.row {w : World} {g : Nat} {t : TypeId} {old : Array Value} (h : Blk w g t old) (cs : Array Value) : Blk (w.setRow g cs) g t cs := setRow_heap w g old cs t (0, 0) h
theorem Only.row (g : Nat) (w : World) (cs : Array Value) : Only g w (w.setRow g cs) :=
  ⟨(Only.refl g w).os, (Only.refl g w).tape, (Only.refl g w).output, by simp, fun i hi hne => setRow_other w g i cs (fun e => hne (by rw [e]))⟩
theorem row_cell {w : World} {g i : Nat} {t : TypeId} {old cs : Array Value} {v : Value} (h : Blk w g t old) : (w.setRow g cs).setCell ⟨g, i, none⟩ v = w.setRow g (cs.setIfInBounds i v) := by
  rw [setCell_eq_setRow _ g i cs t (0, 0) v (h.row cs), setRow_setRow]
theorem row_chain {w : World} {g : Nat} {old : Array Value} (h : Blk w g 25 old) (x0 x1 x2 x3 x4 x5 x6 x7 x8 x9 x10 x11 x12 x13 : Value) : ((((((((((((((w.setCell ⟨g, 0, none⟩ x0).setCell ⟨g, 1, none⟩ x1).setCell ⟨g, 2, none⟩ x2).setCell ⟨g, 3, none⟩ x3).setCell ⟨g, 4, none⟩ x4).setCell ⟨g, 5, none⟩ x5).setCell ⟨g, 6, none⟩ x6).setCell ⟨g, 7, none⟩ x7).setCell ⟨g, 8, none⟩ x8).setCell ⟨g, 9, none⟩ x9).setCell ⟨g, 10, none⟩ x10).setCell ⟨g, 11, none⟩ x11).setCell ⟨g, 12, none⟩ x12).setCell ⟨g, 13, none⟩ x13) = w.setRow g ((((((((((((((old.setIfInBounds 0 x0).setIfInBounds 1 x1).setIfInBounds 2 x2).setIfInBounds 3 x3).setIfInBounds 4 x4).setIfInBounds 5 x5).setIfInBounds 6 x6).setIfInBounds 7 x7).setIfInBounds 8 x8).setIfInBounds 9 x9).setIfInBounds 10 x10).setIfInBounds 11 x11).setIfInBounds 12 x12).setIfInBounds 13 x13) := by
  rw [setCell_eq_setRow w g 0 old 25 (0, 0) x0 h]
  simp only [row_cell h]
def zeroR : Array Value := rulCells noRul (.slice none 0 0)
/-- Fourteen stores are one row. -/
theorem zero_chain {w : World} {g : Nat} (h : Blk w g 25 zeroR) (x0 x1 x2 x3 x4 x5 x6 x7 x8 x9 x10 x11 x12 x13 : Value) : ((((((((((((((w.setCell ⟨g, 0, none⟩ x0).setCell ⟨g, 1, none⟩ x1).setCell ⟨g, 2, none⟩ x2).setCell ⟨g, 3, none⟩ x3).setCell ⟨g, 4, none⟩ x4).setCell ⟨g, 5, none⟩ x5).setCell ⟨g, 6, none⟩ x6).setCell ⟨g, 7, none⟩ x7).setCell ⟨g, 8, none⟩ x8).setCell ⟨g, 9, none⟩ x9).setCell ⟨g, 10, none⟩ x10).setCell ⟨g, 11, none⟩ x11).setCell ⟨g, 12, none⟩ x12).setCell ⟨g, 13, none⟩ x13) = w.setRow g #[x0, x1, x2, x3, x4, x5, x6, x7, x8, x9, x10, x11, x12, x13] := by
  rw [row_chain h]
  exact congrArg (w.setRow g) (by kernel_rfl)
/-- Between two lines: the rules that are read. -/
def RQ (w2 W : World) (q : Rul) : Prop := ∃ pv, Blk W w2.heap.size 25 (rulCells q pv) ∧ OwnSl 3 elPha 72 (w2.heap.size + 1) W pv q.power ∧ Below w2.heap.size w2 W
section
variable {w2 Wb W W' : World} {q : Rul} {c : Cur} {g : Nat} {F : Nat → Prop}
theorem RQ.lt (h : RQ w2 W q) : w2.heap.size < W.heap.size := let ⟨_, hk, _⟩ := h; hk.lt
theorem RQ.bel (h : RQ w2 W q) : Below w2.heap.size w2 W := let ⟨_, _, _, hb⟩ := h; hb
theorem RQ.below (h : RQ w2 W q) (hb : Below W.heap.size W W') : RQ w2 W' q :=
  let ⟨pv, hk, ho, hl⟩ := h
  ⟨pv, hk.below hb hk.lt, ho.below elPha_good hb, hl.trans (hb.mono (Nat.le_of_lt hk.lt))⟩
theorem RC.rq (h : RC w2 Wb g F W q c) : RQ w2 W q := let ⟨pv, hk, ho, _⟩ := h.ex; ⟨pv, hk, ho, h.bel⟩
theorem RQ.start (w2 : World) : RQ w2 (w2.alloc (.cells (rulCells noRul (.slice none 0 0)) 25)) noRul := ⟨_, Blk.new w2 _ _, OwnSl.nil _, Below.alloc (Below.refl _ _) (Nat.le_refl _) _⟩
theorem rq_At (h : RQ w2 W q) (x : Lin) (v : Value) (F0 : Nat → Prop) (hx : Sl 3 elFld W F0 v x.fields) (hF0 : ∀ b, F0 b → b < W.heap.size) (hl : OkLin x) (lx : Nat) {cs : Array Value} (hk : Blk W lx 56 cs) (hne : lx ≠ w2.heap.size) :
    Calls Tryz.prog 25 #[.agg #[.int .i64 x.num, v]] W fun e W' => ∃ g F, e = .returned (.pointer (some ⟨g, 0, none⟩)) ∧ RC w2 W' g F W' q (Cur.start x) ∧ Blk W' lx 56 cs ∧ F lx := by
  refine (text_At x v F0 W hx hF0 (by have := hl.1; omega)).mono ?_
  rintro e W' ⟨g, rfl, hg, hc, hb⟩
  obtain ⟨pv, hkr, hown, hbel⟩ := h
  have hlt := hkr.lt
  have hlx := hk.lt
  refine ⟨g, fun b => (W.heap.size ≤ b ∧ b < W'.heap.size ∧ b ≠ g) ∨ b = lx, rfl, ⟨⟨pv, hkr.below hb hlt, hown.below elPha_good hb, ?_⟩, ⟨Cur.start x, ?_, Cur.sim.refl _⟩, hbel.trans (hb.mono (Nat.le_of_lt hlt)), by omega, ?_, hl.2, Same.refl _ _⟩, hk.below hb hlx, .inr rfl⟩
  · rintro b (⟨h1, _, _⟩ | rfl) e
    · have := (hown.block _ e).2; omega
    · exact own_ne hown hk (by decide) e
  · obtain ⟨fv, k1, k2⟩ := hc.blk
    refine ⟨hc.ok, ⟨fv, k1, k2.keep elFld_good (Same.refl _ _) fun b h => .inl h⟩, ?_⟩
    rintro b (h1 | rfl)
    · exact hc.foot b h1
    · exact ⟨Nat.lt_of_lt_of_le hlx hb.size, by omega⟩
  · rintro (⟨h1, _⟩ | h1)
    · omega
    · exact hne h1.symm
theorem rc_Close (h : RC w2 Wb g F W q c) : Calls Tryz.prog 27 #[.pointer (some ⟨g, 0, none⟩)] W fun e W' => e = .returned (closeV c.close) ∧ RC w2 Wb g F W' q c := by
  obtain ⟨a, hc, hs⟩ := h.cur
  refine (cur_Close a F g W hc).mono ?_
  rintro e W' ⟨rfl, h1⟩
  exact ⟨by rw [hs.close], h.below h1⟩
/-- The box of the line, while the cursor reads. -/
theorem RC.box (h : RC w2 Wb g F W q c) {lx : Nat} (hF : F lx) {cs : Array Value} (hk : Blk Wb lx 56 cs) : Blk W lx 56 cs := hk.keep h.sm hF
end
def RParsePost (w : World) (r : Rul × List Dia) (e : Ending) (w' : World) : Prop :=
  ∃ pv dv, e = .returned (.tuple #[rulV r.1 pv, dv]) ∧ Sl 3 elPha w' (Fr w.heap.size w') pv r.1.power ∧ Sl 3 elDia w' (Fr w.heap.size w') dv r.2 ∧ Below w.heap.size w w'
theorem RParsePost.below {w W : World} {r : Rul × List Dia} {pv dv : Value} (h1 : Sl 3 elPha W (Fr w.heap.size W) pv r.1.power) (h2 : Sl 3 elDia W (Fr w.heap.size W) dv r.2) (h3 : Below w.heap.size w W) : RParsePost w r (.returned (.tuple #[rulV r.1 pv, dv])) W := ⟨pv, dv, rfl, h1, h2, h3⟩
theorem rules_ret {R' : Ending → World → Prop} {a : Act} {w : World} {q : Rul} {pv v : Value} {g : Nat} (h2 : a.tmps[2]? = some (.pointer (some ⟨g, 0, none⟩))) (h3 : a.tmps[3]? = some v) (hb : Blk w g 25 (rulCells q pv))
    (hd : a.defers = []) (hR : R' (.returned (.tuple #[rulV q pv, v])) w) : bodyPost Tryz.prog Tryz.f7 R' .ret a w := by
  obtain ⟨r0, r1, r2, r3, r4, r5, r6, r7, r8, r9, r10, r11, r12, r13⟩ := Blk.fourteen hb
  refine bodyPost_ret (v := .tuple #[rulV q pv, v]) (by simp [results, Tryz.results7, go_sem, h2, h3, r0, r1, r2, r3, r4, r5, r6, r7, r8, r9, r10, r11, r12, r13]; rfl) hd hR
/-- The result is made empty. -/
theorem zero_post {w W : World} {R : Nat} {ds : List Dia} {dv : Value} (hR : R = w.heap.size) (hb : Below w.heap.size w W) (hlt : R < W.heap.size) (hd : Sl 3 elDia W (fun b => R < b ∧ b < W.heap.size) dv ds) : RParsePost w (noRul, ds) (.returned (.tuple #[rulV noRul (.slice none 0 0), dv])) (W.setRow R zeroR) := by
  subst hR
  have ho := Only.row w.heap.size W zeroR
  exact ⟨_, _, rfl, Sl.nil _ _, hd.keep elDia_good (ho.same fun b hb => ⟨hb.2, by omega⟩) fun b hb => ⟨by omega, by simpa using hb.2⟩, hb.trans (ho.below (Nat.le_refl _) (Nat.le_of_lt hlt))⟩
/-- One diagnostic, laid before the result is made empty or behind it. -/
theorem one_post {w W : World} {R n : Nat} {l c k : Int} {r : Rul × List Dia} (hr : r = (noRul, [⟨l, c, k⟩])) (hR : R = w.heap.size) (hb : Below w.heap.size w W) (hlt : R < W.heap.size) (hn : W.heap.size = n) :
    RParsePost w r (.returned (.tuple #[rulV noRul (.slice none 0 0), .slice (some ⟨n, 0, none⟩) 1 1])) ((W.alloc (.cells #[.int .i64 l, .int .i64 c, .int .i64 k] 41)).setRow R zeroR) := by
  subst hr; subst hn
  have hs := Sl.fresh1 W (fun x => x = W.heap.size) [.int .i64 l, .int .i64 c, .int .i64 k] 41 (R := elDia) (size := 3) (⟨l, c, k⟩ : Dia) rfl rfl rfl
  refine zero_post hR (Below.alloc hb (by omega) _) (by simp; omega) (hs.keep elDia_good (Same.refl _ _) fun x hx => by subst hx; simp; omega)
theorem one_post2 {w W : World} {R n : Nat} {l c k : Int} {r : Rul × List Dia} (hr : r = (noRul, [⟨l, c, k⟩])) (hR : R = w.heap.size) (hb : Below w.heap.size w W) (hlt : R < W.heap.size) (hn : W.heap.size = n) :
    RParsePost w r (.returned (.tuple #[rulV noRul (.slice none 0 0), .slice (some ⟨n, 0, none⟩) 1 1])) ((W.setRow R zeroR).alloc (.cells #[.int .i64 l, .int .i64 c, .int .i64 k] 41)) := by
  subst hr; subst hn; subst hR
  have ho := Only.row w.heap.size W zeroR
  have hb1 : Below w.heap.size w (W.setRow w.heap.size zeroR) := hb.trans (ho.below (Nat.le_refl _) (Nat.le_of_lt hlt))
  have hs := Sl.fresh1 (W.setRow w.heap.size zeroR) (fun x => x = (W.setRow w.heap.size zeroR).heap.size) [.int .i64 l, .int .i64 c, .int .i64 k] 41 (R := elDia) (size := 3) (⟨l, c, k⟩ : Dia) rfl rfl rfl
  have e : (W.setRow w.heap.size zeroR).heap.size = W.heap.size := by simp
  rw [e] at hs
  exact ⟨_, _, rfl, Sl.nil _ _, hs.keep elDia_good (Same.refl _ _) fun x hx => by subst hx; exact ⟨by omega, by simp⟩, Below.alloc hb1 (by simp; omega) _⟩
theorem fresh_post {w W : World} {n : Nat} {l c k : Int} {r : Rul × List Dia} (hr : r = (noRul, [⟨l, c, k⟩])) (hb : Below w.heap.size w W) (hn : W.heap.size = n) :
    RParsePost w r (.returned (.tuple #[rulV noRul (.slice none 0 0), .slice (some ⟨n, 0, none⟩) 1 1])) (W.alloc (.cells #[.int .i64 l, .int .i64 c, .int .i64 k] 41)) := by
  subst hr; subst hn
  have hs := Sl.fresh1 W (fun x => x = W.heap.size) [.int .i64 l, .int .i64 c, .int .i64 k] 41 (R := elDia) (size := 3) (⟨l, c, k⟩ : Dia) rfl rfl rfl
  exact ⟨_, _, rfl, Sl.nil _ _, hs.keep elDia_good (Same.refl _ _) fun x hx => by subst hx; exact ⟨hb.size, by simp⟩, Below.alloc hb hb.size _⟩
theorem RParsePost.drew {w W : World} {r : Rul × List Dia} {e : Ending} (h : RParsePost w r e W) : RParsePost w r e W.drew :=
  let ⟨pv, dv, h1, h2, h3, h4⟩ := h
  ⟨pv, dv, h1, h2.keep elPha_good (fun _ _ => rfl) fun _ h => h, h3.keep elDia_good (fun _ _ => rfl) fun _ h => h, Below.drew h4⟩
def lastK (ls : List Lin) : Nat → Int
  | 0 => 0
  | k + 1 => ((ls[k]?).map (·.num)).getD 0
theorem lastK_end (ls : List Lin) : lastK ls ls.length = lastNum ls := by
  unfold lastNum
  rw [List.getLast?_eq_getElem?]
  cases ls with
  | nil => rfl
  | cons x l => simp [lastK]
theorem lastK_at {ls : List Lin} {k : Nat} (hk : k < ls.length) : lastK ls (k + 1) = ls[k].num := by
  show ((ls[k]?).map (·.num)).getD 0 = _
  rw [List.getElem?_eq_getElem hk]; rfl
theorem lastNum_ok {s : List UInt8} : 0 ≤ lastNum (splitS s).1 ∧ lastNum (splitS s).1 ≤ s.length + 1 := by
  unfold lastNum
  cases h : (splitS s).1.getLast? with
  | none => simp; omega
  | some x =>
    have hx : x ∈ (splitS s).1 := List.mem_of_getLast? h
    obtain ⟨i, p, h1, h2, _⟩ := splitS_lines hx
    have h3 := (List.getElem?_eq_some_iff.1 h1).1
    have h4 := pieces_len 10 s
    simp only [Option.map_some, Option.getD_some]
    rw [h2]
    omega
theorem readR_small (q : Rul) (i : Nat) (x : Lin) (hx : OkLin x) (hn : q.name.length ≤ 1000) : (readR q i (Cur.start x)).1.power.length ≤ q.power.length + 1 ∧ (readR q i (Cur.start x)).1.name.length ≤ 1000 := by
  have hk : ((Cur.start x).keyword kRULES).1.ident.2.length ≤ 1000 := Cur.ident_text _ fun f hf => by
    rw [Cur.keyword_fields] at hf
    exact hx.2 f hf
  unfold readR
  split <;> first | exact ⟨by simp, hn⟩ | exact ⟨by simp, hk⟩ | (refine ⟨?_, hn⟩; simp)
section
variable {w2 Wb W : World} {q : Rul} {c : Cur} {g : Nat} {F : Nat → Prop}
theorem rc_Close_none (h : RC w2 Wb g F W q c) (hk : c.close = none) : Calls Tryz.prog 27 #[.pointer (some ⟨g, 0, none⟩)] W fun e W' => e = .returned (.tuple #[.agg #[.int .i64 0, .int .i64 0, .int .i64 0], .bool false]) ∧ RC w2 Wb g F W' q c := by
  have := rc_Close h
  rw [hk] at this
  exact this
theorem rc_Close_some {d : Dia} (h : RC w2 Wb g F W q c) (hk : c.close = some d) : Calls Tryz.prog 27 #[.pointer (some ⟨g, 0, none⟩)] W fun e W' => e = .returned (.tuple #[.agg #[.int .i64 d.line, .int .i64 d.col, .int .i64 d.code], .bool true]) ∧ RC w2 Wb g F W' q c := by
  have := rc_Close h
  rw [hk] at this
  exact this
end
set_option maxRecDepth 100000 in
set_option maxHeartbeats 4000000 in
theorem rul_Parse (s : ByteArray) (w : World) (hg : GlobN w) (hs : s.size ≤ 140737488351232) :
    Calls Tryz.prog 7 #[.string s] w (RParsePost w (parseR s.data.toList)) := by
  obtain ⟨res, hres⟩ : ∃ r, r = parseR s.data.toList := ⟨_, rfl⟩
  rw [← hres]
  unfold parseR at hres
  have hok := splitS_ok s.data.toList
  obtain ⟨w0, hw0⟩ : ∃ x, x = w.alloc (.cells (rulCells noRul (.slice none 0 0)) 25) := ⟨_, rfl⟩
  have hb0 : Below w.heap.size w w0 := by rw [hw0]; exact Below.alloc (Below.refl _ _) (Nat.le_refl _) _
  have hz0 : w0.heap.size = w.heap.size + 1 := by rw [hw0]; simp
  have hk0 : Blk w0 w.heap.size 25 zeroR := by rw [hw0]; exact Blk.new w _ _
  obtain ⟨⟨ls, ds⟩, hq⟩ : ∃ x, x = splitS s.data.toList := ⟨_, rfl⟩
  have hsp0 := text_Split s w0 (hg.below hb0).glob hs
  have hsp : Calls Tryz.prog 24 #[.string s] w0 fun e w2 => ∃ v d, e = .returned (.tuple #[v, d]) ∧ Sl 2 elLin w2 (fun b => w.heap.size < b ∧ b < w2.heap.size) v ls ∧ Sl 3 elDia w2 (fun b => w.heap.size < b ∧ b < w2.heap.size) d ds ∧ Below w.heap.size w w2 ∧ Blk w2 w.heap.size 25 zeroR := by
    refine hsp0.mono ?_
    rintro e w2 ⟨v, d, rfl, hv, hd, hb2⟩
    rw [← hq] at hv hd
    exact ⟨v, d, rfl, hv.keep elLin_good (Same.refl _ _) (fun b hb => ⟨by have := hb.1; omega, hb.2⟩), hd.keep elDia_good (Same.refl _ _) (fun b hb => ⟨by have := hb.1; omega, hb.2⟩), hb0.trans (hb2.mono (by omega)), hk0.below hb2 (by omega)⟩
  rw [← hq] at hres hok
  rw [hw0] at hsp
  simp only at hres hok
  unfold rulCells noRul at hsp
  dsimp only at hsp
  have HSP := Lib.hid hsp
  have HOK := Lib.hid hok
  have HG := Lib.hid hg
  have hqq := Lib.hid hq
  clear hsp0 hsp hok hq hg hk0 hb0 hz0 hw0
  clear w0
  by_cases hds : ds = []
  · rw [if_neg (by simpa using hds)] at hres
    subst hds
    have hln := lastNum_ok (s := s.data.toList)
    rw [show (splitS s.data.toList).1 = ls from by rw [← hqq.out]] at hln
    have HLN := Lib.hid (show 0 ≤ lastNum ls ∧ lastNum ls ≤ 140737488351233 from ⟨hln.1, by have := hln.2; have e : s.data.toList.length = s.size := rfl; omega⟩)
    clear hln
    have HR := Lib.hid hres
    have hlen0 : (([] : List Dia).length : Int) = 0 := rfl
    clear hres
    go_enter Tryz.func7, Tryz.ntmps7
    go_wp2_with (go_at_call 24; refine HSP.out.mono ?_; rintro e w2 ⟨v, d, rfl, hv, hd, hb2, hk2⟩; obtain ⟨Av, cv, rfl, hcv, hcv'⟩ := hv.shape; obtain ⟨Ad, cd, rfl, hcd, hcd'⟩ := hd.shape; have hlt := hk2.lt; have HB2 := Lib.hid hb2; have HK2 := Lib.hid hk2; have HV := Lib.hid hv; clear hb2 hk2 hv hd)
    have HQ0 := Lib.hid (RQ.start w2)
    have HG2 := Lib.hid (HG.out.below HB2.out)
    go_loopw [26, 7] (fun i la wr => ∃ (k : Nat) (q : Rul), k ≤ ls.length ∧ i = .int .i64 k ∧ la = .int .i64 (lastK ls k) ∧ RQ w2 wr q ∧ q.power.length ≤ k ∧ q.name.length ≤ 1000 ∧ Hid (linesR (ls.drop k) k q = linesR ls 0 noRul))
      (fun i _ _ => ls.length - (intOf i).toNat)
    case atStart => exact ⟨0, noRul, Nat.zero_le _, rfl, rfl, HQ0.out, Nat.le_refl _, by simp [noRul], rfl⟩
    case round =>
      obtain ⟨k, q, hk, rfl, rfl, hrq, hqn, hqm, hlf⟩ := hrel
      have HQ := Lib.hid hrq
      have hzr := hrq.lt
      clear hrq
      by_cases hlt2 : k < ls.length
      · obtain ⟨b, o, cs, rfl, hF, hcl, hcc, hel⟩ := HV.out.at hlt2
        have hox := HOK.out.1 _ (List.getElem_mem hlt2)
        have hlk := hlf.out
        rw [drop_get hlt2] at hlk
        have hla : lastK ls (k + 1) = (ls[k]).num := lastK_at hlt2
        obtain ⟨⟨xn, fs⟩, hx⟩ : ∃ x, x = ls[k] := ⟨_, rfl⟩
        rw [← hx] at hel hlk hox hla
        obtain ⟨fv, rfl, hfl⟩ := hel
        dsimp only at hfl hcc hla
        obtain ⟨A2, c2, rfl, hf1, hf2⟩ := hfl.shape
        have x0 : wr.cell? ⟨b, o + k * 2, none⟩ = some (.int .i64 xn) := (HQ.out.bel.cell (p := ⟨b, o + k * 2, none⟩) hF.2).trans (hcc 0 _ rfl)
        have x1 : wr.cell? ⟨b, o + k * 2 + 1, none⟩ = some (.slice A2 fs.length c2) := (HQ.out.bel.cell (p := ⟨b, o + k * 2 + 1, none⟩) hF.2).trans (hcc 1 _ rfl)
        obtain ⟨⟨q', c'⟩, hst⟩ : ∃ r, r = readR q k (Cur.start ⟨xn, fs⟩) := ⟨_, rfl⟩
        have hsm := readR_small q k ⟨xn, fs⟩ hox hqm
        rw [← hst] at hsm
        have hn6 : q.power.length ≤ 1000000 := by have := HOK.out.2.1; omega
        have kr : ∀ Wb W g F, RC w2 Wb g F W q (Cur.start ⟨xn, fs⟩) → Calls Tryz.prog 26 #[.pointer (some ⟨w2.heap.size, 0, none⟩), .int .i64 k, .pointer (some ⟨g, 0, none⟩)] W fun e W' => e = .returned (.tuple #[]) ∧ RC w2 Wb g F W' q' c' := fun Wb W g F h => by
          have := rul_read k HG2.out h hn6
          rw [← hst] at this
          exact this
        have ka := rq_At (HQ.out.below (Below.alloc (Below.refl wr.heap.size wr) (Nat.le_refl _) (.cells #[.int .i64 xn, .slice A2 fs.length c2] 56))) ⟨xn, fs⟩ _ _ (hfl.keep elFld_good (Same.below (HQ.out.below (Below.alloc (Below.refl wr.heap.size wr) (Nat.le_refl _) (.cells #[.int .i64 xn, .slice A2 fs.length c2] 56))).bel fun b hb => hb.2) fun _ h => h) (fun b hb => by have := hb.2; simp; omega) hox wr.heap.size (Blk.new wr _ _) (by omega)
        have KA := Lib.hid ka
        have KR := Lib.hid kr
        have HSM := Lib.hid hsm
        have HLA := Lib.hid hla
        have HRR := HR
        have tok0 : True := trivial
        clear hsm ka kr hfl hcc hx hox hcl hF hlf HR hla
        cases hcl : c'.close with
        | none =>
          rw [linesR_ok (by rw [← hst]; exact hcl), ← hst] at hlk
          have HLK := Lib.hid hlk
          have HCL := Lib.hid hcl
          clear hlk hcl hst
          go_wp2_with (first
            | (clear tok0; go_at_call 25; refine KA.out.mono ?_; rintro e w3 ⟨g, F, rfl, hrc, hkx, hFx⟩; have HRC := Lib.hid hrc; have HKX := Lib.hid hkx; have HFX := Lib.hid hFx; clear hrc hkx hFx; have tok1 : True := trivial)
            | (clear tok1; go_at_call 26; refine (KR.out _ _ _ _ HRC.out).mono ?_; rintro e w4 ⟨rfl, hr4⟩; have HR4 := Lib.hid hr4; clear hr4; have tok2 : True := trivial)
            | (clear tok2; go_at_call 27; refine (rc_Close_none HR4.out HCL.out).mono ?_; rintro e w5 ⟨rfl, hr5⟩; have hk5 := hr5.box HFX.out HKX.out; have b0 : w5.cell? ⟨wr.heap.size, 0, none⟩ = some (.int .i64 xn) := hk5.cell 0; have hz5 := hk5.lt; have HR5 := Lib.hid hr5; clear hr5 hk5; have tok3 : True := trivial))
          go_roundw
          case rel => exact ⟨k + 1, q', by omega, by go_num, by rw [HLA.out], HR5.out.rq.below (Below.alloc (Below.refl _ _) (Nat.le_refl _) _), by have := HSM.out.1; omega, HSM.out.2, by unfold Hid; exact HLK.out⟩
          case measure => simp [intOf]; omega
        | some d =>
          rw [linesR_bad (by rw [← hst]; exact hcl)] at hlk
          have hr2 : res = (noRul, [d]) := by rw [HRR.out, ← hlk]
          obtain ⟨dl, dc, dk⟩ := d
          have HR2 := Lib.hid hr2
          have HCL := Lib.hid hcl
          clear hlk hcl hst hr2
          go_wp2_with (first
            | (clear tok0; go_at_call 25; refine KA.out.mono ?_; rintro e w3 ⟨g, F, rfl, hrc, hkx, hFx⟩; have HRC := Lib.hid hrc; clear hrc hkx hFx; have tok1 : True := trivial)
            | (clear tok1; go_at_call 26; refine (KR.out _ _ _ _ HRC.out).mono ?_; rintro e w4 ⟨rfl, hr4⟩; have HR4 := Lib.hid hr4; clear hr4; have tok2 : True := trivial)
            | (clear tok2; go_at_call 27; refine (rc_Close_some HR4.out HCL.out).mono ?_; rintro e w5 ⟨rfl, hr5⟩; have HQ5 := Lib.hid hr5.rq; clear hr5; have tok3 : True := trivial))
          have hk5 := HK2.out.below HQ5.out.bel hlt
          have hlt5 := hk5.lt
          have HK5 := Lib.hid hk5
          obtain ⟨r0, r1, r2, r3, r4, r5, r6, r7, r8, r9, r10, r11, r12, r13⟩ := Blk.fourteen (show Blk _ _ _ #[.string ⟨#[]⟩, .int .i64 0, .int .i64 0, .int .i64 0, .int .i64 0, .int .i64 0, .int .i64 0, .int .i64 0, .bool false, .int .i64 0, .int .i64 0, .int .i64 0, .int .i64 0, .slice none 0 0] from hk5)
          have f0 := Blk.frozen (show Blk _ _ _ zeroR from hk5) 0
          have f1 := Blk.frozen (show Blk _ _ _ zeroR from hk5) 1
          have f2 := Blk.frozen (show Blk _ _ _ zeroR from hk5) 2
          have f3 := Blk.frozen (show Blk _ _ _ zeroR from hk5) 3
          have f4 := Blk.frozen (show Blk _ _ _ zeroR from hk5) 4
          have f5 := Blk.frozen (show Blk _ _ _ zeroR from hk5) 5
          have f6 := Blk.frozen (show Blk _ _ _ zeroR from hk5) 6
          have f7 := Blk.frozen (show Blk _ _ _ zeroR from hk5) 7
          have f8 := Blk.frozen (show Blk _ _ _ zeroR from hk5) 8
          have f9 := Blk.frozen (show Blk _ _ _ zeroR from hk5) 9
          have f10 := Blk.frozen (show Blk _ _ _ zeroR from hk5) 10
          have f11 := Blk.frozen (show Blk _ _ _ zeroR from hk5) 11
          have f12 := Blk.frozen (show Blk _ _ _ zeroR from hk5) 12
          have f13 := Blk.frozen (show Blk _ _ _ zeroR from hk5) 13
          clear hk5
          go_region
          all_goals go_wp2
          rw [zero_chain HK5.out]
          refine rules_ret rfl rfl (Blk.drew (((HK5.out.row _).alloc _).alloc _)) rfl (RParsePost.drew (fresh_post HR2.out (Below.alloc ((HB2.out.trans (HQ5.out.bel.mono (Nat.le_of_lt hlt))).trans ((Only.row w.heap.size w5 _).below (Nat.le_refl _) (Nat.le_of_lt hlt5))) ?_ _) ?_))
          · simp; omega
          · simp
      · have hke : k = ls.length := by omega
        have hle := lastK_end ls
        rw [← hke] at hle
        have ho := hlf.out
        rw [List.drop_eq_nil_of_le (by omega), linesR] at ho
        have hr := HR.out
        rw [← ho] at hr
        dsimp only at hr
        have hkr := HK2.out.below HQ.out.bel hlt
        have hltr := hkr.lt
        have hln2 : 0 ≤ lastK ls k ∧ lastK ls k ≤ 140737488351233 := by
          have := HLN.out
          rw [hle]; omega
        obtain ⟨la, hla⟩ : ∃ x, x = lastK ls k := ⟨_, rfl⟩
        rw [← hla] at hln2
        have hla2 : lastNum ls = la := by rw [hla, hle]
        rw [hla2] at hr
        obtain ⟨hl0, hl1⟩ := hln2
        have HKR := Lib.hid hkr
        obtain ⟨r0, r1, r2, r3, r4, r5, r6, r7, r8, r9, r10, r11, r12, r13⟩ := Blk.fourteen (show Blk _ _ _ #[.string ⟨#[]⟩, .int .i64 0, .int .i64 0, .int .i64 0, .int .i64 0, .int .i64 0, .int .i64 0, .int .i64 0, .bool false, .int .i64 0, .int .i64 0, .int .i64 0, .int .i64 0, .slice none 0 0] from hkr)
        have f0 := Blk.frozen (show Blk _ _ _ zeroR from hkr) 0
        have f1 := Blk.frozen (show Blk _ _ _ zeroR from hkr) 1
        have f2 := Blk.frozen (show Blk _ _ _ zeroR from hkr) 2
        have f3 := Blk.frozen (show Blk _ _ _ zeroR from hkr) 3
        have f4 := Blk.frozen (show Blk _ _ _ zeroR from hkr) 4
        have f5 := Blk.frozen (show Blk _ _ _ zeroR from hkr) 5
        have f6 := Blk.frozen (show Blk _ _ _ zeroR from hkr) 6
        have f7 := Blk.frozen (show Blk _ _ _ zeroR from hkr) 7
        have f8 := Blk.frozen (show Blk _ _ _ zeroR from hkr) 8
        have f9 := Blk.frozen (show Blk _ _ _ zeroR from hkr) 9
        have f10 := Blk.frozen (show Blk _ _ _ zeroR from hkr) 10
        have f11 := Blk.frozen (show Blk _ _ _ zeroR from hkr) 11
        have f12 := Blk.frozen (show Blk _ _ _ zeroR from hkr) 12
        have f13 := Blk.frozen (show Blk _ _ _ zeroR from hkr) 13
        clear hkr hlf ho hle hla2 hke
        by_cases h12 : ls.length < 12
        · rw [if_pos h12] at hr
          have HRR := Lib.hid hr
          have e12 : (ls.length : Int) < 12 := by omega
          have HBW := Lib.hid (HB2.out.trans (HQ.out.bel.mono (Nat.le_of_lt hlt)))
          clear hr
          rw [← hla]
          clear hla
          go_wp2
          rw [zero_chain HKR.out]
          exact rules_ret rfl rfl ((HKR.out.row _).alloc _) rfl (one_post2 HRR.out rfl HBW.out hltr rfl)
        · rw [if_neg h12] at hr
          have e12 : ¬ (ls.length : Int) < 12 := by omega
          obtain ⟨pv, hkq, howq, hbq⟩ := HQ.out
          obtain ⟨Ap, cp, rfl, _, _⟩ := (howq.sl elPha_good).shape
          have hltq := hkq.lt
          have hck := rul_Check q _ wr ((howq.sl elPha_good).keep elPha_good (Same.refl _ _) fun b hb => hb.2) (by omega)
          obtain ⟨e, he⟩ : ∃ e, e = checkR q := ⟨_, rfl⟩
          rw [← he] at hck hr
          unfold rulV rulCells at hck
          have HCK := Lib.hid hck
          have HKQ := Lib.hid hkq
          have HOW := Lib.hid howq
          have HBW := Lib.hid (HB2.out.trans (hbq.mono (Nat.le_of_lt hlt)))
          obtain ⟨yr0, yr1, yr2, yr3, yr4, yr5, yr6, yr7, yr8, yr9, yr10, yr11, yr12, yr13⟩ := Blk.fourteen (show Blk _ _ _ #[.string (S q.name), .int .i64 q.side, .int .i64 q.inns, .int .i64 q.overs, .int .i64 q.balls, .int .i64 q.quota, .int .i64 q.wide, .int .i64 q.noball, .bool q.free, .int .i64 q.newball, .int .i64 q.follow, .int .i64 q.reviews, .int .i64 q.outside, .slice Ap q.power.length cp] from hkq)
          clear hck hkq howq hbq he HQ hla
          clear r0 f0 r1 f1 r2 f2 r3 f3 r4 f4 r5 f5 r6 f6 r7 f7 r8 f8 r9 f9 r10 f10 r11 f11 r12 f12 r13 f13
          by_cases hz : e = 0
          · rw [if_neg (by simp [hz])] at hr
            subst hz
            have HRR := Lib.hid hr
            clear hr
            go_wp2_with (go_at_call 28; refine HCK.out.mono ?_; rintro x w9 ⟨rfl, hb9⟩; clear yr0 yr1 yr2 yr3 yr4 yr5 yr6 yr7 yr8 yr9 yr10 yr11 yr12 yr13; have hkq9 := HKQ.out.below hb9 hltq; have hk9 := HKR.out.below hb9 hltr; obtain ⟨yr0, yr1, yr2, yr3, yr4, yr5, yr6, yr7, yr8, yr9, yr10, yr11, yr12, yr13⟩ := Blk.fourteen (show Blk _ _ _ #[.string (S q.name), .int .i64 q.side, .int .i64 q.inns, .int .i64 q.overs, .int .i64 q.balls, .int .i64 q.quota, .int .i64 q.wide, .int .i64 q.noball, .bool q.free, .int .i64 q.newball, .int .i64 q.follow, .int .i64 q.reviews, .int .i64 q.outside, .slice Ap q.power.length cp] from hkq9); obtain ⟨r0, r1, r2, r3, r4, r5, r6, r7, r8, r9, r10, r11, r12, r13⟩ := Blk.fourteen (show Blk _ _ _ #[.string ⟨#[]⟩, .int .i64 0, .int .i64 0, .int .i64 0, .int .i64 0, .int .i64 0, .int .i64 0, .int .i64 0, .bool false, .int .i64 0, .int .i64 0, .int .i64 0, .int .i64 0, .slice none 0 0] from hk9); have f0 := Blk.frozen (show Blk _ _ _ zeroR from hk9) 0; have f1 := Blk.frozen (show Blk _ _ _ zeroR from hk9) 1; have f2 := Blk.frozen (show Blk _ _ _ zeroR from hk9) 2; have f3 := Blk.frozen (show Blk _ _ _ zeroR from hk9) 3; have f4 := Blk.frozen (show Blk _ _ _ zeroR from hk9) 4; have f5 := Blk.frozen (show Blk _ _ _ zeroR from hk9) 5; have f6 := Blk.frozen (show Blk _ _ _ zeroR from hk9) 6; have f7 := Blk.frozen (show Blk _ _ _ zeroR from hk9) 7; have f8 := Blk.frozen (show Blk _ _ _ zeroR from hk9) 8; have f9 := Blk.frozen (show Blk _ _ _ zeroR from hk9) 9; have f10 := Blk.frozen (show Blk _ _ _ zeroR from hk9) 10; have f11 := Blk.frozen (show Blk _ _ _ zeroR from hk9) 11; have f12 := Blk.frozen (show Blk _ _ _ zeroR from hk9) 12; have f13 := Blk.frozen (show Blk _ _ _ zeroR from hk9) 13; have hz9 := hk9.lt; have HK9 := Lib.hid hk9; have HB9 := Lib.hid hb9; clear hkq9 hk9 hb9)
            rw [zero_chain HK9.out, HRR.out]
            have hs9 := (HOW.out.below elPha_good HB9.out).sl elPha_good
            have ho9 := fun cs => Only.row w.heap.size w9 cs
            refine rules_ret (q := q) (pv := .slice Ap q.power.length cp) rfl rfl (HK9.out.row _) rfl ⟨_, _, rfl, hs9.keep elPha_good ((ho9 _).same fun b hb => ⟨hb.2, by omega⟩) fun b hb => ⟨by omega, by simpa using hb.2⟩, Sl.nil _ _, (HBW.out.trans (HB9.out.mono HBW.out.size)).trans ((ho9 _).below (Nat.le_refl _) (Nat.le_of_lt hz9))⟩
          · rw [if_pos hz] at hr
            have e9 : (e != 0) = true := by simp [hz]
            have HRR := Lib.hid hr
            clear hr hz
            go_wp2_with (go_at_call 28; refine HCK.out.mono ?_; rintro x w9 ⟨rfl, hb9⟩; clear yr0 yr1 yr2 yr3 yr4 yr5 yr6 yr7 yr8 yr9 yr10 yr11 yr12 yr13; have hk9 := HKR.out.below hb9 hltr; obtain ⟨r0, r1, r2, r3, r4, r5, r6, r7, r8, r9, r10, r11, r12, r13⟩ := Blk.fourteen (show Blk _ _ _ #[.string ⟨#[]⟩, .int .i64 0, .int .i64 0, .int .i64 0, .int .i64 0, .int .i64 0, .int .i64 0, .int .i64 0, .bool false, .int .i64 0, .int .i64 0, .int .i64 0, .int .i64 0, .slice none 0 0] from hk9); have f0 := Blk.frozen (show Blk _ _ _ zeroR from hk9) 0; have f1 := Blk.frozen (show Blk _ _ _ zeroR from hk9) 1; have f2 := Blk.frozen (show Blk _ _ _ zeroR from hk9) 2; have f3 := Blk.frozen (show Blk _ _ _ zeroR from hk9) 3; have f4 := Blk.frozen (show Blk _ _ _ zeroR from hk9) 4; have f5 := Blk.frozen (show Blk _ _ _ zeroR from hk9) 5; have f6 := Blk.frozen (show Blk _ _ _ zeroR from hk9) 6; have f7 := Blk.frozen (show Blk _ _ _ zeroR from hk9) 7; have f8 := Blk.frozen (show Blk _ _ _ zeroR from hk9) 8; have f9 := Blk.frozen (show Blk _ _ _ zeroR from hk9) 9; have f10 := Blk.frozen (show Blk _ _ _ zeroR from hk9) 10; have f11 := Blk.frozen (show Blk _ _ _ zeroR from hk9) 11; have f12 := Blk.frozen (show Blk _ _ _ zeroR from hk9) 12; have f13 := Blk.frozen (show Blk _ _ _ zeroR from hk9) 13; have hz9 := hk9.lt; have HK9 := Lib.hid hk9; have HB9 := Lib.hid hb9; clear hk9 hb9)
            rw [zero_chain HK9.out]
            exact rules_ret rfl rfl ((HK9.out.row _).alloc _) rfl (one_post2 HRR.out rfl (HBW.out.trans (HB9.out.mono HBW.out.size)) hz9 rfl)
  · rw [if_pos hds] at hres
    have HR := Lib.hid hres
    have hpos : 0 < ds.length := List.length_pos_iff.2 hds
    have d0 : (0 : Int) < ds.length := by omega
    have tok0 : True := trivial
    clear hds hres
    go_enter Tryz.func7, Tryz.ntmps7
    go_wp2_with (go_at_call 24; refine HSP.out.mono ?_; rintro e w2 ⟨v, d, rfl, hv, hd, hb2, hk2⟩; obtain ⟨Av, cv, rfl, hcv, hcv'⟩ := hv.shape; obtain ⟨Ad, cd, rfl, hcd, hcd'⟩ := hd.shape; have hlt := hk2.lt; obtain ⟨r0, r1, r2, r3, r4, r5, r6, r7, r8, r9, r10, r11, r12, r13⟩ := Blk.fourteen (show Blk _ _ _ #[.string ⟨#[]⟩, .int .i64 0, .int .i64 0, .int .i64 0, .int .i64 0, .int .i64 0, .int .i64 0, .int .i64 0, .bool false, .int .i64 0, .int .i64 0, .int .i64 0, .int .i64 0, .slice none 0 0] from hk2); have f0 := Blk.frozen hk2 0; have f1 := Blk.frozen hk2 1; have f2 := Blk.frozen hk2 2; have f3 := Blk.frozen hk2 3; have f4 := Blk.frozen hk2 4; have f5 := Blk.frozen hk2 5; have f6 := Blk.frozen hk2 6; have f7 := Blk.frozen hk2 7; have f8 := Blk.frozen hk2 8; have f9 := Blk.frozen hk2 9; have f10 := Blk.frozen hk2 10; have f11 := Blk.frozen hk2 11; have f12 := Blk.frozen hk2 12; have f13 := Blk.frozen hk2 13; have HB2 := Lib.hid hb2; have HK2 := Lib.hid hk2; have HD := Lib.hid hd; clear hb2 hk2 hv hd)
    rw [zero_chain HK2.out, HR.out]
    exact rules_ret rfl rfl (HK2.out.row _) rfl (zero_post rfl HB2.out hlt HD.out)
end Go.Proofs.YtglkejlimeakbaaGreatDoor

namespace Go.Proofs.YtglkejlimeakbaaGreatDoor
open Go.RowKit

theorem dec_one {v : Nat} (h : v < 10) : Lib.decDigits v = [UInt8.ofNat (48 + v)] := by unfold Lib.decDigits; rw [dif_pos h]
theorem dec_two {v : Nat} (h : ¬ v < 10) (h2 : v / 10 < 10) : Lib.decDigits v = [UInt8.ofNat (48 + v / 10), UInt8.ofNat (48 + v % 10)] := by
  unfold Lib.decDigits; rw [dif_neg h, dec_one h2]; rfl
theorem decW_11 : decW 11 = [49, 49] := by rw [(decW_facts (by decide : (0 : Int) ≤ 11)).1]; exact dec_two (by decide) (by decide)
theorem decW_1 : decW 1 = [49] := by rw [(decW_facts (by decide : (0 : Int) ≤ 1)).1]; exact dec_one (by decide)
theorem decW_20 : decW 20 = [50, 48] := by rw [(decW_facts (by decide : (0 : Int) ≤ 20)).1]; exact dec_two (by decide) (by decide)
theorem write_two {a b : List UInt8} (ha : wordS a = true) (hb : wordS b = true) (ls : List Lin) : writeS (lineR [a, b] :: ls) = a ++ 32 :: (b ++ 10 :: writeS ls) := by
  rw [writeS]
  have e : (lineR [a, b]).fields = [wordF a, wordF b] := rfl
  rw [e]
  unfold endW
  simp [lineW, fieldW_word ha, fieldW_word hb]
def awT : List UInt8 := [82, 85, 76, 69, 83, 32, 84, 87, 69, 78, 84, 89, 10, 83, 73, 68, 69, 32, 49, 49, 10, 73, 78, 78, 73, 78, 71, 83, 32, 49, 10, 79, 86, 69, 82, 83, 32, 50, 48, 10]
theorem aw_prefix : Lib.hasPrefix (writeS (rulLines stdTwenty)) awT = true := by
  have e : rulLines stdTwenty = lineR [kRULES, kTWENTY] :: lineR [kSIDE, decW 11] :: lineR [kINNINGS, decW 1] :: lineR [kOVERS, decW 20] :: (rulLines stdTwenty).drop 4 := rfl
  rw [e, decW_11, decW_1, decW_20, write_two (by decide) (by decide), write_two (by decide) (by decide), write_two (by decide) (by decide), write_two (by decide) (by decide)]
  generalize writeS _ = T
  unfold Lib.hasPrefix awT kRULES kTWENTY kSIDE kINNINGS kOVERS
  simp
/-- What Standard, Parse and Text hand on. -/
def BxPost (w : World) (q : Rul) (u : Int) (e : Ending) (w' : World) : Prop := ∃ A n c, e = .returned (.tuple #[.agg #[.string (S q.name), .int .i64 q.side, .int .i64 q.inns, .int .i64 q.overs, .int .i64 q.balls, .int .i64 q.quota, .int .i64 q.wide, .int .i64 q.noball, .bool q.free, .int .i64 q.newball, .int .i64 q.follow, .int .i64 q.reviews, .int .i64 q.outside, .slice A n c], .int .i64 u]) ∧ Below w.heap.size w w' ∧ Sl 3 elPha w' (· < w'.heap.size) (.slice A n c) q.power
theorem bx_of {W w' : World} {q : Rul} {u : Int} {e : Ending} (h : RulPost W q (.int .i64 u) e w') : BxPost W q u e w' := by
  obtain ⟨pv, rfl, hs, hb⟩ := h
  obtain ⟨A, c, rfl, _⟩ := hs.shape
  exact ⟨A, _, c, rfl, hb, hs.keep elPha_good (Same.refl _ _) fun b h => h.2⟩
def PaPost (w : World) (q : Rul) (ds : List Dia) (e : Ending) (w' : World) : Prop := ∃ A n c D d, e = .returned (.tuple #[.agg #[.string (S q.name), .int .i64 q.side, .int .i64 q.inns, .int .i64 q.overs, .int .i64 q.balls, .int .i64 q.quota, .int .i64 q.wide, .int .i64 q.noball, .bool q.free, .int .i64 q.newball, .int .i64 q.follow, .int .i64 q.reviews, .int .i64 q.outside, .slice A n c], .slice D ds.length d]) ∧ Below w.heap.size w w' ∧ Sl 3 elPha w' (· < w'.heap.size) (.slice A n c) q.power ∧ Sl 3 elDia w' (· < w'.heap.size) (.slice D ds.length d) ds
theorem pa_of {W w' : World} {q : Rul} {ds : List Dia} {e : Ending} (h : RParsePost W (q, ds) e w') : PaPost W q ds e w' := by
  obtain ⟨pv, dv, rfl, hs, hd, hb⟩ := h
  obtain ⟨A, c, rfl, _⟩ := hs.shape
  obtain ⟨D, d, rfl, _⟩ := hd.shape
  exact ⟨A, _, c, D, d, rfl, hb, hs.keep elPha_good (Same.refl _ _) fun b h => h.2, hd.keep elDia_good (Same.refl _ _) fun b h => h.2⟩
set_option maxRecDepth 100000 in
set_option maxHeartbeats 4000000 in
theorem law05_awake (w : World) (hg : GlobN w) : Calls Tryz.prog 6 #[] w fun e w' => e = .returned (.bool true) ∧ Below w.heap.size w w' := by
  have hck : checkR stdTwenty = 0 := by decide +kernel
  have htx : textR stdTwenty = (writeS (rulLines stdTwenty), 0) := textR_ok hck
  have hpa := parseR_text hck
  have hpx := aw_prefix
  have hln := rulText_len hck
  have hm : mostS stdTwenty = 120 := by decide +kernel
  have ha5 : allowedS stdTwenty 5 = 2 := by decide +kernel
  have ha6 : allowedS stdTwenty 6 = 5 := by decide +kernel
  have hnl : stdTwenty.name.length ≤ 1000000000 := by decide +kernel
  have k1 := fun W => (rul_Standard kTWENTY W).mono fun e w' h => bx_of h
  have k3 := fun W => (rul_Standard [72, 85, 78, 68, 82, 69, 68] W).mono fun e w' h => bx_of h
  have e1 : standardS kTWENTY = (stdTwenty, 0) := by unfold standardS; rw [if_neg (by decide), if_neg (by decide), if_pos rfl]
  have e3 : standardS [72, 85, 78, 68, 82, 69, 68] = (noRul, 6) := by unfold standardS; rw [if_neg (by decide), if_neg (by decide), if_neg (by decide)]
  rw [e1] at k1
  rw [e3] at k3
  dsimp only at k1 k3
  obtain ⟨r0, hr0⟩ : ∃ r, r = stdTwenty := ⟨_, rfl⟩
  rw [← hr0] at hck htx hpa hpx hln hm ha5 ha6 hnl k1
  obtain ⟨T, hT⟩ : ∃ T, T = writeS (rulLines r0) := ⟨_, rfl⟩
  rw [← hT] at htx hpa hpx hln
  have k2 := fun W pv (hW : Below w.heap.size w W) (h : Sl 3 elPha W (· < W.heap.size) pv r0.power) => rul_Text r0 pv W (hg.below hW) h hnl
  rw [htx] at k2
  have k4 := fun W (hW : Below w.heap.size w W) => (rul_Parse (S T) W (hg.below hW) (by rw [S_size]; omega)).mono fun e w' h => pa_of (q := r0) (ds := []) (by rw [S_data, hpa] at h; exact h)
  have k5 := fun W pv (h : Sl 3 elPha W (· < W.heap.size) pv r0.power) => rul_Most r0 pv W h hnl
  have k6 := fun W pv (h : Sl 3 elPha W (· < W.heap.size) pv r0.power) => rul_Allowed r0 pv 5 W h (by decide) (by decide)
  have k7 := fun W pv (h : Sl 3 elPha W (· < W.heap.size) pv r0.power) => rul_Allowed r0 pv 6 W h (by decide) (by decide)
  have k8 := fun W => Tryz.strings_HasPrefix (S T) ⟨awT.toArray⟩ W
  have k9 := fun W pv qv (h : Sl 3 elPha W (· < W.heap.size) pv r0.power) (h' : Sl 3 elPha W (· < W.heap.size) qv r0.power) => rul_Same r0 r0.power r0.power pv qv W h h'
  rw [eqPhas_self] at k9
  rw [hm] at k5
  rw [ha5] at k6
  rw [ha6] at k7
  rw [S_data, hpx] at k8
  unfold rulV rulCells at k2 k5 k6 k7 k9
  have HN := Lib.hid (show rulCells noRul = rulCells noRul from rfl)
  obtain ⟨r3, hr3⟩ : ∃ r, r = noRul := ⟨_, rfl⟩
  rw [← hr3] at k3
  have K1 := Lib.hid k1
  have K2 := Lib.hid k2
  have K3 := Lib.hid k3
  have K4 := Lib.hid k4
  have K5 := Lib.hid k5
  have K6 := Lib.hid k6
  have K7 := Lib.hid k7
  have K8 := Lib.hid k8
  have K9 := Lib.hid k9
  have tok0 : True := trivial
  clear k1 k2 k3 k4 k5 k6 k7 k8 k9 hck htx hpa hpx hln hm ha5 ha6 hnl e1 e3 hg hT hr0 hr3 HN
  go_enter Tryz.func6, Tryz.ntmps6
  go_wp2_with (first
    | (clear tok0; go_at_call 18; refine (K1.out _).mono ?_; rintro e w1 ⟨A1, n1, c1, rfl, hb1, hs1⟩; have HS1 := Lib.hid (RulAt.new hs1); have HB1 := Lib.hid (Below.alloc hb1 hb1.size (.cells (rulCells r0 (.slice A1 n1 c1)) 25)); clear hb1 hs1; have tok1 : True := trivial)
    | (clear tok1; go_at_call 19; refine (K2.out _ _ HB1.out HS1.out.sl).mono ?_; rintro e w2 ⟨rfl, hb2⟩; have HS2 := Lib.hid (HS1.out.below hb2); have HB2 := Lib.hid (HB1.out.trans (hb2.mono HB1.out.size)); clear hb2; have tok2 : True := trivial)
    | (clear tok2; go_at_call 18; refine (K3.out w2).mono ?_; rintro e w3 ⟨A3, n3, c3, rfl, hb3, hs3⟩; have ha3 := Below.alloc hb3 hb3.size (.cells (rulCells r3 (.slice A3 n3 c3)) 25); have HS3 := Lib.hid (HS2.out.below ha3); have HB3 := Lib.hid (HB2.out.trans (ha3.mono HB2.out.size)); clear hb3 hs3 ha3; have tok3 : True := trivial)
    | (clear tok3; go_at_call 7; refine (K4.out _ HB3.out).mono ?_; rintro e w4 ⟨A4, n4, c4, D4, d4, rfl, hb4, hs4, hd4⟩; have ha4 := Below.alloc hb4 hb4.size (.cells (rulCells r0 (.slice A4 n4 c4)) 25); have HS4 := Lib.hid (HS3.out.below ha4); have HR4 := Lib.hid (RulAt.new hs4); have HB4 := Lib.hid (HB3.out.trans (ha4.mono HB3.out.size)); have hs4b := HS3.out.below hb4; obtain ⟨y0, y1, y2, y3, y4, y5, y6, y7, y8, y9, y10, y11, y12, y13⟩ := Blk.fourteen (show Blk _ _ _ #[.string (S r0.name), .int .i64 r0.side, .int .i64 r0.inns, .int .i64 r0.overs, .int .i64 r0.balls, .int .i64 r0.quota, .int .i64 r0.wide, .int .i64 r0.noball, .bool r0.free, .int .i64 r0.newball, .int .i64 r0.follow, .int .i64 r0.reviews, .int .i64 r0.outside, .slice A1 n1 c1] from hs4b.blk); have hz4 := hs4b.blk.lt; clear hs4b hb4 hs4 hd4 ha4; have tok4 : True := trivial)
    | (clear tok4; go_at_call 20; refine (K5.out _ _ HS4.out.sl).mono ?_; rintro e w6 ⟨rfl, hb⟩; clear y0 y1 y2 y3 y4 y5 y6 y7 y8 y9 y10 y11 y12 y13; have hs := HS4.out.below hb; have hr := HR4.out.below hb; obtain ⟨y0, y1, y2, y3, y4, y5, y6, y7, y8, y9, y10, y11, y12, y13⟩ := Blk.fourteen (show Blk _ _ _ #[.string (S r0.name), .int .i64 r0.side, .int .i64 r0.inns, .int .i64 r0.overs, .int .i64 r0.balls, .int .i64 r0.quota, .int .i64 r0.wide, .int .i64 r0.noball, .bool r0.free, .int .i64 r0.newball, .int .i64 r0.follow, .int .i64 r0.reviews, .int .i64 r0.outside, .slice A1 n1 c1] from hs.blk); obtain ⟨z0, z1, z2, z3, z4, z5, z6, z7, z8, z9, z10, z11, z12, z13⟩ := Blk.fourteen (show Blk _ _ _ #[.string (S r0.name), .int .i64 r0.side, .int .i64 r0.inns, .int .i64 r0.overs, .int .i64 r0.balls, .int .i64 r0.quota, .int .i64 r0.wide, .int .i64 r0.noball, .bool r0.free, .int .i64 r0.newball, .int .i64 r0.follow, .int .i64 r0.reviews, .int .i64 r0.outside, .slice A4 n4 c4] from hr.blk); have HS6 := Lib.hid hs; have HR6 := Lib.hid hr; have HB6 := Lib.hid (HB4.out.trans (hb.mono HB4.out.size)); clear hs hr hb; have tok5 : True := trivial)
    | (clear tok5; go_at_call 21; refine (K6.out _ _ HS6.out.sl).mono ?_; rintro e w7 ⟨rfl, hb⟩; clear y0 y1 y2 y3 y4 y5 y6 y7 y8 y9 y10 y11 y12 y13 z0 z1 z2 z3 z4 z5 z6 z7 z8 z9 z10 z11 z12 z13; have hs := HS6.out.below hb; have hr := HR6.out.below hb; obtain ⟨y0, y1, y2, y3, y4, y5, y6, y7, y8, y9, y10, y11, y12, y13⟩ := Blk.fourteen (show Blk _ _ _ #[.string (S r0.name), .int .i64 r0.side, .int .i64 r0.inns, .int .i64 r0.overs, .int .i64 r0.balls, .int .i64 r0.quota, .int .i64 r0.wide, .int .i64 r0.noball, .bool r0.free, .int .i64 r0.newball, .int .i64 r0.follow, .int .i64 r0.reviews, .int .i64 r0.outside, .slice A1 n1 c1] from hs.blk); obtain ⟨z0, z1, z2, z3, z4, z5, z6, z7, z8, z9, z10, z11, z12, z13⟩ := Blk.fourteen (show Blk _ _ _ #[.string (S r0.name), .int .i64 r0.side, .int .i64 r0.inns, .int .i64 r0.overs, .int .i64 r0.balls, .int .i64 r0.quota, .int .i64 r0.wide, .int .i64 r0.noball, .bool r0.free, .int .i64 r0.newball, .int .i64 r0.follow, .int .i64 r0.reviews, .int .i64 r0.outside, .slice A4 n4 c4] from hr.blk); have HS7 := Lib.hid hs; have HR7 := Lib.hid hr; have HB7 := Lib.hid (HB6.out.trans (hb.mono HB6.out.size)); clear hs hr hb; have tok6 : True := trivial)
    | (clear tok6; go_at_call 21; refine (K7.out _ _ HS7.out.sl).mono ?_; rintro e w8 ⟨rfl, hb⟩; clear y0 y1 y2 y3 y4 y5 y6 y7 y8 y9 y10 y11 y12 y13 z0 z1 z2 z3 z4 z5 z6 z7 z8 z9 z10 z11 z12 z13; have hs := HS7.out.below hb; have hr := HR7.out.below hb; obtain ⟨y0, y1, y2, y3, y4, y5, y6, y7, y8, y9, y10, y11, y12, y13⟩ := Blk.fourteen (show Blk _ _ _ #[.string (S r0.name), .int .i64 r0.side, .int .i64 r0.inns, .int .i64 r0.overs, .int .i64 r0.balls, .int .i64 r0.quota, .int .i64 r0.wide, .int .i64 r0.noball, .bool r0.free, .int .i64 r0.newball, .int .i64 r0.follow, .int .i64 r0.reviews, .int .i64 r0.outside, .slice A1 n1 c1] from hs.blk); obtain ⟨z0, z1, z2, z3, z4, z5, z6, z7, z8, z9, z10, z11, z12, z13⟩ := Blk.fourteen (show Blk _ _ _ #[.string (S r0.name), .int .i64 r0.side, .int .i64 r0.inns, .int .i64 r0.overs, .int .i64 r0.balls, .int .i64 r0.quota, .int .i64 r0.wide, .int .i64 r0.noball, .bool r0.free, .int .i64 r0.newball, .int .i64 r0.follow, .int .i64 r0.reviews, .int .i64 r0.outside, .slice A4 n4 c4] from hr.blk); have HS8 := Lib.hid hs; have HR8 := Lib.hid hr; have HB8 := Lib.hid (HB7.out.trans (hb.mono HB7.out.size)); clear hs hr hb; have tok7 : True := trivial)
    | (clear tok7; go_at_call 22; refine (K8.out _).mono ?_; rintro e w9 ⟨rfl, rfl⟩; have tok8 : True := trivial)
    | (clear tok8; go_at_call 23; refine (K9.out _ _ _ HR8.out.sl HS8.out.sl).mono ?_; rintro e w10 ⟨rfl, hb⟩; clear y0 y1 y2 y3 y4 y5 y6 y7 y8 y9 y10 y11 y12 y13 z0 z1 z2 z3 z4 z5 z6 z7 z8 z9 z10 z11 z12 z13; have hs := HS8.out.below hb; have hr := HR8.out.below hb; obtain ⟨y0, y1, y2, y3, y4, y5, y6, y7, y8, y9, y10, y11, y12, y13⟩ := Blk.fourteen (show Blk _ _ _ #[.string (S r0.name), .int .i64 r0.side, .int .i64 r0.inns, .int .i64 r0.overs, .int .i64 r0.balls, .int .i64 r0.quota, .int .i64 r0.wide, .int .i64 r0.noball, .bool r0.free, .int .i64 r0.newball, .int .i64 r0.follow, .int .i64 r0.reviews, .int .i64 r0.outside, .slice A1 n1 c1] from hs.blk); obtain ⟨z0, z1, z2, z3, z4, z5, z6, z7, z8, z9, z10, z11, z12, z13⟩ := Blk.fourteen (show Blk _ _ _ #[.string (S r0.name), .int .i64 r0.side, .int .i64 r0.inns, .int .i64 r0.overs, .int .i64 r0.balls, .int .i64 r0.quota, .int .i64 r0.wide, .int .i64 r0.noball, .bool r0.free, .int .i64 r0.newball, .int .i64 r0.follow, .int .i64 r0.reviews, .int .i64 r0.outside, .slice A4 n4 c4] from hr.blk); have HS10 := Lib.hid hs; have HR10 := Lib.hid hr; have HB10 := Lib.hid (HB8.out.trans (hb.mono HB8.out.size)); clear hs hr hb; have tok10 : True := trivial))
  go_ret
  exact ⟨rfl, HB10.out⟩
end Go.Proofs.YtglkejlimeakbaaGreatDoor

namespace Go.Proofs.YtglkejlimeakbaaGreatDoor
open Go.RowKit

section
variable {w0 : World} {r : Rul} {pv : Value} {g : Nat}
end
end Go.Proofs.YtglkejlimeakbaaGreatDoor

namespace Go.Proofs.YtglkejlimeakbaaGreatDoor
open Go.RowKit

theorem S_app (a b : List UInt8) : S a ++ S b = S (a ++ b) := by
  have := data_app (S a) (S b)
  rw [← S_of (S a ++ S b), this]; rfl
theorem S_one (s : ByteArray) (k : Nat) (h : k < s.size) : s.extract k (k + 1) = S [s[k]] := by
  have : (s.extract k (k + 1)).data.toList = [s[k]] := by
    rw [Lib.extract_data, drop_cons s k h]
    simp
  rw [← S_of (s.extract k (k + 1)), this]
end Go.Proofs.YtglkejlimeakbaaGreatDoor

namespace Go.Proofs.YtglkejlimeakbaaGreatDoor
open Go.RowKit

def kWords : List (List UInt8) := [kRULES, kSIDE, kINNINGS, kOVERS, kBALLS, kQUOTA, kRUNS, kFREEHIT, kNEWBALL, kFOLLOWON, kREVIEWS, kOUTSIDE]
def WordsPost (w : World) (e : Ending) (w' : World) : Prop := ∃ c, e = .returned (.slice (some ⟨w.heap.size, 0, none⟩) 12 c) ∧ Sl 1 elStr w' (Fr w.heap.size w') (.slice (some ⟨w.heap.size, 0, none⟩) 12 c) kWords ∧ Below w.heap.size w w'
set_option maxRecDepth 100000 in
theorem ref_words (w : World) : Calls Tryz.prog 30 #[] w (WordsPost w) := by
  have hs := strs_lit w w.heap.size (Nat.le_refl _) kWords 9 (by decide)
  have HS := Lib.hid hs
  clear hs
  go_enter Tryz.func30, Tryz.ntmps30
  go_wp2
  go_ret
  exact ⟨12, rfl, HS.out, Below.alloc (Below.refl _ _) (Nat.le_refl _) _⟩
end Go.Proofs.YtglkejlimeakbaaGreatDoor

namespace Go.Proofs.YtglkejlimeakbaaGreatDoor
open Go.RowKit

def rcurCells (c : Cur) (fv : Value) : Array Value := #[.int .i64 c.num, fv, .int .i64 c.next, .int .i64 c.err, .int .i64 c.pos]
/-- The column of the field read last. -/
def lastOf (c : Cur) : Int := if c.next = 0 then 0 else ((c.fields[c.next - 1]?).map (·.col)).getD 0
structure RCurAt (w : World) (F : Nat → Prop) (g : Nat) (c : Cur) : Prop where
  ok : c.ok
  blk : ∃ fv, Blk w g 110 (rcurCells c fv) ∧ Sl 3 elFld w F fv c.fields
  foot : ∀ b, F b → b < w.heap.size ∧ b ≠ g
  last : c.last = lastOf c
theorem RCurAt.lt {w : World} {F : Nat → Prop} {g : Nat} {c : Cur} (h : RCurAt w F g c) : g < w.heap.size := let ⟨_, hb, _⟩ := h.blk; hb.lt
theorem RCurAt.keep {w w' : World} {F G : Nat → Prop} {g : Nat} {c : Cur} (h : RCurAt w F g c) (hs : Same F w w') (hg : w'.heap[g]? = w.heap[g]?) (hz : w.heap.size ≤ w'.heap.size) : RCurAt w' F g c := by
  obtain ⟨fv, hb, hf⟩ := h.blk
  exact ⟨h.ok, ⟨fv, hg.trans hb, hf.keep elFld_good hs fun _ h => h⟩, fun b hF => ⟨by have := (h.foot b hF).1; omega, (h.foot b hF).2⟩, h.last⟩
theorem RCurAt.below {w w' : World} {F : Nat → Prop} {g : Nat} {c : Cur} (h : RCurAt w F g c) (hb : Below w.heap.size w w') : RCurAt w' F g c :=
  h.keep (G := F) (Same.below hb fun b hF => (h.foot b hF).1) (hb.block g h.lt) hb.size
theorem RCurAt.drewN {w : World} {F : Nat → Prop} {g : Nat} {c : Cur} (h : RCurAt w F g c) (n : Nat) : RCurAt (w.drewN n) F g c :=
  h.keep (G := F) (fun _ _ => rfl) rfl (Nat.le_refl _)
theorem RCurAt.alloc {w : World} {F : Nat → Prop} {g : Nat} {c : Cur} (h : RCurAt w F g c) (o : Obj) : RCurAt (w.alloc o) F g c := h.below (Below.alloc (Below.refl _ _) (Nat.le_refl _) o)
/-- Behind writes into the cursor's own block. -/
theorem RCurAt.wrote {w w' : World} {F : Nat → Prop} {g : Nat} {c c' : Cur} {fv : Value} (h : RCurAt w F g c) (hf : Sl 3 elFld w F fv c.fields) (ho : Only g w w') (hb : Blk w' g 110 (rcurCells c' fv)) (hc : c'.fields = c.fields) (hok : c'.ok) (hl : c'.last = lastOf c') : RCurAt w' F g c' :=
  ⟨hok, ⟨fv, hb, by rw [hc]; exact hf.keep elFld_good (ho.same h.foot) fun _ h => h⟩, fun b hF => ⟨by have := (h.foot b hF).1; have := ho.size; omega, (h.foot b hF).2⟩, hl⟩
theorem fail_last {c : Cur} (h : c.last = lastOf c) (e col : Int) : (c.fail e col).last = lastOf (c.fail e col) := by
  unfold Cur.fail
  split
  · exact h
  · exact h
set_option maxRecDepth 100000 in
set_option maxHeartbeats 1000000 in
theorem rcur_fail (c : Cur) (e col : Int) (F : Nat → Prop) (g : Nat) (w : World) (h : RCurAt w F g c) (he : c.err = 0) :
    Calls Tryz.prog 114 #[.pointer (some ⟨g, 0, none⟩), .int .i64 e, .int .i64 col] w fun x w' => x = .returned (.tuple #[]) ∧ RCurAt w' F g (c.fail e col) ∧ Only g w w' := by
  obtain ⟨fv, hb, hf⟩ := h.blk
  have c2 : w.cell? ⟨g, 3, none⟩ = some (.int .i64 c.err) := hb.cell 3
  have c3 : w.cell? ⟨g, 4, none⟩ = some (.int .i64 c.pos) := hb.cell 4
  have f2 := hb.frozen 3
  have f3 := hb.frozen 4
  have H := Lib.hid h
  have HB := Lib.hid hb
  have HF := Lib.hid hf
  have HE := Lib.hid he
  clear h hb hf he
  go_enter Tryz.func114, Tryz.ntmps114
  go_wp2
  go_end0
  have ho : Only g w ((w.setCell ⟨g, 3, none⟩ (.int .i64 e)).setCell ⟨g, 4, none⟩ (.int .i64 col)) := ((Only.refl g w).setCell (p := ⟨g, 3, none⟩) (.inl rfl) _).setCell (p := ⟨g, 4, none⟩) (.inl rfl) _
  refine ⟨rfl, H.out.wrote HF.out ho (c' := c.fail e col) ?_ (by unfold Cur.fail; rw [if_pos HE.out]) (Cur.fail_ok H.out.ok e col) (fail_last H.out.last e col), ho⟩
  have := (HB.out.set_ 3 (.int .i64 e)).set_ 4 (.int .i64 col)
  unfold Cur.fail
  rw [if_pos HE.out]
  exact this
set_option maxRecDepth 100000 in
set_option maxHeartbeats 1000000 in
theorem rcur_More (c : Cur) (F : Nat → Prop) (g : Nat) (w : World) (h : RCurAt w F g c) :
    Calls Tryz.prog 72 #[.pointer (some ⟨g, 0, none⟩)] w fun x w' => x = .returned (.bool c.more) ∧ ∃ n, w' = w.drewN n := by
  obtain ⟨fv, hb, hf⟩ := h.blk
  obtain ⟨A, cp, rfl, hc1, hc2⟩ := hf.shape
  have c1 : w.cell? ⟨g, 1, none⟩ = some (.slice A c.fields.length cp) := hb.cell 1
  have c2 : w.cell? ⟨g, 2, none⟩ = some (.int .i64 c.next) := hb.cell 2
  have c4 : w.cell? ⟨g, 3, none⟩ = some (.int .i64 c.err) := hb.cell 3
  clear h hb hf
  by_cases he : c.err = 0
  · have e0 : (c.err == 0) = true := beq_iff_eq.2 he
    have HE := Lib.hid he
    clear he
    go_enter Tryz.func72, Tryz.ntmps72
    go_wp2
    go_quiet (fail)
    go_wp2
    go_ret
    refine ⟨ret_b ?_, _, rfl⟩
    unfold Cur.more
    rw [decide_eq_true HE.out]
    simp
  · have e0 : (c.err == 0) = false := beq_eq_false_iff_ne.2 he
    have HE := Lib.hid he
    clear he
    go_enter Tryz.func72, Tryz.ntmps72
    go_wp2
    go_quiet (fail)
    go_wp2
    go_ret
    refine ⟨ret_b ?_, _, rfl⟩
    unfold Cur.more
    rw [decide_eq_false HE.out]
    simp
/-- A block of three cells behind three stores. -/
def put3 (W : World) (R : Nat) (a b c : Value) : World := ((W.setCell ⟨R, 0, none⟩ a).setCell ⟨R, 1, none⟩ b).setCell ⟨R, 2, none⟩ c
theorem put3_only (W : World) (R : Nat) (a b c : Value) : Only R W (put3 W R a b c) :=
  (((Only.refl R W).setCell (p := ⟨R, 0, none⟩) (.inl rfl) _).setCell (p := ⟨R, 1, none⟩) (.inl rfl) _).setCell (p := ⟨R, 2, none⟩) (.inl rfl) _
theorem blk_put3 {w : World} {g : Nat} {t : TypeId} {a b c : Value} (h : Blk w g t #[a, b, c]) (x0 x1 x2 : Value) : Blk (put3 w g x0 x1 x2) g t #[x0, x1, x2] :=
  ((h.set_ 0 x0).set_ 1 x1).set_ 2 x2
theorem RCurAt.only {w w' : World} {F : Nat → Prop} {g R : Nat} {c : Cur} (h : RCurAt w F g c) (ho : Only R w w') (hg : g ≠ R) (hF : ¬ F R) : RCurAt w' F g c :=
  h.keep (G := F) (ho.same fun b hb => ⟨(h.foot b hb).1, fun e => hF (e ▸ hb)⟩) (ho.block g h.lt fun e => hg (Option.some.inj e)) ho.size
/-- Only the blocks g and, behind w's own, others have turned. -/
theorem Only.glue {w w0 w' : World} {g R : Nat} (h1 : Only g w w0) (h2 : Only R w0 w') (hR : w.heap.size ≤ R) : Only g w w' :=
  ⟨h2.os.trans h1.os, h2.tape.trans h1.tape, h2.output.trans h1.output, Nat.le_trans h1.size h2.size, fun i hi hne => (h2.block i (Nat.lt_of_lt_of_le hi h1.size) fun e => by injection e with e; omega).trans (h1.block i hi hne)⟩
/-- How the reference hands back a field. -/
def fieldV (r : Cur × List UInt8 × Bool) (q : Bool) : Value := if r.2.2 then .tuple #[.agg #[.string (S r.2.1), .int .i64 r.1.last, .bool q], .bool true] else .tuple #[.agg #[.string ⟨#[]⟩, .int .i64 0, .bool false], .bool false]
def RNextPost (w : World) (F : Nat → Prop) (g : Nat) (r : Cur × List UInt8 × Bool) (q : Bool) (x : Ending) (w' : World) : Prop :=
  x = .returned (fieldV r q) ∧ RCurAt w' F g r.1 ∧ Only g w w'
theorem next_ret {R' : Ending → World → Prop} {a : Act} {w : World} {x0 x1 x2 v : Value} {g : Nat} (h2 : a.tmps[4]? = some (.pointer (some ⟨g, 0, none⟩))) (h3 : a.tmps[5]? = some v) (hb : Blk w g 87 #[x0, x1, x2])
    (hd : a.defers = []) (hR : R' (.returned (.tuple #[.agg #[x0, x1, x2], v])) w) : bodyPost Tryz.prog Tryz.f113 R' .ret a w := by
  obtain ⟨r0, r1, r2, _⟩ := hb.three
  refine bodyPost_ret (v := .tuple #[.agg #[x0, x1, x2], v]) (by simp [results, Tryz.results113, go_sem, h2, h3, r0, r1, r2]) hd hR
@[go_sem] theorem build_fld0 (w : World) : (Instr.build 87 #[]).run Tryz.prog w = .ok (.agg #[.string ByteArray.empty, .int .i64 0, .bool false]) w := run_build w 87 _ _ (by kernel_rfl)
set_option maxRecDepth 100000 in
set_option maxHeartbeats 2000000 in
theorem rcur_next (c : Cur) (q : Bool) (F : Nat → Prop) (g : Nat) (w : World) (h : RCurAt w F g c) :
    Calls Tryz.prog 113 #[.pointer (some ⟨g, 0, none⟩), .bool q] w (RNextPost w F g (c.read q) q) := by
  obtain ⟨r, hr⟩ : ∃ r, r = c.read q := ⟨_, rfl⟩
  rw [← hr]
  unfold Cur.read at hr
  obtain ⟨w0, hw0⟩ : ∃ x, x = w.alloc (.cells #[.string ⟨#[]⟩, .int .i64 0, .bool false] 87) := ⟨_, rfl⟩
  have h0 : RCurAt w0 F g c := by rw [hw0]; exact h.alloc _
  have hk0 : Blk w0 w.heap.size 87 #[.string ⟨#[]⟩, .int .i64 0, .bool false] := by rw [hw0]; exact Blk.new w _ _
  have ho0 : Only g w w0 := by rw [hw0]; exact (Only.refl g w).alloc _
  obtain ⟨fv, hb, hf⟩ := h0.blk
  obtain ⟨A, cp, rfl, hc1, hc2⟩ := hf.shape
  have hgw : g < w.heap.size := h.lt
  have c3 : w0.cell? ⟨g, 3, none⟩ = some (.int .i64 c.err) := hb.cell 3
  obtain ⟨r0, r1, r2, j0, j1, j2⟩ := hk0.three
  by_cases he : c.err = 0
  · have e0 : (c.err != 0) = false := by rw [he]; rfl
    rw [if_pos he] at hr
    have hmore := rcur_More c F g w0 h0
    by_cases hlt : c.next < c.fields.length
    · have hm : c.more = true := by unfold Cur.more; rw [decide_eq_true hlt, decide_eq_true he]; rfl
      rw [hm] at hmore
      obtain ⟨b, o, cs, rfl, hF, hcl, hcc, hel⟩ := hf.at hlt
      rw [List.getElem?_eq_getElem hlt] at hr
      have hlast2 : ((c.fields[c.next + 1 - 1]?).map (·.col)).getD 0 = (c.fields[c.next]).col := by rw [Nat.add_sub_cancel, List.getElem?_eq_getElem hlt]; rfl
      obtain ⟨⟨ft, fc, fq⟩, hfe⟩ : ∃ f, f = c.fields[c.next] := ⟨_, rfl⟩
      rw [← hfe] at hel hr hlast2
      clear hfe
      have hel' : cs = [.string (S ft), .int .i64 fc, .bool fq] := hel
      subst hel'
      have hbg := h0.foot b hF
      have hFR : ¬ F w.heap.size := fun hf => by have := (h.foot _ hf).1; omega
      have HR := Lib.hid hr
      have HM := Lib.hid hmore
      have H0 := Lib.hid h0
      have HK0 := Lib.hid hk0
      have HO0 := Lib.hid ho0
      have HB := Lib.hid hb
      have HF := Lib.hid hf
      have HCC := Lib.hid hcc
      have HE := Lib.hid he
      have HL2 := Lib.hid hlast2
      have HFR := Lib.hid hFR
      have hz0 : w0.heap.size = w.heap.size + 1 := by rw [hw0]; simp
      rw [hw0] at c3
      clear hr hmore h0 hb hf h hk0 ho0 he hm hcc hel hcl r0 r1 r2 j0 j1 j2 hlast2 hFR
      go_enter Tryz.func113, Tryz.ntmps113
      go_wp2_with fail
      rw [← hw0]
      refine HM.out.mono ?_
      rintro x w1 ⟨rfl, nd, rfl⟩
      have HZ0 := Lib.hid hz0
      clear c3 hw0 hz0
      go_wp2_with fail
      generalize hwq : w0.drewN nd = wq
      have hzq : wq.heap.size = w.heap.size + 1 := by rw [← hwq]; exact HZ0.out
      have hbl : b < wq.heap.size := by rw [hzq, ← HZ0.out]; exact hbg.1
      have hgl : g < wq.heap.size := by omega
      have hRl : w.heap.size < wq.heap.size := by omega
      have kq : Blk wq w.heap.size 87 #[.string ⟨#[]⟩, .int .i64 0, .bool false] := by rw [← hwq]; exact HK0.out
      have bq : Blk wq g 110 (rcurCells c (.slice (some ⟨b, o, none⟩) c.fields.length cp)) := by rw [← hwq]; exact HB.out
      have cq : RCurAt wq F g c := by rw [← hwq]; exact H0.out.drewN _
      have oq : Only g w wq := by rw [← hwq]; exact HO0.out.drewN _
      have z0 : wq.cell? ⟨b, o + c.next * 3, none⟩ = some (.string (S ft)) := by rw [← hwq]; exact HCC.out 0 _ rfl
      have z1 : wq.cell? ⟨b, o + c.next * 3 + 1, none⟩ = some (.int .i64 fc) := by rw [← hwq]; exact HCC.out 1 _ rfl
      have z2 : wq.cell? ⟨b, o + c.next * 3 + 2, none⟩ = some (.bool fq) := by rw [← hwq]; exact HCC.out 2 _ rfl
      have d1 : wq.cell? ⟨g, 1, none⟩ = some (.slice (some ⟨b, o, none⟩) c.fields.length cp) := bq.cell 1
      have d2 : wq.cell? ⟨g, 2, none⟩ = some (.int .i64 c.next) := bq.cell 2
      have d1a := (World.cell?_alloc_lt wq (Obj.cells #[.string ⟨#[]⟩, .int .i64 0, .bool false] 87) ⟨g, 1, none⟩ hgl).trans d1
      have d2a := (World.cell?_alloc_lt wq (Obj.cells #[.string ⟨#[]⟩, .int .i64 0, .bool false] 87) ⟨g, 2, none⟩ hgl).trans d2
      have z0a := (World.cell?_alloc_lt wq (Obj.cells #[.string ⟨#[]⟩, .int .i64 0, .bool false] 87) ⟨b, o + c.next * 3, none⟩ hbl).trans z0
      have z1a := (World.cell?_alloc_lt wq (Obj.cells #[.string ⟨#[]⟩, .int .i64 0, .bool false] 87) ⟨b, o + c.next * 3 + 1, none⟩ hbl).trans z1
      have z2a := (World.cell?_alloc_lt wq (Obj.cells #[.string ⟨#[]⟩, .int .i64 0, .bool false] 87) ⟨b, o + c.next * 3 + 2, none⟩ hbl).trans z2
      have fq0 : Sl 3 elFld wq F (.slice (some ⟨b, o, none⟩) c.fields.length cp) c.fields := by rw [← hwq]; exact HF.out.keep elFld_good (fun _ _ => rfl) fun _ h => h
      have FQ := Lib.hid fq0
      have KQ := Lib.hid kq
      have BQ := Lib.hid bq
      have CQ := Lib.hid cq
      have OQ := Lib.hid oq
      clear hwq kq bq cq oq fq0 HM H0 HK0 HO0 HB HCC
      go_region
      generalize hW : World.drew _ = wx
      have hx : wx = (wq.alloc (Obj.cells #[.string (S ft), .int .i64 fc, .bool fq] 87)).drew := hW.symm
      clear hW
      have hox : Only g w wx := by rw [hx]; exact (OQ.out.alloc _).drew
      have hbx : Blk wx g 110 (rcurCells c (.slice (some ⟨b, o, none⟩) c.fields.length cp)) := by rw [hx]; exact BQ.out.alloc _
      have hkx : Blk wx w.heap.size 87 #[.string ⟨#[]⟩, .int .i64 0, .bool false] := by rw [hx]; exact KQ.out.alloc _
      have hnx : Blk wx (w.heap.size + 1) 87 #[.string (S ft), .int .i64 fc, .bool fq] := by rw [hx, ← hzq]; exact Blk.new wq _ _
      have hfx : Sl 3 elFld wx F (.slice (some ⟨b, o, none⟩) c.fields.length cp) c.fields := by rw [hx]; exact FQ.out.keep elFld_good (Same.below (Below.drew (Below.alloc (Below.refl wq.heap.size wq) (Nat.le_refl _) _)) fun b hb => (CQ.out.foot b hb).1) fun _ h => h
      have hcx : RCurAt wx F g c := by rw [hx]; exact (CQ.out.alloc _).keep (G := F) (fun _ _ => rfl) rfl (Nat.le_refl _)
      obtain ⟨x0, x1, x2, _⟩ := hnx.three
      have w2 : wx.cell? ⟨g, 2, none⟩ = some (.int .i64 c.next) := hbx.cell 2
      have v2 := hbx.frozen 2
      obtain ⟨k0, k1, k2, l0, l1, l2⟩ := hkx.three
      have HFX := Lib.hid hfx
      have HZQ := Lib.hid hzq
      have HX := Lib.hid hox
      have HBX := Lib.hid hbx
      have HCX := Lib.hid hcx
      have HKX := Lib.hid hkx
      have HNX := Lib.hid hnx
      clear hfx hzq hx hox hbx hkx hnx hcx d1 d2 z0 z1 z2 d1a d2a z0a z1a z2a
      by_cases hq : fq = q
      · have hr2 : r = ({ c with next := c.next + 1, last := fc }, ft, true) := by rw [HR.out, if_pos hq]
        have e1 : (!(fq == q)) = false := by rw [hq]; simp
        have HR2 := Lib.hid hr2
        have Hq := Lib.hid hq
        have hnw : Only g wx (wx.setCell ⟨g, 2, none⟩ (.int .i64 ((c.next : Int) + 1))) := (Only.refl g wx).setCell (p := ⟨g, 2, none⟩) (.inl rfl) _
        have hbn := HBX.out.set_ 2 (.int .i64 ((c.next : Int) + 1))
        have hcn : RCurAt (wx.setCell ⟨g, 2, none⟩ (.int .i64 ((c.next : Int) + 1))) F g { c with next := c.next + 1, last := fc } :=
          HCX.out.wrote (c' := { c with next := c.next + 1, last := fc }) HFX.out hnw hbn rfl (by unfold Cur.ok; exact hlt) (by unfold lastOf; rw [if_neg (by simp)]; exact HL2.out.symm)
        clear hr2 hq
        have hkn := HKX.out.far (p := ⟨g, 2, none⟩) (by show w.heap.size ≠ g; omega) (.int .i64 ((c.next : Int) + 1))
        have HNW := Lib.hid hnw
        have HCN := Lib.hid hcn
        have HKN := Lib.hid hkn
        clear hnw hbn hcn hkn
        go_wp2
        refine next_ret rfl rfl (blk_put3 HKN.out _ _ _) rfl ?_
        rw [HR2.out, Hq.out]
        have hp := put3_only (wx.setCell ⟨g, 2, none⟩ (.int .i64 ((c.next : Int) + 1))) w.heap.size (.string (S ft)) (.int .i64 fc) (.bool q)
        exact ⟨rfl, HCN.out.only hp (by omega) HFR.out, Only.glue (HX.out.trans HNW.out) hp (Nat.le_refl _)⟩
      · have hr2 : r = (c.fail 4 fc, [], false) := by rw [HR.out, if_neg hq]
        have e1 : (!(fq == q)) = true := by simp [hq]
        have HR2 := Lib.hid hr2
        have hfl := rcur_fail c 4 fc F g wx HCX.out HE.out
        have HFL := Lib.hid hfl
        clear hr2 hq hfl
        go_wp2_with (go_at_call 114; refine HFL.out.mono ?_; rintro x w2 ⟨rfl, hc2, ho2⟩; have hk2 := HKX.out.grown ho2 (fun e => by injection e with e; omega); obtain ⟨p0, p1, p2, m0, m1, m2⟩ := hk2.three; have HC2 := Lib.hid hc2; have HO2 := Lib.hid ho2; have HK2 := Lib.hid hk2; clear hc2 ho2 hk2)
        refine next_ret rfl rfl (blk_put3 HK2.out _ _ _) rfl ?_
        rw [HR2.out]
        have hp := put3_only w2 w.heap.size (.string ⟨#[]⟩) (.int .i64 0) (.bool false)
        exact ⟨rfl, HC2.out.only hp (by omega) HFR.out, Only.glue (HX.out.trans HO2.out) hp (Nat.le_refl _)⟩
    · have hm : c.more = false := by unfold Cur.more; rw [decide_eq_false hlt, Bool.and_false]
      rw [hm] at hmore
      rw [List.getElem?_eq_none (by omega)] at hr
      have hfl := fun n => rcur_fail c 4 0 F g (w0.drewN n) (h0.drewN n) he
      have hFR : ¬ F w.heap.size := fun hf => by have := (h.foot _ hf).1; omega
      have HFR := Lib.hid hFR
      have HR := Lib.hid hr
      have HM := Lib.hid hmore
      have HFL := Lib.hid hfl
      have HK0 := Lib.hid hk0
      have HO0 := Lib.hid ho0
      rw [hw0] at c3
      clear hr hmore hfl h0 hb hf h hk0 ho0 he hm hFR r0 r1 r2 j0 j1 j2
      go_enter Tryz.func113, Tryz.ntmps113
      go_wp2_with fail
      rw [← hw0]
      refine HM.out.mono ?_
      rintro x w1 ⟨rfl, nd, rfl⟩
      clear c3 hw0
      go_wp2_with (go_at_call 114; refine (HFL.out nd).mono ?_; rintro x w2 ⟨rfl, hc2, ho2⟩; have hk2 := Blk.grown (w := w0.drewN nd) HK0.out ho2 (fun e => by injection e with e; omega); obtain ⟨p0, p1, p2, m0, m1, m2⟩ := hk2.three; have HC2 := Lib.hid hc2; have HO2 := Lib.hid ho2; have HK2 := Lib.hid hk2; clear hc2 ho2 hk2)
      refine next_ret rfl rfl (blk_put3 HK2.out _ _ _) rfl ?_
      rw [HR.out]
      have hp := put3_only w2 w.heap.size (.string ⟨#[]⟩) (.int .i64 0) (.bool false)
      exact ⟨rfl, HC2.out.only hp (by omega) HFR.out, Only.glue ((HO0.out.drewN nd).trans HO2.out) hp (Nat.le_refl _)⟩
  · have e0 : (c.err != 0) = true := by rw [bne_iff_ne]; exact he
    rw [if_neg he] at hr
    have HR := Lib.hid hr
    have H0 := Lib.hid h0
    have HK0 := Lib.hid hk0
    have HO0 := Lib.hid ho0
    rw [hw0] at c3
    clear hr h0 hb hf h hk0 ho0 he r0 r1 r2 j0 j1 j2
    go_enter Tryz.func113, Tryz.ntmps113
    go_wp2
    rw [← hw0]
    refine next_ret rfl rfl HK0.out rfl ?_
    rw [HR.out]
    exact ⟨rfl, H0.out, HO0.out⟩
end Go.Proofs.YtglkejlimeakbaaGreatDoor

namespace Go.Proofs.YtglkejlimeakbaaGreatDoor
open Go.RowKit

def RKeyPost (w : World) (F : Nat → Prop) (g : Nat) (r : Cur × Bool) (x : Ending) (w' : World) : Prop := x = .returned (.bool r.2) ∧ RCurAt w' F g r.1 ∧ Only g w w'
def RStrCur (w : World) (F : Nat → Prop) (g : Nat) (r : Cur × List UInt8) (x : Ending) (w' : World) : Prop := x = .returned (.string (S r.2)) ∧ RCurAt w' F g r.1 ∧ Only g w w'
def RIntCur (w : World) (F : Nat → Prop) (g : Nat) (r : Cur × Int) (x : Ending) (w' : World) : Prop := x = .returned (.int .i64 r.2) ∧ RCurAt w' F g r.1 ∧ Only g w w'
theorem rcur_next_some {c c' : Cur} {t : List UInt8} {q : Bool} {F : Nat → Prop} {g : Nat} {w : World} (h : RCurAt w F g c) (hr : (c', t, true) = c.read q) :
    Calls Tryz.prog 113 #[.pointer (some ⟨g, 0, none⟩), .bool q] w fun x w' => x = .returned (.tuple #[.agg #[.string (S t), .int .i64 c'.last, .bool q], .bool true]) ∧ RCurAt w' F g c' ∧ Only g w w' := by
  have := rcur_next c q F g w h
  rw [← hr] at this
  exact this
theorem rcur_next_none {c c' : Cur} {t : List UInt8} {q : Bool} {F : Nat → Prop} {g : Nat} {w : World} (h : RCurAt w F g c) (hr : (c', t, false) = c.read q) :
    Calls Tryz.prog 113 #[.pointer (some ⟨g, 0, none⟩), .bool q] w fun x w' => x = .returned (.tuple #[.agg #[.string ⟨#[]⟩, .int .i64 0, .bool false], .bool false]) ∧ RCurAt w' F g c' ∧ Only g w w' := by
  have := rcur_next c q F g w h
  rw [← hr] at this
  exact this
/-- A field that was read leaves no error behind. -/
theorem read_err {c c' : Cur} {t : List UInt8} {q : Bool} (hr : (c', t, true) = c.read q) : c'.err = 0 := by
  unfold Cur.read Cur.fail at hr
  repeat' split at hr
  all_goals (rcases Prod.mk.inj hr with ⟨h1, h2⟩; rcases Prod.mk.inj h2 with ⟨h2, h3⟩; first | (exact absurd h3 (by decide)) | (rw [h1]; assumption))
theorem read_none {c c' : Cur} {t : List UInt8} {q : Bool} (hr : (c', t, false) = c.read q) : t = [] := by
  unfold Cur.read Cur.fail at hr
  repeat' split at hr
  all_goals (rcases Prod.mk.inj hr with ⟨h1, h2⟩; rcases Prod.mk.inj h2 with ⟨h2, h3⟩; first | exact h2 | (exact absurd h3 (by decide)))

set_option maxRecDepth 100000 in
set_option maxHeartbeats 2000000 in
theorem rcur_Ident (c : Cur) (F : Nat → Prop) (g : Nat) (w : World) (h : RCurAt w F g c) (hlen : ∀ f ∈ c.fields, f.text.length ≤ 1000000000) :
    Calls Tryz.prog 69 #[.pointer (some ⟨g, 0, none⟩)] w (RStrCur w F g c.ident) := by
  obtain ⟨q, hq⟩ : ∃ q, q = c.ident := ⟨_, rfl⟩
  rw [← hq]
  unfold Cur.ident at hq
  have htl := Cur.read_text c false hlen
  obtain ⟨⟨c', t, ok⟩, hr⟩ : ∃ r, r = c.read false := ⟨_, rfl⟩
  rw [← hr] at hq htl
  dsimp only at htl
  have HQ := Lib.hid hq
  cases ok
  · have hrd := rcur_next_none h hr
    have ht0 := read_none hr
    have HRD := Lib.hid hrd
    have HT := Lib.hid ht0
    clear hrd hr hq h hlen ht0
    go_enter Tryz.func69, Tryz.ntmps69
    go_wp2_with (go_at_call 113; refine HRD.out.mono ?_; rintro e w2 ⟨rfl, hc2, ho2⟩)
    go_ret
    rw [HQ.out, if_neg (by simp)]
    exact ⟨by rw [HT.out]; rfl, hc2.alloc _, ho2.alloc _⟩
  · have hrd := rcur_next_some h hr
    have he0 := read_err hr
    have HRD := Lib.hid hrd
    have HE := Lib.hid he0
    clear hrd hr hq h hlen he0
    cases hn : nameS t
    · have HN := Lib.hid hn
      go_enter Tryz.func69, Tryz.ntmps69
      go_wp2_with (first | (go_at_call 113; refine HRD.out.mono ?_; rintro e w2 ⟨rfl, hc2, ho2⟩; have HC2 := Lib.hid hc2; have HO2 := Lib.hid ho2; clear hc2 ho2) | (go_at_call 73; refine (ref_Name (S t) _ (by simp only [S_size, maxLen]; omega)).mono ?_; rintro e w3 ⟨rfl, rfl⟩) | (go_at_call 114; refine (rcur_fail c' 5 c'.last F g _ (HC2.out.alloc _) HE.out).mono ?_; rintro e w4 ⟨rfl, hc4, ho4⟩))
      go_ret
      rw [HQ.out, if_pos ⟨trivial, HN.out⟩]
      exact ⟨rfl, hc4, (HO2.out.alloc _).trans ho4⟩
    · have HN := Lib.hid hn
      go_enter Tryz.func69, Tryz.ntmps69
      go_wp2_with (first | (go_at_call 113; refine HRD.out.mono ?_; rintro e w2 ⟨rfl, hc2, ho2⟩; have HC2 := Lib.hid hc2; have HO2 := Lib.hid ho2; clear hc2 ho2) | (go_at_call 73; refine (ref_Name (S t) _ (by simp only [S_size, maxLen]; omega)).mono ?_; rintro e w3 ⟨rfl, rfl⟩))
      go_ret
      rw [HQ.out, if_neg (by rw [HN.out]; simp)]
      exact ⟨rfl, HC2.out.alloc _, HO2.out.alloc _⟩
end Go.Proofs.YtglkejlimeakbaaGreatDoor

namespace Go.Proofs.YtglkejlimeakbaaGreatDoor
open Go.RowKit

set_option maxRecDepth 100000 in
set_option maxHeartbeats 2000000 in
theorem rcur_Close (c : Cur) (F : Nat → Prop) (g : Nat) (w : World) (h : RCurAt w F g c) :
    Calls Tryz.prog 35 #[.pointer (some ⟨g, 0, none⟩)] w fun x w' => x = .returned (closeV c.close) ∧ Below w.heap.size w w' := by
  obtain ⟨q, hq⟩ : ∃ q, q = c.close := ⟨_, rfl⟩
  rw [← hq]
  unfold Cur.close at hq
  obtain ⟨fv, hb, hf⟩ := h.blk
  obtain ⟨A, cp, rfl, hc1, hc2⟩ := hf.shape
  have hgl := h.lt
  have HFO := Lib.hid fun b hF => (h.foot b hF).1
  have hcur0 := h.below ((Below.refl w.heap.size w).alloc (Nat.le_refl _) (Obj.cells #[.int .i64 0, .int .i64 0, .int .i64 0] 41))
  have hb0 : Blk (w.alloc (Obj.cells #[.int .i64 0, .int .i64 0, .int .i64 0] 41)) g 110 (rcurCells c (.slice A c.fields.length cp)) := hb.alloc _
  have c0 : (w.alloc (Obj.cells #[.int .i64 0, .int .i64 0, .int .i64 0] 41)).cell? ⟨g, 0, none⟩ = some (.int .i64 c.num) := hb0.cell 0
  have c1 : (w.alloc (Obj.cells #[.int .i64 0, .int .i64 0, .int .i64 0] 41)).cell? ⟨g, 1, none⟩ = some (.slice A c.fields.length cp) := hb0.cell 1
  have c2 : (w.alloc (Obj.cells #[.int .i64 0, .int .i64 0, .int .i64 0] 41)).cell? ⟨g, 2, none⟩ = some (.int .i64 c.next) := hb0.cell 2
  have c4 : (w.alloc (Obj.cells #[.int .i64 0, .int .i64 0, .int .i64 0] 41)).cell? ⟨g, 3, none⟩ = some (.int .i64 c.err) := hb0.cell 3
  have c5 : (w.alloc (Obj.cells #[.int .i64 0, .int .i64 0, .int .i64 0] 41)).cell? ⟨g, 4, none⟩ = some (.int .i64 c.pos) := hb0.cell 4
  have HC0 := Lib.hid hcur0
  have HB0 := Lib.hid hb0
  have HF := Lib.hid hf
  have hok : c.next ≤ c.fields.length := h.ok
  clear hcur0 hb0 hf hb h
  by_cases he : c.err = 0
  · have e0 : (c.err != 0) = false := by rw [he]; rfl
    rw [if_neg (fun h => h he)] at hq
    have HE := Lib.hid he
    have HQ := Lib.hid hq
    clear he hq
    by_cases hlt : c.next < c.fields.length
    · have hm : c.more = true := by unfold Cur.more; rw [decide_eq_true HE.out, decide_eq_true hlt]; rfl
      have HM := Lib.hid hm
      clear hm
      obtain ⟨b, o, cs, rfl, hF, hcl, hcc, hel⟩ := HF.out.at hlt
      obtain ⟨⟨ft, fc, fq⟩, hfe⟩ : ∃ f, f = c.fields[c.next] := ⟨_, rfl⟩
      have HQ' := HQ.out
      rw [List.getElem?_eq_getElem hlt, ← hfe] at HQ'
      rw [← hfe] at hel
      have hel' : cs = [.string (S ft), .int .i64 fc, .bool fq] := hel
      subst hel'
      have y1 : (w.alloc (Obj.cells #[.int .i64 0, .int .i64 0, .int .i64 0] 41)).cell? ⟨b, o + c.next * 3 + 1, none⟩ = some (.int .i64 fc) := (World.cell?_alloc_lt w _ ⟨b, o + c.next * 3 + 1, none⟩ (by have := (HFO.out b hF); exact this)).trans (hcc 1 _ rfl)
      have HQF := Lib.hid HQ'
      clear hfe HQ' HQ hcc hel hcl
      go_enter Tryz.func35, Tryz.ntmps35
      go_wp2_with (go_at_call 72; refine (rcur_More c F g _ HC0.out).mono ?_; rintro e w2 ⟨rfl, n, rfl⟩; rw [HM.out])
      go_region
      go_wp2
      refine bodyPost_ret (v := .tuple #[.agg #[.int .i64 c.num, .int .i64 fc, .int .i64 4], .bool true]) (by simp [results, Tryz.results35, go_sem]) rfl ⟨?_, ?_⟩
      · rw [HQF.out]; rfl
      · (repeat (first | exact Below.refl _ _ | refine Below.setCell ?_ (by simp) _ | refine Below.drewN_ ?_ _ | refine Below.drew ?_ | refine Below.alloc ?_ (by simp) _))
    · have hm : c.more = false := by unfold Cur.more; rw [decide_eq_false hlt, Bool.and_false]
      have HM := Lib.hid hm
      clear hm
      go_enter Tryz.func35, Tryz.ntmps35
      go_wp2_with (go_at_call 72; refine (rcur_More c F g _ HC0.out).mono ?_; rintro e w2 ⟨rfl, n, rfl⟩; rw [HM.out])
      refine bodyPost_ret (v := .tuple #[.agg #[.int .i64 0, .int .i64 0, .int .i64 0], .bool false]) (by simp [results, Tryz.results35, go_sem]) rfl ⟨?_, ?_⟩
      · have := HQ.out
        rw [List.getElem?_eq_none (by omega)] at this
        rw [this]; rfl
      · (repeat (first | exact Below.refl _ _ | refine Below.setCell ?_ (by simp) _ | refine Below.drewN_ ?_ _ | refine Below.drew ?_ | refine Below.alloc ?_ (by simp) _))
  · have e0 : (c.err != 0) = true := by rw [bne_iff_ne]; exact he
    rw [if_pos he] at hq
    have HQ := Lib.hid hq
    clear hq he
    go_enter Tryz.func35, Tryz.ntmps35
    go_wp2
    go_region
    go_wp2
    refine bodyPost_ret (v := .tuple #[.agg #[.int .i64 c.num, .int .i64 c.pos, .int .i64 c.err], .bool true]) (by simp [results, Tryz.results35, go_sem]) rfl ⟨?_, ?_⟩
    · rw [HQ.out]; rfl
    · exact (((Below.refl _ _).alloc (Nat.le_refl _) _).drew)
end Go.Proofs.YtglkejlimeakbaaGreatDoor

namespace Go.Proofs.YtglkejlimeakbaaGreatDoor
open Go.RowKit

set_option maxRecDepth 100000 in
set_option maxHeartbeats 2000000 in
theorem rcur_OneOf (c : Cur) (v : Value) (l : List (List UInt8)) (G F : Nat → Prop) (g : Nat) (w : World) (h : RCurAt w F g c) (hl : Sl 1 elStr w G v l) (hG : ∀ b, G b → b < w.heap.size ∧ b ≠ g) :
    Calls Tryz.prog 70 #[.pointer (some ⟨g, 0, none⟩), v] w (RIntCur w F g (c.oneOf l)) := by
  obtain ⟨q, hq⟩ : ∃ q, q = c.oneOf l := ⟨_, rfl⟩
  rw [← hq]
  unfold Cur.oneOf at hq
  obtain ⟨⟨c', t, ok⟩, hr⟩ : ∃ r, r = c.read false := ⟨_, rfl⟩
  rw [← hr] at hq
  obtain ⟨A, cp, rfl, hcl1, hcl2⟩ := hl.shape
  have HQ := Lib.hid hq
  have HL := Lib.hid hl
  have HGG := Lib.hid hG
  cases ok
  · have hrd := rcur_next_none h hr
    have HRD := Lib.hid hrd
    clear hrd hr hq h hl hG
    go_enter Tryz.func70, Tryz.ntmps70
    go_wp2_with (go_at_call 113; refine HRD.out.mono ?_; rintro e w2 ⟨rfl, hc2, ho2⟩)
    go_ret
    rw [HQ.out, if_neg (by simp)]
    exact ⟨rfl, hc2.alloc _, ho2.alloc _⟩
  · have hrd := rcur_next_some h hr
    have he0 := read_err hr
    have HRD := Lib.hid hrd
    have HE := Lib.hid he0
    clear hrd hr hq h hl hG he0
    go_enter Tryz.func70, Tryz.ntmps70
    go_wp2_with (go_at_call 113; refine HRD.out.mono ?_; rintro e w2 ⟨rfl, hc2, ho2⟩; have hl2 := HL.out.keep elStr_good (ho2.same HGG.out) fun _ h => h; have hz2 := ho2.size; have HC2 := Lib.hid hc2; have HO2 := Lib.hid ho2; have HL2 := Lib.hid hl2; have HZ2 := Lib.hid hz2; clear hc2 ho2 hl2 hz2)
    go_loop [18] (fun i => ∃ k : Nat, k ≤ l.length ∧ i = .int .i64 k ∧ Hid (indexS l t = indexF t (l.drop k) k)) (fun i => l.length - (intOf i).toNat)
    case atStart => exact ⟨0, Nat.zero_le _, rfl, by unfold Hid; rfl⟩
    case round =>
      obtain ⟨k, hk, rfl, htk⟩ := hrel
      by_cases hlt : k < l.length
      · obtain ⟨b, o, rfl, hbF, hcell⟩ := HL2.out.str_at hlt
        have hbz : b < w2.heap.size := Nat.lt_of_lt_of_le (HGG.out b hbF).1 HZ2.out
        have hc1 : (w2.alloc (.cells #[.string (S t), .int .i64 c'.last, .bool false] 87)).cell? ⟨b, o + k, none⟩ = some (.string (S l[k])) := (World.cell?_alloc_lt w2 _ ⟨b, o + k, none⟩ hbz).trans hcell
        have hst := htk.out
        rw [List.drop_eq_getElem_cons hlt, indexF] at hst
        obtain ⟨p, hp⟩ : ∃ p, p = l[k] := ⟨_, rfl⟩
        rw [← hp] at hc1 hst
        clear hp hcell htk
        by_cases he : p = t
        · have e1 : (p == t) = true := by rw [he]; simp
          rw [if_pos he] at hst
          have HS := Lib.hid hst
          clear hst he
          go_wp2
          go_ret
          rw [HQ.out, if_pos trivial]
          dsimp only
          rw [HS.out, if_neg (by omega)]
          exact ⟨rfl, HC2.out.alloc _, HO2.out.alloc _⟩
        · have e1 : (p == t) = false := beq_eq_false_iff_ne.2 he
          rw [if_neg he] at hst
          have HS := Lib.hid hst
          clear hst he
          go_wp2
          go_round
          case rel => exact ⟨k + 1, by omega, by go_num, HS.out⟩
          case measure => simp [intOf]; omega
      · have hst := htk.out
        rw [List.drop_of_length_le (by omega), indexF] at hst
        have HS := Lib.hid hst
        clear hst htk
        go_wp2_with (go_at_call 114; refine (rcur_fail c' 4 c'.last F g _ (HC2.out.alloc _) HE.out).mono ?_; rintro e w4 ⟨rfl, hc4, ho4⟩)
        go_ret
        rw [HQ.out, if_pos trivial]
        dsimp only
        rw [HS.out, if_pos (by decide)]
        exact ⟨rfl, hc4, (HO2.out.alloc _).trans ho4⟩
/-- A list of one text, just laid. -/
theorem fresh_one (w : World) (s : ByteArray) : Sl 1 elStr (w.alloc (.cells #[.string s] 9)) (fun b => b = w.heap.size) (.slice (some ⟨w.heap.size, 0, none⟩) 1 1) [s.data.toList] :=
  Sl.fresh1 w _ [.string s] 9 (R := elStr) (size := 1) s.data.toList rfl rfl rfl
theorem oneOf_one (c : Cur) (kw : List UInt8) : (c.oneOf [kw]).1 = (c.keyword kw).1 ∧ ((c.oneOf [kw]).2 == 0) = (c.keyword kw).2 := by
  unfold Cur.oneOf Cur.keyword indexS indexF indexF
  obtain ⟨⟨c', t, ok⟩, hr⟩ : ∃ r, r = c.read false := ⟨_, rfl⟩
  rw [← hr]
  cases ok
  · simp
  · by_cases h : kw = t
    · subst h; simp
    · have h' : ¬ t = kw := fun e => h e.symm
      simp [h, h']
set_option maxRecDepth 100000 in
set_option maxHeartbeats 2000000 in
theorem rcur_Keyword (c : Cur) (kw : ByteArray) (F : Nat → Prop) (g : Nat) (w : World) (h : RCurAt w F g c) :
    Calls Tryz.prog 33 #[.pointer (some ⟨g, 0, none⟩), .string kw] w (RKeyPost w F g (c.keyword kw.data.toList)) := by
  have h1 := rcur_OneOf c _ [kw.data.toList] (fun b => b = w.heap.size) F g _ (h.alloc _) (fresh_one w kw) (fun b hb => ⟨by rw [hb]; simp, by have := h.lt; omega⟩)
  obtain ⟨e1, e2⟩ := oneOf_one c kw.data.toList
  obtain ⟨⟨c1, i⟩, hr⟩ : ∃ r, r = c.oneOf [kw.data.toList] := ⟨_, rfl⟩
  rw [← hr] at h1 e1 e2
  have HE1 := Lib.hid e1
  have HE2 := Lib.hid e2
  have H1 := Lib.hid h1
  clear h h1 e1 e2 hr
  go_enter Tryz.func33, Tryz.ntmps33
  go_wp2_with (go_at_call 70; refine H1.out.mono ?_; rintro e w2 ⟨rfl, hc2, ho2⟩)
  go_ret
  exact ⟨ret_b HE2.out, by rw [← HE1.out]; exact hc2, ((Only.refl g w).alloc _).trans ho2⟩
end Go.Proofs.YtglkejlimeakbaaGreatDoor

namespace Go.Proofs.YtglkejlimeakbaaGreatDoor
section

theorem dec_of {l : List UInt8} (h0 : (bodyD l).isEmpty = false) (h1 : ((bodyD l).head? == some 48 && !(l == [48])) = false) (h2 : (bodyD l).all digB = true) : decB l = true := by unfold decB; rw [h0, h1, h2]; rfl
theorem dec_not {l : List UInt8} (h2 : (bodyD l).all digB = false) : decB l = false := by unfold decB; rw [h2, Bool.and_false]
theorem dec_empty {l : List UInt8} (h0 : (bodyD l).isEmpty = true) : decB l = false := by unfold decB; rw [h0]; simp
theorem dec_zero {l : List UInt8} (h1 : ((bodyD l).head? == some 48 && !(l == [48])) = true) : decB l = false := by unfold decB; rw [h1]; simp
theorem number_form {l : List UInt8} (lo hi : Int) (h : decB l = false) : numberS l lo hi = (0, 4) := by unfold numberS; rw [if_pos h]
theorem number_big {l : List UInt8} {n : Int} {big : Bool} (lo hi : Int) (h0 : (bodyD l).isEmpty = false) (h1 : ((bodyD l).head? == some 48 && !(l == [48])) = false) (h : NumInv (bodyD l) (bodyD l).length n big)
    (hb : big = true ∨ 9223372036854775808 < n ∨ (n = 9223372036854775808 ∧ negB l = false)) : numberS l lo hi = (0, 2) := by
  obtain ⟨a1, a2, a3⟩ := h.fin
  unfold numberS
  rw [if_neg (by rw [dec_of h0 h1 a1]; simp), if_neg ?_]
  intro hf
  have hf1 := hf.1
  unfold fitB valI at hf1
  simp only [Bool.and_eq_true, decide_eq_true_eq] at hf1
  cases hn : negB l
  · rw [hn, if_neg (by simp)] at hf1
    cases big with
    | true => have := a2 rfl; omega
    | false =>
      have := a3 rfl
      rcases hb with hb | hb | hb
      · cases hb
      · omega
      · omega
  · rw [hn, if_pos rfl] at hf1
    cases big with
    | true => have := a2 rfl; omega
    | false =>
      have := a3 rfl
      rcases hb with hb | hb | hb
      · cases hb
      · omega
      · rw [hn] at hb; exact absurd hb.2 (by simp)
theorem number_ok {l : List UInt8} {n v : Int} {big : Bool} (lo hi : Int) (h0 : (bodyD l).isEmpty = false) (h1 : ((bodyD l).head? == some 48 && !(l == [48])) = false) (h : NumInv (bodyD l) (bodyD l).length n big)
    (hb : big = false) (hn : n ≤ 9223372036854775808) (hn2 : negB l = false → n < 9223372036854775808) (hv : v = if negB l = true then -n else n) : numberS l lo hi = if lo ≤ v ∧ v ≤ hi then (v, 0) else (0, 2) := by
  obtain ⟨a1, a2, a3⟩ := h.fin
  have hz := a3 hb
  have hge := h.2.1
  have hvi : valI l = v := by unfold valI; rw [hv, hz]
  have hf : fitB v = true := by
    unfold fitB
    simp only [Bool.and_eq_true, decide_eq_true_eq]
    rw [hv]
    cases hne : negB l
    · rw [if_neg (by simp)]; have := hn2 hne; omega
    · rw [if_pos rfl]; omega
  unfold numberS
  rw [if_neg (by rw [dec_of h0 h1 a1]; simp), hvi, hf]
  simp
/-- The test on a leading zero. -/
theorem zero_eq {l : List UInt8} (h : bodyD l ≠ []) : ((bodyD l).head? == some 48 && (negB l || decide (1 < (bodyD l).length))) = ((bodyD l).head? == some 48 && !(l == [48])) := by
  cases hn : negB l
  · have hb : bodyD l = l := by unfold bodyD; rw [hn, if_neg (by simp)]
    rw [hb] at h ⊢
    match l, h with
    | [a], _ =>
      by_cases ha : a = 48
      · subst ha; rfl
      · simp [ha]
    | a :: b :: r, _ => simp
  · have : (l == [48]) = false := by
      match l, hn with
      | a :: r, hn =>
        unfold negB at hn
        simp at hn
        subst hn
        simp
    rw [this]; rfl
end
open Go.RowKit

theorem isEmptyT' {s : ByteArray} (h : s.size = 0) : s.toList.isEmpty = true := by rw [ByteArray.toList_eq, List.isEmpty_iff, ← List.length_eq_zero_iff]; simpa using h
theorem isEmptyF' {s : ByteArray} (h : s.size ≠ 0) : s.toList.isEmpty = false := by rw [Bool.eq_false_iff]; intro h'; rw [ByteArray.toList_eq, List.isEmpty_iff, ← List.length_eq_zero_iff] at h'; exact h (by simpa using h')
theorem drop_one_bytes (s : ByteArray) : (s.extract 1 s.size).data.toList = s.data.toList.drop 1 := by
  rw [ByteArray.data_extract, Array.toList_extract]
  simp [List.take_of_length_le]
theorem byte_eqn {c : UInt8} {n : Nat} (hn : n < 256) : (((c.toNat : Int) == (n : Int)) = true) ↔ c = UInt8.ofNat n := by
  rw [beq_iff_eq]
  constructor
  · intro h; exact UInt8.toNat_inj.1 (by rw [UInt8.toNat_ofNat_of_lt' hn]; omega)
  · rintro rfl; rw [UInt8.toNat_ofNat_of_lt' hn]
theorem head_data {s : ByteArray} (h : 0 < s.size) : s.data.toList.head? = some s[0] := by
  have hl : 0 < s.data.toList.length := by simpa using h
  rw [List.head?_eq_getElem?, List.getElem?_eq_getElem hl]; rfl
theorem u64_lo (x : Int) : 0 ≤ IntKind.u64.wrap x := by simp [IntKind.wrap, IntKind.bits, IntKind.signed]; omega
theorem u64_hi (x : Int) : IntKind.u64.wrap x < 18446744073709551616 := by simp [IntKind.wrap, IntKind.bits, IntKind.signed]; omega
theorem NumInv.bd {d : List UInt8} {k : Nat} {n : Int} {big : Bool} (h : NumInv d k n big) : 0 ≤ n ∧ n < 18446744073709551616 := ⟨h.2.1, h.2.2.1⟩

set_option maxRecDepth 100000 in
set_option maxHeartbeats 4000000 in
theorem ref_Number_neg (s d : ByteArray) (lo hi : Int) (w : World) (hs : 0 < s.size) (hds : d.size ≤ 9223372036854775807) (hx : s.extract 1 s.size = d) (z : Int × Int) (hz : z = numberS s.data.toList lo hi) (hb : bodyD s.data.toList = d.data.toList) (hn : negB s.data.toList = true)
    (e1 : ((s[0].toNat : Int) == 45) = true) (hd0 : 0 < d.size) (e3 : ((d[0].toNat : Int) == 48) = false) (h0 : (bodyD s.data.toList).isEmpty = false) (h1 : ((bodyD s.data.toList).head? == some 48 && !(s.data.toList == [48])) = false) :
    Calls Tryz.prog 115 #[.string s, .int .i64 lo, .int .i64 hi] w fun e w' => e = .returned (.tuple #[.int .i64 z.1, .int .i64 z.2]) ∧ Below w.heap.size w w' := by
  have HZ := Lib.hid hz
  have HB := Lib.hid hb
  have HN := Lib.hid hn
  have H0 := Lib.hid h0
  have H1 := Lib.hid h1
  have e0 : s.toList.isEmpty = false := isEmptyF' (by omega)
  have e2 : d.toList.isEmpty = false := isEmptyF' (by omega)
  clear hz hb hn h0 h1
  have hl1 : d.size ≤ 9223372036854775807 := hds
  go_enter Tryz.func115, Tryz.ntmps115
  go_wp2
  go_loop [10, 11, 12] (fun nv bv i => ∃ (k : Nat) (n : Int) (big : Bool), k ≤ d.size ∧ i = .int .i64 k ∧ nv = .int .u64 n ∧ bv = .bool big ∧ Hid (NumInv d.data.toList k n big)) (fun _ _ i => d.size - (intOf i).toNat)
  case atStart => exact ⟨0, 0, false, Nat.zero_le _, rfl, rfl, rfl, Lib.hid (NumInv.start _)⟩
  case round =>
    obtain ⟨k, n, big, hk, rfl, rfl, rfl, HI⟩ := hrel
    obtain ⟨hn0, hn1⟩ := HI.out.bd
    by_cases hlt : k < d.size
    · have hkl : k < d.data.toList.length := by simpa using hlt
      have hde : d.data.toList[k] = d[k] := rfl
      have hdb : digB d.data.toList[k] = digB d[k] := rfl
      obtain ⟨c, hc⟩ : ∃ c, c = d[k] := ⟨_, rfl⟩
      cases hd : digB c
      · have HF := Lib.hid (number_form lo hi (dec_not (l := s.data.toList) (by rw [HB.out]; exact NumInv.not_digit hkl (by rw [hde, ← hc]; exact hd))))
        have hdd : ((c.toNat : Int) < 48) ∨ (¬ ((c.toNat : Int) < 48) ∧ (57 < (c.toNat : Int))) := by
          have : ¬ (48 ≤ c.toNat ∧ c.toNat ≤ 57) := fun h => by rw [(digB_iff _).2 h] at hd; cases hd
          omega
        clear hd hde hdb
        rw [hc] at hdd
        clear hc
        rcases hdd with hdd | ⟨hdd, hdd2⟩
        all_goals
          go_wp2
          go_ret2
          exact ⟨by rw [HZ.out, HF.out] <;> rfl, Below.refl _ _⟩
      · have hdd := (digB_iff _).1 hd
        have hc0 : ¬ ((c.toNat : Int) < 48) := by omega
        have hc1 : ¬ (57 < (c.toNat : Int)) := by omega
        rw [hc] at hc0 hc1
        have HD := Lib.hid (show digB d.data.toList[k] = true by rw [hde, ← hc]; exact hd)
        clear hd hdd hde hdb hc
        by_cases hg : 1152921504606846976 < n
        · go_wp2
          go_round
          case rel => exact ⟨k + 1, _, _, by omega, by go_num, rfl, rfl, Lib.hid (HI.out.next hkl HD.out (u64_lo _) (u64_hi _) (by simp [hg]) (fun h => absurd h (by omega)))⟩
          case measure => simp [intOf]; omega
        · go_wp2
          go_round
          case rel => exact ⟨k + 1, _, _, by omega, by go_num, rfl, rfl, Lib.hid (HI.out.next hkl HD.out (by omega) (by have := UInt8.toNat_lt d[k]; omega) (by simp [hg]) (fun _ => rfl))⟩
          case measure => simp [intOf]; omega
    · obtain rfl : k = d.size := by omega
      have HIN := Lib.hid (show NumInv (bodyD s.data.toList) (bodyD s.data.toList).length n big by rw [HB.out, show d.data.toList.length = d.size by simp]; exact HI.out)
      clear hlt hk
      cases big
      · by_cases h63 : 9223372036854775808 < n
        · have HF := Lib.hid (number_big lo hi H0.out H1.out HIN.out (.inr (.inl h63)))
          go_wp2
          go_ret2
          exact ⟨by rw [HZ.out, HF.out] <;> rfl, Below.refl _ _⟩
        · have hle : n ≤ 9223372036854775808 := by omega
          obtain ⟨v, hv⟩ : ∃ v : Int, v = -n := ⟨_, rfl⟩
          have HF := Lib.hid (number_ok lo hi H0.out H1.out HIN.out rfl hle (fun h => by rw [HN.out] at h; cases h) (v := v) (by rw [HN.out, if_pos rfl]; exact hv))
          have w1 : ∃ u : Int, IntKind.i64.wrap n = u ∧ IntKind.i64.wrap (-u) = v := by
            refine ⟨_, rfl, ?_⟩
            subst hv
            by_cases he : n = 9223372036854775808
            · subst he; decide
            · rw [IntWalk.i64_in n (by omega), IntWalk.i64_in _ (by omega)]
          obtain ⟨u, hu, huv⟩ := w1
          clear hv
          rcases (show (n == (9223372036854775808 : Int)) = true ∨ (n == (9223372036854775808 : Int)) = false by cases (n == (9223372036854775808 : Int)) <;> simp) with e9 | e9
          all_goals
            by_cases hlo : v < lo
            · go_wp2
              go_ret2
              exact ⟨by rw [HZ.out, HF.out, if_neg (by omega)] <;> rfl, Below.refl _ _⟩
            · by_cases hhi : hi < v
              · go_wp2
                go_ret2
                exact ⟨by rw [HZ.out, HF.out, if_neg (by omega)] <;> rfl, Below.refl _ _⟩
              · go_wp2
                go_ret2
                exact ⟨by rw [HZ.out, HF.out, if_pos (by omega)] <;> rfl, Below.refl _ _⟩
      · have HF := Lib.hid (number_big lo hi H0.out H1.out HIN.out (.inl rfl))
        go_wp2
        go_ret2
        exact ⟨by rw [HZ.out, HF.out] <;> rfl, Below.refl _ _⟩

set_option maxRecDepth 100000 in
set_option maxHeartbeats 4000000 in
theorem ref_Number_pos (s d : ByteArray) (hsd : s = d) (lo hi : Int) (w : World) (hds : d.size ≤ 9223372036854775807) (z : Int × Int) (hz : z = numberS d.data.toList lo hi) (hn : negB d.data.toList = false) (hd0 : 0 < d.size)
    (e1 : ((d[0].toNat : Int) == 45) = false) (e3 : ((d[0].toNat : Int) == 48) = false ∨ (((d[0].toNat : Int) == 48) = true ∧ d.size = 1)) (h0 : (bodyD s.data.toList).isEmpty = false) (h1 : ((bodyD s.data.toList).head? == some 48 && !(s.data.toList == [48])) = false) :
    Calls Tryz.prog 115 #[.string d, .int .i64 lo, .int .i64 hi] w fun e w' => e = .returned (.tuple #[.int .i64 z.1, .int .i64 z.2]) ∧ Below w.heap.size w w' := by
  have HB := Lib.hid (show bodyD s.data.toList = d.data.toList by rw [hsd]; unfold bodyD; rw [hn, if_neg (by simp)])
  have HN := Lib.hid (show negB s.data.toList = false by rw [hsd]; exact hn)
  have HZ := Lib.hid (show z = numberS s.data.toList lo hi by rw [hsd]; exact hz)
  have H0 := Lib.hid h0
  have H1 := Lib.hid h1
  clear hz hn h0 h1
  have e0 : d.toList.isEmpty = false := isEmptyF' (by omega)
  rcases e3 with e3 | ⟨e3, e4⟩
  all_goals (try have e4' : d.size ≤ 1 := by omega); (try clear e4)
  all_goals
    have hl1 : d.size ≤ 9223372036854775807 := hds
    go_enter Tryz.func115, Tryz.ntmps115
    go_wp2
    go_loop [10, 11, 12] (fun nv bv i => ∃ (k : Nat) (n : Int) (big : Bool), k ≤ d.size ∧ i = .int .i64 k ∧ nv = .int .u64 n ∧ bv = .bool big ∧ Hid (NumInv d.data.toList k n big)) (fun _ _ i => d.size - (intOf i).toNat)
    case atStart => exact ⟨0, 0, false, Nat.zero_le _, rfl, rfl, rfl, Lib.hid (NumInv.start _)⟩
    case round =>
      obtain ⟨k, n, big, hk, rfl, rfl, rfl, HI⟩ := hrel
      obtain ⟨hn0, hn1⟩ := HI.out.bd
      by_cases hlt : k < d.size
      · have hkl : k < d.data.toList.length := by simpa using hlt
        have hde : d.data.toList[k] = d[k] := rfl
        have hdb : digB d.data.toList[k] = digB d[k] := rfl
        obtain ⟨c, hc⟩ : ∃ c, c = d[k] := ⟨_, rfl⟩
        cases hd : digB c
        · have HF := Lib.hid (number_form lo hi (dec_not (l := s.data.toList) (by rw [HB.out]; exact NumInv.not_digit hkl (by rw [hde, ← hc]; exact hd))))
          have hdd : ((c.toNat : Int) < 48) ∨ (¬ ((c.toNat : Int) < 48) ∧ (57 < (c.toNat : Int))) := by
            have : ¬ (48 ≤ c.toNat ∧ c.toNat ≤ 57) := fun h => by rw [(digB_iff _).2 h] at hd; cases hd
            omega
          clear hd hde hdb
          rw [hc] at hdd
          clear hc
          rcases hdd with hdd | ⟨hdd, hdd2⟩
          all_goals
            go_wp2
            go_ret2
            exact ⟨by rw [HZ.out, HF.out] <;> rfl, Below.refl _ _⟩
        · have hdd := (digB_iff _).1 hd
          have hc0 : ¬ ((c.toNat : Int) < 48) := by omega
          have hc1 : ¬ (57 < (c.toNat : Int)) := by omega
          rw [hc] at hc0 hc1
          have HD := Lib.hid (show digB d.data.toList[k] = true by rw [hde, ← hc]; exact hd)
          clear hd hdd hde hdb hc
          by_cases hg : 1152921504606846976 < n
          · go_wp2
            go_round
            case rel => exact ⟨k + 1, _, _, by omega, by go_num, rfl, rfl, Lib.hid (HI.out.next hkl HD.out (u64_lo _) (u64_hi _) (by simp [hg]) (fun h => absurd h (by omega)))⟩
            case measure => simp [intOf]; omega
          · go_wp2
            go_round
            case rel => exact ⟨k + 1, _, _, by omega, by go_num, rfl, rfl, Lib.hid (HI.out.next hkl HD.out (by omega) (by have := UInt8.toNat_lt d[k]; omega) (by simp [hg]) (fun _ => rfl))⟩
            case measure => simp [intOf]; omega
      · obtain rfl : k = d.size := by omega
        have HIN := Lib.hid (show NumInv (bodyD s.data.toList) (bodyD s.data.toList).length n big by rw [HB.out, show d.data.toList.length = d.size by simp]; exact HI.out)
        clear hlt hk
        cases big
        · by_cases h63 : 9223372036854775808 < n
          · have HF := Lib.hid (number_big lo hi H0.out H1.out HIN.out (.inr (.inl h63)))
            go_wp2
            go_ret2
            exact ⟨by rw [HZ.out, HF.out] <;> rfl, Below.refl _ _⟩
          · have hle : n ≤ 9223372036854775808 := by omega
            by_cases he : n = 9223372036854775808
            · have HF := Lib.hid (number_big lo hi H0.out H1.out HIN.out (.inr (.inr ⟨he, HN.out⟩)))
              have e9 : (n == 9223372036854775808) = true := by rw [he]; rfl
              clear he
              go_wp2
              go_ret2
              exact ⟨by rw [HZ.out, HF.out] <;> rfl, Below.refl _ _⟩
            · have hlt : n < 9223372036854775808 := by omega
              have e9 : (n == 9223372036854775808) = false := beq_eq_false_iff_ne.2 he
              have HF := Lib.hid (number_ok lo hi H0.out H1.out HIN.out rfl hle (fun _ => hlt) (v := n) (by rw [HN.out, if_neg (by simp)]))
              clear he
              by_cases hlo : n < lo
              · go_wp2
                go_ret2
                exact ⟨by rw [HZ.out, HF.out, if_neg (by omega)] <;> rfl, Below.refl _ _⟩
              · by_cases hhi : hi < n
                · go_wp2
                  go_ret2
                  exact ⟨by rw [HZ.out, HF.out, if_neg (by omega)] <;> rfl, Below.refl _ _⟩
                · go_wp2
                  go_ret2
                  exact ⟨by rw [HZ.out, HF.out, if_pos (by omega)] <;> rfl, Below.refl _ _⟩
        · have HF := Lib.hid (number_big lo hi H0.out H1.out HIN.out (.inl rfl))
          go_wp2
          go_ret2
          exact ⟨by rw [HZ.out, HF.out] <;> rfl, Below.refl _ _⟩

set_option maxRecDepth 100000 in
set_option maxHeartbeats 1000000 in
theorem ref_Number_empty (s : ByteArray) (lo hi : Int) (w : World) (hs : s.size = 0) (z : Int × Int) (hz : z = numberS s.data.toList lo hi) :
    Calls Tryz.prog 115 #[.string s, .int .i64 lo, .int .i64 hi] w fun e w' => e = .returned (.tuple #[.int .i64 z.1, .int .i64 z.2]) ∧ Below w.heap.size w w' := by
  have e0 : s.toList.isEmpty = true := isEmptyT' hs
  have HZ := Lib.hid (show z = (0, 4) by
    rw [hz, number_form lo hi (dec_empty ?_)]
    have : s.data.toList = [] := List.eq_nil_of_length_eq_zero (by simpa using hs)
    rw [this]; rfl)
  clear hz hs
  go_enter Tryz.func115, Tryz.ntmps115
  go_wp2
  go_ret2
  exact ⟨by rw [HZ.out] <;> rfl, Below.refl _ _⟩
set_option maxRecDepth 100000 in
set_option maxHeartbeats 1000000 in
theorem ref_Number_zpos (s : ByteArray) (lo hi : Int) (w : World) (hs : 0 < s.size) (z : Int × Int) (hz : z = (0, 4)) (e1 : ((s[0].toNat : Int) == 45) = false) (e3 : ((s[0].toNat : Int) == 48) = true) (h2 : 1 < s.size) :
    Calls Tryz.prog 115 #[.string s, .int .i64 lo, .int .i64 hi] w fun e w' => e = .returned (.tuple #[.int .i64 z.1, .int .i64 z.2]) ∧ Below w.heap.size w w' := by
  have e0 : s.toList.isEmpty = false := isEmptyF' (by omega)
  have HZ := Lib.hid hz
  clear hz
  go_enter Tryz.func115, Tryz.ntmps115
  go_wp2
  go_ret2
  exact ⟨by rw [HZ.out] <;> rfl, Below.refl _ _⟩
set_option maxRecDepth 100000 in
set_option maxHeartbeats 1000000 in
theorem ref_Number_zneg0 (s d : ByteArray) (lo hi : Int) (w : World) (hs : 0 < s.size) (hx : s.extract 1 s.size = d) (z : Int × Int) (hz : z = (0, 4)) (e1 : ((s[0].toNat : Int) == 45) = true) (hd : d.size = 0) :
    Calls Tryz.prog 115 #[.string s, .int .i64 lo, .int .i64 hi] w fun e w' => e = .returned (.tuple #[.int .i64 z.1, .int .i64 z.2]) ∧ Below w.heap.size w w' := by
  have e0 : s.toList.isEmpty = false := isEmptyF' (by omega)
  have e2 : d.toList.isEmpty = true := isEmptyT' hd
  have HZ := Lib.hid hz
  clear hz hd
  go_enter Tryz.func115, Tryz.ntmps115
  go_wp2
  go_ret2
  exact ⟨by rw [HZ.out] <;> rfl, Below.refl _ _⟩
set_option maxRecDepth 100000 in
set_option maxHeartbeats 1000000 in
theorem ref_Number_zneg (s d : ByteArray) (lo hi : Int) (w : World) (hs : 0 < s.size) (hx : s.extract 1 s.size = d) (z : Int × Int) (hz : z = (0, 4)) (e1 : ((s[0].toNat : Int) == 45) = true) (hd : 0 < d.size) (e3 : ((d[0].toNat : Int) == 48) = true) :
    Calls Tryz.prog 115 #[.string s, .int .i64 lo, .int .i64 hi] w fun e w' => e = .returned (.tuple #[.int .i64 z.1, .int .i64 z.2]) ∧ Below w.heap.size w w' := by
  have e0 : s.toList.isEmpty = false := isEmptyF' (by omega)
  have e2 : d.toList.isEmpty = false := isEmptyF' (by omega)
  have HZ := Lib.hid hz
  clear hz
  go_enter Tryz.func115, Tryz.ntmps115
  go_wp2
  go_ret2
  exact ⟨by rw [HZ.out] <;> rfl, Below.refl _ _⟩
theorem ref_Number (s : ByteArray) (lo hi : Int) (w : World) (hs : s.size ≤ maxLen) :
    Calls Tryz.prog 115 #[.string s, .int .i64 lo, .int .i64 hi] w fun e w' => e = .returned (.tuple #[.int .i64 (numberS s.data.toList lo hi).1, .int .i64 (numberS s.data.toList lo hi).2]) ∧ Below w.heap.size w w' := by
  unfold maxLen at hs
  obtain ⟨z, hz⟩ : ∃ z, z = numberS s.data.toList lo hi := ⟨_, rfl⟩
  rw [← hz]
  have hsl : s.data.toList.length = s.size := by simp
  by_cases hs0 : s.size = 0
  · exact ref_Number_empty s lo hi w hs0 z hz
  · have hs1 : 0 < s.size := Nat.pos_of_ne_zero hs0
    have hh := head_data hs1
    cases hn : negB s.data.toList
    · have hbd : bodyD s.data.toList = s.data.toList := by unfold bodyD; rw [if_neg (by simp [hn])]
      have e1 : ((s[0].toNat : Int) == 45) = false := by
        rw [Bool.eq_false_iff]; intro h
        have h' : ((s[0].toNat : Int) == ((45 : Nat) : Int)) = true := h
        rw [byte_eqn (by omega)] at h'
        unfold negB at hn; rw [hh, h'] at hn; simp at hn
      have h0 : (bodyD s.data.toList).isEmpty = false := by rw [hbd, Bool.eq_false_iff]; intro h; rw [List.isEmpty_iff] at h; rw [h] at hsl; simp at hsl; omega
      have hz2 := zero_eq (l := s.data.toList) (by intro h; rw [h] at h0; simp at h0)
      rw [hbd, hn, Bool.false_or] at hz2
      cases h1 : ((bodyD s.data.toList).head? == some 48 && !(s.data.toList == [48]))
      · rw [hbd] at h1
        rw [h1, hh] at hz2
        refine ref_Number_pos s s rfl lo hi w hs z hz hn hs1 e1 ?_ h0 (by rw [hbd]; exact h1)
        rcases (show ((s[0].toNat : Int) == 48) = true ∨ ((s[0].toNat : Int) == 48) = false by cases ((s[0].toNat : Int) == 48) <;> simp) with e | e
        · have e' : ((s[0].toNat : Int) == ((48 : Nat) : Int)) = true := e
          rw [byte_eqn (by omega)] at e'
          rw [e', hsl] at hz2
          simp at hz2
          exact .inr ⟨e, by omega⟩
        · exact .inl e
      · have hz3 : z = (0, 4) := by rw [hz, number_form lo hi (dec_zero h1)]
        rw [hbd] at h1
        rw [h1, hh, hsl] at hz2
        simp at hz2
        exact ref_Number_zpos s lo hi w hs1 z hz3 e1 (by rw [hz2.1]; rfl) (by omega)
    · have hbd : bodyD s.data.toList = s.data.toList.drop 1 := by unfold bodyD; rw [if_pos hn]
      have e1 : ((s[0].toNat : Int) == 45) = true := by
        unfold negB at hn; rw [hh] at hn; simp at hn; rw [hn]; rfl
      obtain ⟨d, hx⟩ : ∃ d, s.extract 1 s.size = d := ⟨_, rfl⟩
      have hb : bodyD s.data.toList = d.data.toList := by rw [hbd, ← hx, drop_one_bytes]
      have hdl : d.data.toList.length = d.size := by simp
      have hds : d.size ≤ s.size := by rw [← hdl, ← hb, hbd, ← hsl]; simp
      by_cases hd0 : d.size = 0
      · have : d.data.toList = [] := List.eq_nil_of_length_eq_zero (by omega)
        exact ref_Number_zneg0 s d lo hi w hs1 hx z (by rw [hz, number_form lo hi (dec_empty (by rw [hb, this]; rfl))]) e1 hd0
      · have hd1 : 0 < d.size := Nat.pos_of_ne_zero hd0
        have hhd := head_data hd1
        have h0 : (bodyD s.data.toList).isEmpty = false := by rw [hb, Bool.eq_false_iff]; intro h; rw [List.isEmpty_iff] at h; rw [h] at hdl; simp at hdl; omega
        have hz2 := zero_eq (l := s.data.toList) (by intro h; rw [h] at h0; simp at h0)
        rw [hn, Bool.true_or, Bool.and_true, hb, hhd] at hz2
        rcases (show ((d[0].toNat : Int) == 48) = true ∨ ((d[0].toNat : Int) == 48) = false by cases ((d[0].toNat : Int) == 48) <;> simp) with e | e
        · have e' : ((d[0].toNat : Int) == ((48 : Nat) : Int)) = true := e
          rw [byte_eqn (by omega)] at e'
          have h1 : ((bodyD s.data.toList).head? == some 48 && !(s.data.toList == [48])) = true := by rw [hb, hhd, ← hz2, e']; simp
          exact ref_Number_zneg s d lo hi w hs1 hx z (by rw [hz, number_form lo hi (dec_zero h1)]) e1 hd1 e
        · have e' : ¬ (d[0] = 48) := fun h => by rw [h] at e; cases e
          have h1 : ((bodyD s.data.toList).head? == some 48 && !(s.data.toList == [48])) = false := by rw [hb, hhd, ← hz2]; simp [e']
          exact ref_Number_neg s d lo hi w hs1 (by omega) hx z hz hb hn e1 hd1 e h0 h1
end Go.Proofs.YtglkejlimeakbaaGreatDoor

namespace Go.Proofs.YtglkejlimeakbaaGreatDoor
open Go.RowKit

set_option maxRecDepth 100000 in
set_option maxHeartbeats 2000000 in
theorem rcur_Int (c : Cur) (lo hi : Int) (F : Nat → Prop) (g : Nat) (w : World) (h : RCurAt w F g c) (hlen : ∀ f ∈ c.fields, f.text.length ≤ 1000000000) :
    Calls Tryz.prog 71 #[.pointer (some ⟨g, 0, none⟩), .int .i64 lo, .int .i64 hi] w (RIntCur w F g (c.int lo hi)) := by
  obtain ⟨q, hq⟩ : ∃ q, q = c.int lo hi := ⟨_, rfl⟩
  rw [← hq]
  unfold Cur.int at hq
  have htl := Cur.read_text c false hlen
  obtain ⟨⟨c', t, ok⟩, hr⟩ : ∃ r, r = c.read false := ⟨_, rfl⟩
  rw [← hr] at hq htl
  dsimp only at htl hq
  cases ok
  · have hrd := rcur_next_none h hr
    rw [if_neg (by simp)] at hq
    have HQ := Lib.hid hq
    have HRD := Lib.hid hrd
    clear hrd hr hq h hlen
    go_enter Tryz.func71, Tryz.ntmps71
    go_wp2_with (go_at_call 113; refine HRD.out.mono ?_; rintro e w2 ⟨rfl, hc2, ho2⟩)
    go_ret
    rw [HQ.out]
    exact ⟨rfl, hc2.alloc _, ho2.alloc _⟩
  · have hrd := rcur_next_some h hr
    have he0 := read_err hr
    rw [if_pos rfl] at hq
    have kn0 : ∀ W, Calls Tryz.prog 115 #[.string (S t), .int .i64 lo, .int .i64 hi] W fun e W' => e = .returned (.tuple #[.int .i64 (numberS t lo hi).1, .int .i64 (numberS t lo hi).2]) ∧ Below W.heap.size W W' := fun W => by
      have := ref_Number (S t) lo hi W (by simp only [S_size, maxLen]; omega)
      rw [S_data] at this
      exact this
    obtain ⟨⟨v, er⟩, hv⟩ : ∃ z, z = numberS t lo hi := ⟨_, rfl⟩
    rw [← hv] at hq kn0
    have KN := Lib.hid kn0
    have HRD := Lib.hid hrd
    have HE := Lib.hid he0
    dsimp only at hq
    clear hrd hr h hlen hv kn0 htl he0
    by_cases hz : er = 0
    · have e1 : (er != 0) = false := by rw [hz]; rfl
      rw [if_pos hz] at hq
      have HQ := Lib.hid hq
      clear hq hz
      go_enter Tryz.func71, Tryz.ntmps71
      go_wp2_with (first
        | (go_at_call 113; refine HRD.out.mono ?_; rintro e w2 ⟨rfl, hc2, ho2⟩; have HC2 := Lib.hid (hc2.alloc (.cells #[.string (S t), .int .i64 c'.last, .bool false] 87)); have HO2 := Lib.hid (ho2.alloc (.cells #[.string (S t), .int .i64 c'.last, .bool false] 87)); clear hc2 ho2)
        | (go_at_call 115; refine (KN.out _).mono ?_; rintro e w3 ⟨rfl, hb3⟩; have HC3 := Lib.hid (HC2.out.below hb3); have HO3 := Lib.hid (HO2.out.trans (Only.of_below hb3)); clear hb3))
      go_ret
      rw [HQ.out]
      exact ⟨rfl, HC3.out, HO3.out⟩
    · have e1 : (er != 0) = true := by rw [bne_iff_ne]; exact hz
      rw [if_neg hz] at hq
      have HQ := Lib.hid hq
      clear hq hz
      go_enter Tryz.func71, Tryz.ntmps71
      go_wp2_with (first
        | (go_at_call 113; refine HRD.out.mono ?_; rintro e w2 ⟨rfl, hc2, ho2⟩; have hk2 := Blk.new w2 87 #[.string (S t), .int .i64 c'.last, .bool false]; have HK2 := Lib.hid hk2; have HC2 := Lib.hid (hc2.alloc (.cells #[.string (S t), .int .i64 c'.last, .bool false] 87)); have HO2 := Lib.hid (ho2.alloc (.cells #[.string (S t), .int .i64 c'.last, .bool false] 87)); clear hc2 ho2 hk2)
        | (go_at_call 115; refine (KN.out _).mono ?_; rintro e w3 ⟨rfl, hb3⟩; have hk3 := HK2.out.below hb3 HK2.out.lt; obtain ⟨_, y1, _⟩ := hk3.three; clear hk3; have HC3 := Lib.hid (HC2.out.below hb3); have HO3 := Lib.hid (HO2.out.trans (Only.of_below hb3)); clear hb3)
        | (go_at_call 114; refine (rcur_fail c' er c'.last F g _ HC3.out HE.out).mono ?_; rintro e w4 ⟨rfl, hc4, ho4⟩))
      go_ret
      rw [HQ.out]
      exact ⟨rfl, hc4, HO3.out.trans ho4⟩
end Go.Proofs.YtglkejlimeakbaaGreatDoor

namespace Go.Proofs.YtglkejlimeakbaaGreatDoor
open Go.RowKit

/-- append of a whole slice onto an empty row just made. -/
theorem step_append_all {P : Program} {ops : Array Oper} {o : Oper} {a : Act} {w : World} {K : Act → World → Prop} {Q : Exit → Act → World → Prop} {E : Prop} (hgd : o.guard = none) (s x : Operand) (t : TypeId)
    (ho : o.op = .call { callee := .builtin .append, args := #[s, x], argTypes := #[t, t] })
    {e : TypeId} {size bytes : Nat} (hE : ElemOf P t e size bytes) {α : Type} {R : World → (Nat → Prop) → List Value → α → Prop} (hR : Good R)
    (base : Nat) (ad0 : Addr) (l' : List α) (hs : a.eval s = .slice (some ad0) 0 0) (hown : OwnG size R e base w (.slice (some ad0) 0 0) NoG [])
    (F : Nat → Prop) (A : Option Addr) (n c : Nat) (hx : a.eval x = .slice A n c) (hsl : Sl size R w F (.slice A n c) l')
    (hRF : ∀ w G G' cs x, R w G cs x → R w G' cs x)
    (h1 : ∀ w F cs x, R w F cs x → ∀ u ∈ cs, u.oneCell' = true)
    (h63 : l'.length ≤ maxLen) (hbytes : l'.length * bytes ≤ 140737488355328) (hbase : base ≤ w.heap.size)
    (h : ∀ A' c' w', Sl size R w' (fun b => base ≤ b ∧ b < w'.heap.size) (.slice A' n c') l' → Below base w w' → K (a.put o.dst (.slice A' n c')) w') :
    if Region.wanted o (yielded ops a.tmps) = true then Oper.wp P o a w K Q else E := by
  have hw : Region.wanted o (yielded ops a.tmps) = true := by simp [Region.wanted, hgd]
  rw [if_pos hw]
  have hown0 := hown
  obtain ⟨i, z, e1, e2, e3, e4, e5, e6, e7⟩ := hE
  obtain ⟨A', c', hv, hlc, hcm, hA⟩ := hsl
  injection hv with hv1 hv2 hv3
  subst hv2; subst hv3
  by_cases h0 : 0 < l'.length
  · obtain ⟨b, o', hab, hFb, _⟩ := hA h0
    obtain ⟨css', hl', hsz', hcell', hel''⟩ := Sl.rows (l := l') (b := b) (o := o') (n := l'.length) (c := c) ⟨A', c, by rw [← hab], hlc, hcm, hA⟩ e7
    rw [hv1, hab] at hx
    obtain ⟨css, hlen, ho', hsz, hel'⟩ := hown
    have hcss : css = [] := List.eq_nil_of_length_eq_zero (by simpa using hlen)
    subst hcss
    obtain ⟨v', w', hr, h2, h3, _, h4⟩ := run_append_own_at (P := P) w base t o.type e i z size bytes e1 e2 e3 e4 e5 e6 e7 (.slice (some ad0) 0 0) 0 [] ho' ⟨b, o', none⟩ l'.length c css'.flatten (by rw [flat_len hsz', hl'])
      (fun j u hu => by rw [show (⟨b, o', none⟩ : Addr).add j = ⟨b, o' + j, none⟩ from Addr.add_lit b o' j]; exact hcell' j u hu) (fun u hu => by
        obtain ⟨cs, hc, hu'⟩ := List.mem_flatten.1 hu
        obtain ⟨k, hk⟩ := List.mem_iff_getElem?.1 hc
        have hil : k < l'.length := by have := (List.getElem?_eq_some_iff.1 hk).1; omega
        exact h1 w F cs _ (hel'' k l'[k] cs (List.getElem?_eq_getElem hil) hk) u hu') (by omega) (by simpa using hbytes) hbase
    have hnew : OwnSl size R e base w' v' l' := by
      refine ⟨css', hl', by simpa using h2, hsz', fun k x cs hk hc => ?_⟩
      exact hR.keep (G := NoG) (hRF _ F NoG _ _ (hel'' k x cs hk hc)) (fun _ h => h.elim) fun _ h => h
    have hsl' := hnew.sl hR
    obtain ⟨A2, c2, hv2, _⟩ := hsl'.shape
    subst hv2
    unfold Oper.wp execOp
    simp only [ho, resolve, invoke, builtin, Sem.run_bind, Sem.run_pure, Result.andThen_ok, List.map_toArray, List.map_cons, List.map_nil, hs, hx, hr]
    exact h _ _ _ hsl' (below_own (Below.refl base w) hown0 h3 (Nat.le_refl _) hbase)
  · have hn : l' = [] := List.eq_nil_of_length_eq_zero (by omega)
    subst hn
    have hr : (Builtin.append_ #[t, t] o.type #[.slice (some ad0) 0 0, .slice A 0 c]).run P w = .ok (.slice (some ad0) 0 0) w := by
      cases A with
      | none => exact run_append_nothing w t t o.type e i e1 e2 (some ad0) 0 0 (Nat.le_refl _) _ (Src.ofNil w e1 c)
      | some ad => exact run_append_nothing w t t o.type e i e1 e2 (some ad0) 0 0 (Nat.le_refl _) _ (Src.ofSlice w e1 ad 0 c [] (by simp) (by simp) (by simp))
    simp only [List.length_nil] at hx h hr ⊢
    unfold Oper.wp execOp
    simp only [ho, resolve, invoke, builtin, Sem.run_bind, Sem.run_pure, Result.andThen_ok, List.map_toArray, List.map_cons, List.map_nil, hs, hx, hr]
    exact h (some ad0) 0 w ⟨some ad0, 0, rfl, Nat.le_refl _, by decide, fun h => absurd h (by simp)⟩ (Below.refl _ _)
@[go_sem] theorem build_rcur (x : Int) (A : Option Addr) (n c : Nat) (w : World) : (Instr.build 110 #[(0, .agg #[.int .i64 x, .slice A n c])]).run Tryz.prog w = .ok (.agg #[.int .i64 x, .slice A n c, .int .i64 0, .int .i64 0, .int .i64 0]) w := run_build w 110 _ _ (by kernel_rfl)
theorem elFld_F : ∀ w (G G' : Nat → Prop) cs x, elFld w G cs x → elFld w G' cs x := fun _ _ _ _ _ h => h
def RAtPost (w : World) (x : Lin) (e : Ending) (w' : World) : Prop :=
  ∃ g, e = .returned (.pointer (some ⟨g, 0, none⟩)) ∧ w.heap.size ≤ g ∧ RCurAt w' (fun b => w.heap.size ≤ b ∧ b < w'.heap.size ∧ b ≠ g) g (Cur.start x) ∧ Below w.heap.size w w'
set_option maxRecDepth 100000 in
set_option maxHeartbeats 2000000 in
theorem ref_At (x : Lin) (v : Value) (F : Nat → Prop) (w : World) (h : Sl 3 elFld w F v x.fields) (hF : ∀ b, F b → b < w.heap.size) (hl : x.fields.length ≤ 1000000000) :
    Calls Tryz.prog 32 #[.agg #[.int .i64 x.num, v]] w (RAtPost w x) := by
  obtain ⟨A, c, rfl, hc, hc'⟩ := h.shape
  have hb0 := Blk.new w 56 #[.int .i64 x.num, .slice A x.fields.length c]
  obtain ⟨wp, hwp⟩ : ∃ y, y = w.alloc (.cells #[.int .i64 x.num, .slice A x.fields.length c] 56) := ⟨_, rfl⟩
  have hz : wp.heap.size = w.heap.size + 1 := by rw [hwp]; simp
  have hown : OwnG 3 elFld 87 (w.heap.size + 1) (wp.alloc (.cells #[] 87)).drew (.slice (some ⟨w.heap.size + 1, 0, none⟩) 0 0) NoG [] := by
    have := World.ownsRow_made (base := w.heap.size + 1) (e := 87) (size := 3) wp #[] 0 (by omega) (by decide) rfl
    rw [hz] at this
    exact ⟨[], rfl, this, by simp, by simp⟩
  have hb1 : Below w.heap.size w wp := by rw [hwp]; exact Below.alloc (Below.refl _ _) (Nat.le_refl _) _
  have hb2 : Below w.heap.size w (wp.alloc (.cells #[] 87)).drew := Below.drew (Below.alloc hb1 (by omega) _)
  have hsl : Sl 3 elFld (wp.alloc (.cells #[] 87)).drew F (.slice A x.fields.length c) x.fields := h.keep elFld_good (Same.below hb2 hF) fun _ h => h
  have hzz : w.heap.size + 1 ≤ (wp.alloc (.cells #[] 87)).drew.heap.size := by simp; omega
  have hbk : Blk (wp.alloc (.cells #[] 87)).drew w.heap.size 56 #[.int .i64 x.num, .slice A x.fields.length c] := by rw [hwp]; exact (hb0.alloc _).drew
  rw [hwp] at hown hsl hb2 hzz hbk
  have HBK := Lib.hid hbk
  have HO := Lib.hid hown
  have HS := Lib.hid hsl
  have HB := Lib.hid hb2
  have HZ := Lib.hid hzz
  have h63 : x.fields.length ≤ maxLen := by simp only [maxLen]; omega
  have h64 := hl
  clear h hb0 hF hown hsl hb1 hb2 hz hwp hzz hbk
  go_enter Tryz.func32, Tryz.ntmps32
  go_wp2
  go_region_law (refine step_append_all rfl (.tmp 5) (.tmp 7) _ rfl E_fld elFld_good (w.heap.size + 1) ⟨w.heap.size + 1, 0, none⟩ x.fields rfl HO.out F A x.fields.length c rfl HS.out elFld_F elFld_one h63 (by omega) HZ.out ?_; intro A1 c1 w1 hs1 hb1; have hblk : Blk w1 w.heap.size 56 #[.int .i64 x.num, .slice A x.fields.length c] := (hb1.block _ (by omega)).trans HBK.out; have k0 := hblk.cell 0; have k1 := hblk.cell 1; simp only [List.getElem?_toArray, List.getElem?_cons_zero, List.getElem?_cons_succ] at k0 k1; have HS1 := Lib.hid hs1; have HB1 := Lib.hid hb1; clear hs1 hb1 hblk)
  all_goals
    go_wp2_with fail
    obtain ⟨W2, hW2⟩ : ∃ W, W = w1.alloc (.cells #[.int .i64 x.num, .slice A1 x.fields.length c1, .int .i64 0, .int .i64 0, .int .i64 0] 110) := ⟨_, rfl⟩
    rw [← hW2]
    have hz1 := HB1.out.size
    have hz0 := HZ.out
    have hz2 : W2.heap.size = w1.heap.size + 1 := by rw [hW2]; simp
    have hbl : Below w.heap.size w W2 := by rw [hW2]; exact (HB.out.trans (HB1.out.mono (by omega))).alloc (by omega) _
    have hsm : Sl 3 elFld W2 (fun b => w.heap.size ≤ b ∧ b < W2.heap.size ∧ b ≠ w1.heap.size) (.slice A1 x.fields.length c1) x.fields := by
      rw [hW2]
      exact HS1.out.keep elFld_good (fun b hb => Below.heap_alloc w1 _ b hb.2) fun b hb => ⟨by omega, by simp; omega, by omega⟩
    have hblk : Blk W2 w1.heap.size 110 (rcurCells (Cur.start x) (.slice A1 x.fields.length c1)) := by rw [hW2]; exact Blk.new w1 _ _
    refine bodyPost_ret (v := .pointer (some ⟨w1.heap.size, 0, none⟩)) (by simp [results, Tryz.results32, go_sem]) rfl ⟨_, rfl, by omega, ⟨Nat.zero_le _, ⟨_, hblk, hsm⟩, fun b hb => ⟨hb.2.1, hb.2.2⟩, rfl⟩, hbl⟩
end Go.Proofs.YtglkejlimeakbaaGreatDoor

namespace Go.Proofs.YtglkejlimeakbaaGreatDoor
open Go.RowKit

theorem RCurAt.farR {w : World} {F : Nat → Prop} {g k : Nat} {c : Cur} (h : RCurAt w F g c) (hk : k ≠ g) (hF : ¬ F k) (p : Addr) (hp : p.block = k) (u : Value) : RCurAt (w.setCell p u) F g c :=
  h.keep (G := F) (fun b hb => Below.heap_setCell w p u b (by rintro rfl; rw [hp] at hb; exact hF hb)) (Below.heap_setCell w p u g (by rw [hp]; exact fun e => hk e.symm)) (by simp [World.setCell])
theorem rcur_number (c : Cur) (F : Nat → Prop) (g : Nat) (w : World) (h : RCurAt w F g c) (hlen : ∀ f ∈ c.fields, f.text.length ≤ 1000000000) :
    Calls Tryz.prog 34 #[.pointer (some ⟨g, 0, none⟩)] w (RIntCur w F g c.n) := by
  have k1 := rcur_Int c 0 10000 F g w h hlen
  have K1 : Hid (Calls Tryz.prog 71 #[.pointer (some ⟨g, 0, none⟩), .int .i64 0, .int .i64 10000] w (RIntCur w F g c.n)) := Lib.hid k1
  obtain ⟨x, hx⟩ : ∃ x, x = c.n := ⟨_, rfl⟩
  rw [← hx] at K1 ⊢
  obtain ⟨c', v⟩ := x
  clear h hlen k1 hx
  go_enter Tryz.func34, Tryz.ntmps34
  go_wp2_with (go_at_call 71; refine K1.out.mono ?_; rintro e w1 ⟨rfl, h1, h2⟩; have H1 := Lib.hid h1; have H2 := Lib.hid h2; clear h1 h2)
  go_ret
  exact ⟨rfl, H1.out, H2.out⟩
/-- What lies while the reference reads a line. -/
structure RR (w W : World) (q : Rul) (pv : Value) (g : Nat) (F : Nat → Prop) (c : Cur) : Prop where
  bel : Below w.heap.size w W
  kr : Blk W w.heap.size 25 (rulCells q pv)
  k2 : Blk W (w.heap.size + 1 + 1) 25 zeroR
  k3 : Blk W (w.heap.size + 1 + 1 + 1) 41 #[.int .i64 0, .int .i64 0, .int .i64 0]
  cur : RCurAt W F g c
  hg : w.heap.size + 1 + 1 + 1 < g
  hF : ∀ b, F b → w.heap.size + 1 + 1 + 1 < b
  len : ∀ f ∈ c.fields, f.text.length ≤ 1000
section
variable {w W W' : World} {q q' : Rul} {pv : Value} {g : Nat} {F : Nat → Prop} {c c' : Cur}
theorem RR.only (h : RR w W q pv g F c) (ho : Only g W W') (hc : RCurAt W' F g c') (hf : c'.fields = c.fields) : RR w W' q pv g F c' := by
  have hl := h.cur.lt
  have hgg := h.hg
  exact ⟨h.bel.trans (ho.below (by omega) (by omega)), h.kr.grown ho (by simp; omega), h.k2.grown ho (by simp; omega), h.k3.grown ho (by simp; omega), hc, h.hg, h.hF, by rw [hf]; exact h.len⟩
theorem RR.below (h : RR w W q pv g F c) (hb : Below W.heap.size W W') : RR w W' q pv g F c := by
  have hl := h.cur.lt
  exact ⟨h.bel.trans (hb.mono (Nat.le_of_lt h.kr.lt)), h.kr.below hb h.kr.lt, h.k2.below hb h.k2.lt, h.k3.below hb h.k3.lt, h.cur.below hb, h.hg, h.hF, h.len⟩
theorem RR.set (h : RR w W q pv g F c) (f : Nat) (u : Value) (hq : (rulCells q pv).setIfInBounds f u = rulCells q' pv) : RR w (W.setCell ⟨w.heap.size, f, none⟩ u) q' pv g F c := by
  have hgg := h.hg
  refine ⟨h.bel.setCell (Nat.le_refl _) _, by rw [← hq]; exact h.kr.set_ f u, h.k2.far (by show w.heap.size + 1 + 1 ≠ w.heap.size; omega) _, h.k3.far (by show w.heap.size + 1 + 1 + 1 ≠ w.heap.size; omega) _, h.cur.farR (k := w.heap.size) (by omega) (fun hF => by have := h.hF _ hF; omega) _ rfl _, h.hg, h.hF, h.len⟩
theorem RR.spot (h : RR w W q pv g F c) (f : Nat) (hf : f < 14) : (∃ u, W.cell? ⟨w.heap.size, f, none⟩ = some u) ∧ W.frozen? ⟨w.heap.size, f, none⟩ = false := by
  refine ⟨?_, h.kr.frozen f⟩
  rw [h.kr.cell]
  exact ⟨_, Array.getElem?_eq_getElem (show f < (rulCells q pv).size from hf)⟩
theorem rr_words (h : RR w W q pv g F c) : Calls Tryz.prog 30 #[] W fun e W' => ∃ k, e = .returned (.slice (some ⟨W.heap.size, 0, none⟩) 12 k) ∧ RR w W' q pv g F c ∧ ∀ i (hi : i < 12), W'.cell? ⟨W.heap.size, i, none⟩ = some (.string (S (kWords[i]'hi))) := by
  refine (ref_words W).mono ?_
  rintro e W' ⟨k, rfl, hs, hb⟩
  refine ⟨k, rfl, h.below hb, fun i hi => ?_⟩
  obtain ⟨b, o, hA, _, hc⟩ := hs.str_at (k := i) hi
  injection hA with hA
  injection hA with h1 h2
  subst h1; subst h2
  rw [Nat.zero_add] at hc
  exact hc
theorem rr_Keyword (h : RR w W q pv g F c) (kw : List UInt8) (hk : (c.keyword kw).1 = c') :
    Calls Tryz.prog 33 #[.pointer (some ⟨g, 0, none⟩), .string (S kw)] W fun e W' => (∃ b, e = .returned (.bool b)) ∧ RR w W' q pv g F c' := by
  refine (rcur_Keyword c (S kw) F g W h.cur).mono ?_
  rintro e W' ⟨rfl, h1, h2⟩
  rw [S_data, hk] at h1
  exact ⟨⟨_, rfl⟩, h.only h2 h1 (by rw [← hk]; exact Cur.keyword_fields _ _)⟩
theorem rr_Ident {t : List UInt8} (h : RR w W q pv g F c) (hk : (c', t) = c.ident) :
    Calls Tryz.prog 69 #[.pointer (some ⟨g, 0, none⟩)] W fun e W' => e = .returned (.string (S t)) ∧ RR w W' q pv g F c' := by
  refine (rcur_Ident c F g W h.cur fun f hf => by have := h.len f hf; omega).mono ?_
  rintro e W' ⟨rfl, h1, h2⟩
  have hf := Cur.ident_fields c
  rw [← hk] at h1 hf ⊢
  exact ⟨rfl, h.only h2 h1 hf⟩
theorem rr_number {v : Int} (h : RR w W q pv g F c) (hk : (c', v) = c.n) :
    Calls Tryz.prog 34 #[.pointer (some ⟨g, 0, none⟩)] W fun e W' => e = .returned (.int .i64 v) ∧ RR w W' q pv g F c' := by
  refine (rcur_number c F g W h.cur fun f hf => by have := h.len f hf; omega).mono ?_
  rintro e W' ⟨rfl, h1, h2⟩
  have hf : c.n.1.fields = c.fields := Cur.int_fields c 0 10000
  rw [← hk] at h1 hf ⊢
  exact ⟨rfl, h.only h2 h1 hf⟩
theorem rr_OneOf {i : Int} (h : RR w W q pv g F c) (ho : (c', i) = c.oneOf [kYES, kNO]) : Calls Tryz.prog 70 #[.pointer (some ⟨g, 0, none⟩), .slice (some ⟨W.heap.size, 0, none⟩) 2 2] (W.alloc (.cells #[.string ⟨#[89, 69, 83]⟩, .string ⟨#[78, 79]⟩] 9)) fun x W' => x = .returned (.int .i64 i) ∧ RR w W' q pv g F c' := by
  have hb := Below.alloc (Below.refl W.heap.size W) (Nat.le_refl _) (.cells #[.string ⟨#[89, 69, 83]⟩, .string ⟨#[78, 79]⟩] 9)
  have h' := h.below hb
  have hl := h.cur.lt
  refine (rcur_OneOf c _ [kYES, kNO] (fun b => b = W.heap.size) F g _ h'.cur (yes_no W) (fun b hb => ⟨by rw [hb]; simp, by omega⟩)).mono ?_
  rintro x w' ⟨rfl, h1, h2⟩
  have hf : (c.oneOf [kYES, kNO]).1.fields = c.fields := (Cur.oneOf_left c _).2.2
  rw [← ho] at h1 hf ⊢
  exact ⟨rfl, h'.only h2 h1 hf⟩
theorem rr_Close {dl dc dk : Int} {b : Bool} (h : RR w W q pv g F c) (hk : closeV c.close = .tuple #[.agg #[.int .i64 dl, .int .i64 dc, .int .i64 dk], .bool b]) :
    Calls Tryz.prog 35 #[.pointer (some ⟨g, 0, none⟩)] W fun e W' => e = .returned (.tuple #[.agg #[.int .i64 dl, .int .i64 dc, .int .i64 dk], .bool b]) ∧ RR w W' q pv g F c := by
  refine (rcur_Close c F g W h.cur).mono ?_
  rintro e W' ⟨rfl, h1⟩
  rw [hk]
  exact ⟨rfl, h.below h1⟩
end
theorem close_shape (o : Option Dia) : ∃ dl dc dk b, closeV o = .tuple #[.agg #[.int .i64 dl, .int .i64 dc, .int .i64 dk], .bool b] := by
  cases o with
  | none => exact ⟨0, 0, 0, false, rfl⟩
  | some d => exact ⟨d.line, d.col, d.code, true, rfl⟩
/-- What read hands back. -/
def RReadPost (w : World) (r : Rul × Cur) (pv : Value) (e : Ending) (w' : World) : Prop :=
  ∃ dl dc dk b, closeV r.2.close = .tuple #[.agg #[.int .i64 dl, .int .i64 dc, .int .i64 dk], .bool b] ∧ e = .returned (.tuple #[rulV r.1 pv, .agg #[.int .i64 dl, .int .i64 dc, .int .i64 dk], .bool b]) ∧ Below w.heap.size w w'
theorem rr_start {w : World} {q : Rul} {pv : Value} (x : Lin) (v : Value) (hx : Sl 3 elFld w (· < w.heap.size) v x.fields) (hl : OkLin x) :
    Calls Tryz.prog 32 #[.agg #[.int .i64 x.num, v]] ((((w.alloc (.cells (rulCells q pv) 25)).alloc (.cells #[.int .i64 x.num, v] 56)).alloc (.cells zeroR 25)).alloc (.cells #[.int .i64 0, .int .i64 0, .int .i64 0] 41)) fun e W' => ∃ g F, e = .returned (.pointer (some ⟨g, 0, none⟩)) ∧ RR w W' q pv g F (Cur.start x) := by
  obtain ⟨w1, h1⟩ : ∃ y, y = w.alloc (.cells (rulCells q pv) 25) := ⟨_, rfl⟩
  obtain ⟨w2, h2⟩ : ∃ y, y = w1.alloc (.cells #[.int .i64 x.num, v] 56) := ⟨_, rfl⟩
  obtain ⟨w3, h3⟩ : ∃ y, y = w2.alloc (.cells zeroR 25) := ⟨_, rfl⟩
  obtain ⟨w4, h4⟩ : ∃ y, y = w3.alloc (.cells #[.int .i64 0, .int .i64 0, .int .i64 0] 41) := ⟨_, rfl⟩
  have z1 : w1.heap.size = w.heap.size + 1 := by rw [h1]; simp
  have z2 : w2.heap.size = w.heap.size + 1 + 1 := by rw [h2]; simp; omega
  have z3 : w3.heap.size = w.heap.size + 1 + 1 + 1 := by rw [h3]; simp; omega
  have z4 : w4.heap.size = w.heap.size + 1 + 1 + 1 + 1 := by rw [h4]; simp; omega
  have b1 : Below w.heap.size w w1 := by rw [h1]; exact Below.alloc (Below.refl _ _) (Nat.le_refl _) _
  have b2 : Below w.heap.size w w2 := by rw [h2]; exact b1.alloc (by omega) _
  have b3 : Below w.heap.size w w3 := by rw [h3]; exact b2.alloc (by omega) _
  have b4 : Below w.heap.size w w4 := by rw [h4]; exact b3.alloc (by omega) _
  have kr : Blk w4 w.heap.size 25 (rulCells q pv) := by rw [h4, h3, h2, h1]; exact (((Blk.new w _ _).alloc _).alloc _).alloc _
  have k2 : Blk w4 (w.heap.size + 1 + 1) 25 zeroR := by
    have := Blk.new w2 25 zeroR
    rw [z2] at this
    rw [h4, h3]; exact this.alloc _
  have k3 : Blk w4 (w.heap.size + 1 + 1 + 1) 41 #[.int .i64 0, .int .i64 0, .int .i64 0] := by
    have := Blk.new w3 41 #[.int .i64 0, .int .i64 0, .int .i64 0]
    rw [z3] at this
    rw [h4]; exact this
  rw [← h1, ← h2, ← h3, ← h4]
  refine (ref_At x v (· < w.heap.size) w4 (hx.below elFld_good b4) (fun b hb => by have : b < w.heap.size := hb; omega) (by have := hl.1; omega)).mono ?_
  rintro e W' ⟨g, rfl, hg, hc, hb⟩
  exact ⟨g, _, rfl, ⟨b4.trans (hb.mono (by omega)), kr.below hb (by omega), k2.below hb (by omega), k3.below hb (by omega), hc, by omega, fun b hF => by have := hF.1; omega, hl.2⟩⟩
theorem rread_ret {R' : Ending → World → Prop} {a : Act} {w : World} {q : Rul} {pv : Value} {g g' : Nat} {dl dc dk : Int} {b : Bool} (h6 : a.tmps[6]? = some (.pointer (some ⟨g, 0, none⟩))) (h7 : a.tmps[7]? = some (.pointer (some ⟨g', 0, none⟩))) (h8 : a.tmps[8]? = some (.bool b)) (hb : Blk w g 25 (rulCells q pv))
    (hk : Blk w g' 41 #[.int .i64 dl, .int .i64 dc, .int .i64 dk]) (hd : a.defers = []) (hR : R' (.returned (.tuple #[rulV q pv, .agg #[.int .i64 dl, .int .i64 dc, .int .i64 dk], .bool b])) w) : bodyPost Tryz.prog Tryz.f31 R' .ret a w := by
  obtain ⟨r0, r1, r2, r3, r4, r5, r6, r7, r8, r9, r10, r11, r12, r13⟩ := Blk.fourteen hb
  obtain ⟨d0, d1, d2, _⟩ := Blk.three hk
  refine bodyPost_ret (v := .tuple #[rulV q pv, .agg #[.int .i64 dl, .int .i64 dc, .int .i64 dk], .bool b]) (by simp [results, Tryz.results31, go_sem, h6, h7, h8, r0, r1, r2, r3, r4, r5, r6, r7, r8, r9, r10, r11, r12, r13, d0, d1, d2]; rfl) hd hR
theorem rread_a {w W : World} {a : Act} {q : Rul} {pv : Value} {g : Nat} {F : Nat → Prop} {c : Cur} {o : Obj} {dl dc dk : Int} {b : Bool} (h : RR w W q pv g F c) (hcl : closeV c.close = .tuple #[.agg #[.int .i64 dl, .int .i64 dc, .int .i64 dk], .bool b])
    (h6 : a.tmps[6]? = some (.pointer (some ⟨w.heap.size + 1 + 1, 0, none⟩))) (h7 : a.tmps[7]? = some (.pointer (some ⟨w.heap.size + 1 + 1 + 1, 0, none⟩))) (h8 : a.tmps[8]? = some (.bool b)) (hd : a.defers = []) :
    bodyPost Tryz.prog Tryz.f31 (RReadPost w (q, c) pv) .ret a (put3 ((W.alloc o).setRow (w.heap.size + 1 + 1) (rulCells q pv)) (w.heap.size + 1 + 1 + 1) (.int .i64 dl) (.int .i64 dc) (.int .i64 dk)).drew := by
  have h0 := h.below (Below.alloc (Below.refl W.heap.size W) (Nat.le_refl _) o)
  have o1 := Only.row (w.heap.size + 1 + 1) (W.alloc o) (rulCells q pv)
  have b1 := h0.k2.row (rulCells q pv)
  have k1 := h0.k3.grown o1 (by simp)
  have o2 := put3_only ((W.alloc o).setRow (w.heap.size + 1 + 1) (rulCells q pv)) (w.heap.size + 1 + 1 + 1) (.int .i64 dl) (.int .i64 dc) (.int .i64 dk)
  have b2 := b1.grown o2 (by simp)
  have k2 := blk_put3 k1 (.int .i64 dl) (.int .i64 dc) (.int .i64 dk)
  exact rread_ret h6 h7 h8 b2.drew k2.drew hd ⟨dl, dc, dk, b, hcl, rfl, ((h0.bel.trans (o1.below (by omega) (Nat.le_of_lt h0.kr.lt))).trans (o2.below (by omega) (Nat.le_of_lt (by have := b1.lt; have := h0.kr.lt; have := o1.size; omega)))).drew⟩
theorem rread_b {w W : World} {a : Act} {q : Rul} {pv : Value} {g : Nat} {F : Nat → Prop} {c : Cur} {o : Obj} {dl dc dk : Int} {b : Bool} (h : RR w W q pv g F c) (hcl : closeV c.close = .tuple #[.agg #[.int .i64 dl, .int .i64 dc, .int .i64 dk], .bool b])
    (h6 : a.tmps[6]? = some (.pointer (some ⟨w.heap.size + 1 + 1, 0, none⟩))) (h7 : a.tmps[7]? = some (.pointer (some ⟨w.heap.size + 1 + 1 + 1, 0, none⟩))) (h8 : a.tmps[8]? = some (.bool b)) (hd : a.defers = []) :
    bodyPost Tryz.prog Tryz.f31 (RReadPost w (q, c) pv) .ret a ((put3 (W.alloc o) (w.heap.size + 1 + 1 + 1) (.int .i64 dl) (.int .i64 dc) (.int .i64 dk)).setRow (w.heap.size + 1 + 1) (rulCells q pv)).drew := by
  have h0 := h.below (Below.alloc (Below.refl W.heap.size W) (Nat.le_refl _) o)
  have o1 := put3_only (W.alloc o) (w.heap.size + 1 + 1 + 1) (.int .i64 dl) (.int .i64 dc) (.int .i64 dk)
  have k1 := blk_put3 h0.k3 (.int .i64 dl) (.int .i64 dc) (.int .i64 dk)
  have b1 := h0.k2.grown o1 (by simp)
  have o2 := Only.row (w.heap.size + 1 + 1) (put3 (W.alloc o) (w.heap.size + 1 + 1 + 1) (.int .i64 dl) (.int .i64 dc) (.int .i64 dk)) (rulCells q pv)
  have b2 := b1.row (rulCells q pv)
  have k2 := k1.grown o2 (by simp)
  exact rread_ret h6 h7 h8 b2.drew k2.drew hd ⟨dl, dc, dk, b, hcl, rfl, ((h0.bel.trans (o1.below (by omega) (Nat.le_of_lt h0.kr.lt))).trans (o2.below (by omega) (Nat.le_of_lt (by have := b1.lt; have := h0.kr.lt; have := o1.size; omega)))).drew⟩
theorem rread_zb {w W : World} {q : Rul} {pv : Value} {g : Nat} {F : Nat → Prop} {c : Cur} (h : RR w W q pv g F c) (o : Obj) (x y z : Value) : Blk (put3 (W.alloc o) (w.heap.size + 1 + 1 + 1) x y z) (w.heap.size + 1 + 1) 25 zeroR :=
  (h.below (Below.alloc (Below.refl W.heap.size W) (Nat.le_refl _) o)).k2.grown (put3_only _ _ x y z) (by simp)
set_option maxRecDepth 100000 in
set_option maxHeartbeats 4000000 in
theorem rread_1 (q : Rul) (pv : Value) (x : Lin) (v : Value) (w : World) (hx : Sl 3 elFld w (· < w.heap.size) v x.fields) (hl : OkLin x) (hp : ∃ A n c, pv = .slice A n c) :
    Calls Tryz.prog 31 #[rulV q pv, .int .i64 1, .agg #[.int .i64 x.num, v]] w (RReadPost w (readR q 1 (Cur.start x)) pv) := by
  obtain ⟨A, n, cp, rfl⟩ := hp
  obtain ⟨Ax, cx, rfl, hcx, hcx2⟩ := hx.shape
  have k0 := rr_start (q := q) (pv := .slice A n cp) x _ hx hl
  obtain ⟨c1, hc1⟩ : ∃ c1, ((Cur.start x).keyword kSIDE).1 = c1 := ⟨_, rfl⟩
  obtain ⟨⟨c', v⟩, hcv⟩ : ∃ y, y = c1.n := ⟨_, rfl⟩
  have he : readR q 1 (Cur.start x) = ({ q with side := v }, c') := by
    have : readR q 1 (Cur.start x) = ({ q with side := ((Cur.start x).keyword kSIDE).1.n.2 }, ((Cur.start x).keyword kSIDE).1.n.1) := rfl
    rw [this, hc1, ← hcv]
  rw [he]
  obtain ⟨q9, hq9⟩ : ∃ q9 : Rul, q9 = { q with side := v } := ⟨_, rfl⟩
  rw [← hq9]
  obtain ⟨dl, dc, dk, b, hcl⟩ := close_shape c'.close
  have HCL := Lib.hid hcl
  have hset : (rulCells q (.slice A n cp)).setIfInBounds 1 (.int .i64 v) = rulCells q9 (.slice A n cp) := by rw [hq9]; rfl
  have HSET := Lib.hid hset
  have HC1 := Lib.hid hc1
  have HCV := Lib.hid hcv
  unfold rulV rulCells
  unfold rulCells zeroR at k0
  have K0 := Lib.hid k0
  have tok0 : True := trivial
  clear k0 hx hl hcx hcx2 hc1 hcv he hcl hset hq9
  go_enter Tryz.func31, Tryz.ntmps31
  go_wp2_with (first
    | (clear tok0; go_at_call 32; refine K0.out.mono ?_; rintro e w1 ⟨g, F, rfl, h1⟩; have H1 := Lib.hid h1; clear h1; have tok1 : True := trivial)
    | (clear tok1; go_at_call 30; refine (rr_words H1.out).mono ?_; rintro e w2 ⟨kk, rfl, h2, hw⟩; have yw := hw 1 (by decide); clear hw; have H2 := Lib.hid h2; clear h2; have tok2 : True := trivial)
    | (clear tok2; go_at_call 33; refine (rr_Keyword H2.out kSIDE HC1.out).mono ?_; rintro e w3 ⟨⟨bb, rfl⟩, h3⟩; clear yw; have H3 := Lib.hid h3; clear h3; have tok3 : True := trivial)
    | (clear tok3; go_at_call 34; refine (rr_number H3.out HCV.out).mono ?_; rintro e w4 ⟨rfl, h4⟩; obtain ⟨⟨u, y1⟩, yf1⟩ := h4.spot 1 (by decide); have H4 := Lib.hid (h4.set 1 _ HSET.out); clear h4; have tok4 : True := trivial)
    | (clear tok4; go_at_call 35; refine (rr_Close H4.out HCL.out).mono ?_; rintro e w9 ⟨rfl, h9⟩; clear u y1 yf1; have H9 := Lib.hid h9; clear h9; have tok9 : True := trivial))
  have ha := H9.out.below (Below.alloc (Below.refl w9.heap.size w9) (Nat.le_refl _) (.cells #[.int .i64 dl, .int .i64 dc, .int .i64 dk] 41))
  obtain ⟨y0, y1, y2, y3, y4, y5, y6, y7, y8, y9, y10, y11, y12, y13⟩ := Blk.fourteen (show Blk _ _ _ #[.string (S q9.name), .int .i64 q9.side, .int .i64 q9.inns, .int .i64 q9.overs, .int .i64 q9.balls, .int .i64 q9.quota, .int .i64 q9.wide, .int .i64 q9.noball, .bool q9.free, .int .i64 q9.newball, .int .i64 q9.follow, .int .i64 q9.reviews, .int .i64 q9.outside, .slice A n cp] from ha.kr)
  obtain ⟨z0, z1, z2, z3, z4, z5, z6, z7, z8, z9, z10, z11, z12, z13⟩ := Blk.fourteen (show Blk _ _ _ #[.string ⟨#[]⟩, .int .i64 0, .int .i64 0, .int .i64 0, .int .i64 0, .int .i64 0, .int .i64 0, .int .i64 0, .bool false, .int .i64 0, .int .i64 0, .int .i64 0, .int .i64 0, .slice none 0 0] from ha.k2)
  have zf0 := Blk.frozen (show Blk _ _ _ #[.string ⟨#[]⟩, .int .i64 0, .int .i64 0, .int .i64 0, .int .i64 0, .int .i64 0, .int .i64 0, .int .i64 0, .bool false, .int .i64 0, .int .i64 0, .int .i64 0, .int .i64 0, .slice none 0 0] from ha.k2) 0
  have zf1 := Blk.frozen (show Blk _ _ _ #[.string ⟨#[]⟩, .int .i64 0, .int .i64 0, .int .i64 0, .int .i64 0, .int .i64 0, .int .i64 0, .int .i64 0, .bool false, .int .i64 0, .int .i64 0, .int .i64 0, .int .i64 0, .slice none 0 0] from ha.k2) 1
  have zf2 := Blk.frozen (show Blk _ _ _ #[.string ⟨#[]⟩, .int .i64 0, .int .i64 0, .int .i64 0, .int .i64 0, .int .i64 0, .int .i64 0, .int .i64 0, .bool false, .int .i64 0, .int .i64 0, .int .i64 0, .int .i64 0, .slice none 0 0] from ha.k2) 2
  have zf3 := Blk.frozen (show Blk _ _ _ #[.string ⟨#[]⟩, .int .i64 0, .int .i64 0, .int .i64 0, .int .i64 0, .int .i64 0, .int .i64 0, .int .i64 0, .bool false, .int .i64 0, .int .i64 0, .int .i64 0, .int .i64 0, .slice none 0 0] from ha.k2) 3
  have zf4 := Blk.frozen (show Blk _ _ _ #[.string ⟨#[]⟩, .int .i64 0, .int .i64 0, .int .i64 0, .int .i64 0, .int .i64 0, .int .i64 0, .int .i64 0, .bool false, .int .i64 0, .int .i64 0, .int .i64 0, .int .i64 0, .slice none 0 0] from ha.k2) 4
  have zf5 := Blk.frozen (show Blk _ _ _ #[.string ⟨#[]⟩, .int .i64 0, .int .i64 0, .int .i64 0, .int .i64 0, .int .i64 0, .int .i64 0, .int .i64 0, .bool false, .int .i64 0, .int .i64 0, .int .i64 0, .int .i64 0, .slice none 0 0] from ha.k2) 5
  have zf6 := Blk.frozen (show Blk _ _ _ #[.string ⟨#[]⟩, .int .i64 0, .int .i64 0, .int .i64 0, .int .i64 0, .int .i64 0, .int .i64 0, .int .i64 0, .bool false, .int .i64 0, .int .i64 0, .int .i64 0, .int .i64 0, .slice none 0 0] from ha.k2) 6
  have zf7 := Blk.frozen (show Blk _ _ _ #[.string ⟨#[]⟩, .int .i64 0, .int .i64 0, .int .i64 0, .int .i64 0, .int .i64 0, .int .i64 0, .int .i64 0, .bool false, .int .i64 0, .int .i64 0, .int .i64 0, .int .i64 0, .slice none 0 0] from ha.k2) 7
  have zf8 := Blk.frozen (show Blk _ _ _ #[.string ⟨#[]⟩, .int .i64 0, .int .i64 0, .int .i64 0, .int .i64 0, .int .i64 0, .int .i64 0, .int .i64 0, .bool false, .int .i64 0, .int .i64 0, .int .i64 0, .int .i64 0, .slice none 0 0] from ha.k2) 8
  have zf9 := Blk.frozen (show Blk _ _ _ #[.string ⟨#[]⟩, .int .i64 0, .int .i64 0, .int .i64 0, .int .i64 0, .int .i64 0, .int .i64 0, .int .i64 0, .bool false, .int .i64 0, .int .i64 0, .int .i64 0, .int .i64 0, .slice none 0 0] from ha.k2) 9
  have zf10 := Blk.frozen (show Blk _ _ _ #[.string ⟨#[]⟩, .int .i64 0, .int .i64 0, .int .i64 0, .int .i64 0, .int .i64 0, .int .i64 0, .int .i64 0, .bool false, .int .i64 0, .int .i64 0, .int .i64 0, .int .i64 0, .slice none 0 0] from ha.k2) 10
  have zf11 := Blk.frozen (show Blk _ _ _ #[.string ⟨#[]⟩, .int .i64 0, .int .i64 0, .int .i64 0, .int .i64 0, .int .i64 0, .int .i64 0, .int .i64 0, .bool false, .int .i64 0, .int .i64 0, .int .i64 0, .int .i64 0, .slice none 0 0] from ha.k2) 11
  have zf12 := Blk.frozen (show Blk _ _ _ #[.string ⟨#[]⟩, .int .i64 0, .int .i64 0, .int .i64 0, .int .i64 0, .int .i64 0, .int .i64 0, .int .i64 0, .bool false, .int .i64 0, .int .i64 0, .int .i64 0, .int .i64 0, .slice none 0 0] from ha.k2) 12
  have zf13 := Blk.frozen (show Blk _ _ _ #[.string ⟨#[]⟩, .int .i64 0, .int .i64 0, .int .i64 0, .int .i64 0, .int .i64 0, .int .i64 0, .int .i64 0, .bool false, .int .i64 0, .int .i64 0, .int .i64 0, .int .i64 0, .slice none 0 0] from ha.k2) 13
  obtain ⟨d0, d1, d2, df0, df1, df2⟩ := Blk.three (show Blk _ _ _ #[.int .i64 0, .int .i64 0, .int .i64 0] from ha.k3)
  obtain ⟨x0, x1, x2, _⟩ := Blk.three (Blk.new w9 41 #[.int .i64 dl, .int .i64 dc, .int .i64 dk])
  have hlt9 := H9.out.cur.lt
  have hg9 := H9.out.hg
  have ne1 : ¬ (w9.heap.size = w.heap.size + 1 + 1) := by omega
  have ne2 : ¬ (w.heap.size + 1 + 1 = w9.heap.size) := by omega
  have ne3 : ¬ (w9.heap.size = w.heap.size + 1 + 1 + 1) := by omega
  have ne4 : ¬ (w.heap.size + 1 + 1 + 1 = w9.heap.size) := by omega
  have ne5 : ¬ (w.heap.size + 1 + 1 = w.heap.size + 1 + 1 + 1) := by omega
  have ne6 : ¬ (w.heap.size + 1 + 1 + 1 = w.heap.size + 1 + 1) := by omega
  clear ha hlt9 hg9
  go_region
  all_goals go_wp2_with fail
  all_goals (first
    | (rw [zero_chain (H9.out.below (Below.alloc (Below.refl w9.heap.size w9) (Nat.le_refl _) _)).k2]; exact rread_a H9.out HCL.out rfl rfl rfl rfl)
    | (have hzb := rread_zb H9.out (.cells #[.int .i64 dl, .int .i64 dc, .int .i64 dk] 41) (.int .i64 dl) (.int .i64 dc) (.int .i64 dk); unfold put3 at hzb; rw [zero_chain hzb]; exact rread_b H9.out HCL.out rfl rfl rfl rfl))
end Go.Proofs.YtglkejlimeakbaaGreatDoor
