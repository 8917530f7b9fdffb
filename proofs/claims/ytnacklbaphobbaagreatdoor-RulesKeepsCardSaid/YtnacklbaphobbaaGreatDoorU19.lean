/- The contract of rules.read: the lines of the name, of the runs, of the free hit and of the powerplays; and all together. -/
import Derived.Test.YtnacklbaphobbaaGreatDoorU18
import Derived.Deep.RegionLaw
set_option linter.unusedSimpArgs false
set_option linter.unusedVariables false
namespace Go.Proofs.YtnacklbaphobbaaGreatDoor
open Go.RowKit

section
variable {w2 Wb : World} {g : Nat} {F : Nat → Prop} {W W' W3 : World} {q q' : Rul} {c c' : Cur} {bc bf : Nat}
theorem RC.drew (h : RC w2 Wb g F W q c) : RC w2 Wb g F W.drew q c := h.below (Below.drew (Below.refl _ _))
theorem RC.alloc (h : RC w2 Wb g F W q c) (o : Obj) : RC w2 Wb g F (W.alloc o) q c := h.below (Below.alloc (Below.refl _ _) (Nat.le_refl _) o)
theorem Cur.oneOf_fields (c : Cur) (l : List (List UInt8)) : (c.oneOf l).1.fields = c.fields := by
  unfold Cur.oneOf Cur.fail
  repeat' split
  all_goals exact Cur.read_fields c false
/-- The two words of a free hit, just laid. -/
theorem yes_no (w : World) : Sl 1 elStr (w.alloc (.cells #[.string ⟨#[89, 69, 83]⟩, .string ⟨#[78, 79]⟩] 9)) (fun b => b = w.heap.size) (.slice (some ⟨w.heap.size, 0, none⟩) 2 2) [kYES, kNO] := by
  refine ⟨_, 2, rfl, Nat.le_refl _, by decide, fun _ => ⟨w.heap.size, 0, rfl, rfl, fun i a hi => ?_⟩⟩
  have hb := Blk.new w 9 #[.string ⟨#[89, 69, 83]⟩, .string ⟨#[78, 79]⟩]
  have hlt := (List.getElem?_eq_some_iff.1 hi).1
  have : i = 0 ∨ i = 1 := by simp at hlt; omega
  rcases this with rfl | rfl
  · simp at hi; subst hi
    refine ⟨[.string (S kYES)], rfl, fun j u hu => ?_, rfl⟩
    have : j = 0 := by have := (List.getElem?_eq_some_iff.1 hu).1; simp at this; exact this
    subst this
    simp at hu; subst hu
    exact hb.cell 0
  · simp at hi; subst hi
    refine ⟨[.string (S kNO)], rfl, fun j u hu => ?_, rfl⟩
    have : j = 0 := by have := (List.getElem?_eq_some_iff.1 hu).1; simp at this; exact this
    subst this
    simp at hu; subst hu
    exact hb.cell 1
theorem rc_OneOf {i : Int} (h : RC w2 Wb g F W q c) (ho : (c', i) = c.oneOf [kYES, kNO]) : Calls Tryz.prog 77 #[.pointer (some ⟨g, 0, none⟩), .slice (some ⟨W.heap.size, 0, none⟩) 2 2] (W.alloc (.cells #[.string ⟨#[89, 69, 83]⟩, .string ⟨#[78, 79]⟩] 9)) fun x W' => x = .returned (.int .i64 i) ∧ RC w2 Wb g F W' q c' := by
  have h1 := h.alloc (.cells #[.string ⟨#[89, 69, 83]⟩, .string ⟨#[78, 79]⟩] 9)
  obtain ⟨a, hc, hs⟩ := h1.cur
  obtain ⟨a0, hc0, _⟩ := h.cur
  refine (cur_OneOf a _ [kYES, kNO] (fun b => b = W.heap.size) F g _ hc (yes_no W) (fun b hb => ⟨by rw [hb]; simp, by have := hc0.lt; omega⟩)).mono ?_
  rintro x w' ⟨rfl, k1, k2⟩
  have hso := hs.oneOf [kYES, kNO]
  rw [← ho] at hso
  refine ⟨by rw [hso.2], h1.only k2 k1 hso.1 ?_⟩
  have := Cur.oneOf_fields c [kYES, kNO]
  rw [← ho] at this
  exact this
/-- A powerplay more. -/
theorem rc_app {pv v3 : Value} {p : Pha} {o : Obj} (h : RC w2 Wb g F W q c) (hk : Blk W w2.heap.size 24 (rulCells q pv)) (hown : OwnSl 3 elPha 45 (w2.heap.size + 1) W pv q.power) (hFp : ∀ b, F b → pv.ownBlock ≠ some b)
    (hg3 : (W.alloc o).grownBy W3 pv.ownBlock) (hw3 : OwnSl 3 elPha 45 (w2.heap.size + 1) W3 v3 (q.power ++ [p])) (hat : v3.ownBlock = pv.ownBlock ∨ v3.ownBlock = some (W.alloc o).heap.size) :
    Blk W3 w2.heap.size 24 (rulCells q pv) ∧ RC w2 Wb g F (W3.setCell ⟨w2.heap.size, 13, none⟩ v3) { q with power := q.power ++ [p] } c := by
  obtain ⟨a, hc, hs⟩ := h.cur
  have hc' : CurAt (W.alloc o) F g a := hc.below (Below.alloc (Below.refl _ _) (Nat.le_refl _) o)
  have hown' := hown.alloc elPha_good o
  have hpg := hc'.ne_own hown' (by decide)
  have hpG := own_ne hown' (hk.alloc o) (by decide)
  have hk3 := (hk.alloc o).grown hg3 hpG
  have hc3 : CurAt W3 F g a := hc'.keep (G := F) (Same.grown hg3 fun b hb => ⟨(hc'.foot b hb).1, fun e => hFp b hb e.symm⟩) (hg3.block g hc'.lt fun e => hpg e.symm) hg3.size
  have hl := h.lt
  have hgl := h.hg
  have hbel : Below w2.heap.size w2 W3 := below_own (Below.alloc h.bel (by omega) o) hown' hg3 (by omega) (by simp; omega)
  refine ⟨hk3, ⟨v3, hk3.set_ 13 v3, hw3.grown elPha_good ((Only.refl w2.heap.size W3).setCell (p := ⟨w2.heap.size, 13, none⟩) (.inl rfl) _) fun b hb e => own_ne hw3 hk3 (by decide) (by rw [hb, e]), fun b hb e => ?_⟩, ⟨a, hc3.far (by omega) h.hF _ rfl _, hs⟩, hbel.setCell (Nat.le_refl _) _, h.hg, h.hF, h.len, ((h.sm.trans (Same.below (Below.alloc (Below.refl W.heap.size W) (Nat.le_refl _) o) fun b hb => (hc.foot b hb).1)).trans (Same.grown hg3 fun b hb => ⟨(hc'.foot b hb).1, fun e => hFp b hb e.symm⟩)).trans fun b hb => Below.heap_setCell W3 ⟨w2.heap.size, 13, none⟩ v3 b (fun e => h.hF (by rw [show w2.heap.size = b from e.symm]; exact hb))⟩
  rcases hat with h1 | h1
  · exact hFp b hb (by rw [← h1, e])
  · rw [h1] at e
    have := (hc'.foot b hb).1
    have := Option.some.inj e
    omega
end
set_option maxRecDepth 100000 in
set_option maxHeartbeats 4000000 in
theorem read_0 {w2 Wb : World} {g : Nat} {F : Nat → Prop} {W : World} {q : Rul} {c : Cur} (hgl : GlobN w2) (h : RC w2 Wb g F W q c) :
    Calls Tryz.prog 48 #[.pointer (some ⟨w2.heap.size, 0, none⟩), .int .i64 0, .pointer (some ⟨g, 0, none⟩)] W fun e W' => e = .returned (.tuple #[]) ∧ RC w2 Wb g F W' (readR q 0 c).1 (readR q 0 c).2 := by
  have hd := RD.one h
  obtain ⟨cc, hcc⟩ : ∃ x, x = (c.keyword kRULES).1 := ⟨_, rfl⟩
  obtain ⟨⟨c', t⟩, hct⟩ : ∃ x, x = cc.ident := ⟨_, rfl⟩
  have he : readR q 0 c = ({ q with name := t }, c') := by
    have : readR q 0 c = ({ q with name := (c.keyword kRULES).1.ident.2 }, (c.keyword kRULES).1.ident.1) := rfl
    rw [this, ← hcc, ← hct]
  rw [he]
  have k1 := rd_Keyword hd ⟨#[82, 85, 76, 69, 83]⟩
  have e1 : (c.keyword (ByteArray.mk #[82, 85, 76, 69, 83]).data.toList).1 = cc := hcc.symm
  rw [e1] at k1
  have k2 := fun W1 (h1 : RD w2 Wb g F W.heap.size (W.heap.size + 1) W1 q cc) => rd_Ident h1
  rw [← hct] at k2
  have K1 := Lib.hid k1
  have K2 := Lib.hid k2
  have tok0 : True := trivial
  clear h hd k1 k2 hgl hcc hct he e1
  go_enter Tryz.func48, Tryz.ntmps48
  go_wp2_with (first
    | (clear tok0; go_at_call 75; refine K1.out.mono ?_; rintro e W1 ⟨⟨bb, rfl⟩, h1⟩; obtain ⟨y0, y1⟩ := h1.cells; have H1 := Lib.hid h1; clear h1; have tok1 : True := trivial)
    | (clear tok1; go_at_call 76; refine (K2.out _ H1.out).mono ?_; rintro e W2 ⟨rfl, h2⟩; obtain ⟨⟨u, z0⟩, z1⟩ := h2.spot 0 (by decide); have H2 := Lib.hid h2; clear h2; have tok2 : True := trivial))
  go_end0
  exact ⟨rfl, (H2.out.set (q' := { q with name := t }) 0 (.string (S t)) (fun _ => rfl) rfl).toRC⟩
set_option maxRecDepth 100000 in
set_option maxHeartbeats 4000000 in
theorem read_6 {w2 Wb : World} {g : Nat} {F : Nat → Prop} {W : World} {q : Rul} {c : Cur} (hgl : GlobN w2) (h : RC w2 Wb g F W q c) :
    Calls Tryz.prog 48 #[.pointer (some ⟨w2.heap.size, 0, none⟩), .int .i64 6, .pointer (some ⟨g, 0, none⟩)] W fun e W' => e = .returned (.tuple #[]) ∧ RC w2 Wb g F W' (readR q 6 c).1 (readR q 6 c).2 := by
  have hd := RD.one h
  obtain ⟨⟨c1, v1⟩, hcv⟩ : ∃ x, x = (c.keyword kRUNS).1.n := ⟨_, rfl⟩
  obtain ⟨⟨c2, v2⟩, hcv2⟩ : ∃ x, x = c1.n := ⟨_, rfl⟩
  have he : readR q 6 c = ({ q with wide := v1, noball := v2 }, c2) := by
    have : readR q 6 c = ({ q with wide := (c.keyword kRUNS).1.n.2, noball := (c.keyword kRUNS).1.n.1.n.2 }, (c.keyword kRUNS).1.n.1.n.1) := rfl
    rw [this, ← hcv, ← hcv2]
  rw [he]
  have k1 := read2 hgl hd ⟨#[82, 85, 78, 83]⟩ 6 (by decide) c1 v1 hcv (q' := { q with wide := v1 }) (fun _ => rfl) rfl
  have k2 := fun W1 (h1 : RD w2 Wb g F W.heap.size (W.heap.size + 1) W1 { q with wide := v1 } c1) => read1 hgl h1
  rw [← hcv2] at k2
  have K1 := Lib.hid k1
  have K2 := Lib.hid k2
  have tok0 : True := trivial
  clear h hd k1 k2 hgl hcv hcv2 he
  go_enter Tryz.func48, Tryz.ntmps48
  go_wp2_with (first
    | (clear tok0; go_at_call 74; refine K1.out.mono ?_; rintro e W1 ⟨rfl, h1⟩; obtain ⟨y0, y1⟩ := h1.cells; have H1 := Lib.hid h1; clear h1; have tok1 : True := trivial)
    | (clear tok1; go_at_call 72; refine (K2.out _ H1.out).mono ?_; rintro e W2 ⟨rfl, h2⟩; obtain ⟨⟨u, z0⟩, z1⟩ := h2.spot 7 (by decide); have H2 := Lib.hid h2; clear h2; have tok2 : True := trivial))
  go_end0
  exact ⟨rfl, (H2.out.set (q' := { q with wide := v1, noball := v2 }) 7 (.int .i64 v2) (fun _ => rfl) rfl).toRC⟩
set_option maxRecDepth 100000 in
set_option maxHeartbeats 4000000 in
theorem read_7 {w2 Wb : World} {g : Nat} {F : Nat → Prop} {W : World} {q : Rul} {c : Cur} (hgl : GlobN w2) (h : RC w2 Wb g F W q c) :
    Calls Tryz.prog 48 #[.pointer (some ⟨w2.heap.size, 0, none⟩), .int .i64 7, .pointer (some ⟨g, 0, none⟩)] W fun e W' => e = .returned (.tuple #[]) ∧ RC w2 Wb g F W' (readR q 7 c).1 (readR q 7 c).2 := by
  have hd := RD.one h
  obtain ⟨cc, hcc⟩ : ∃ x, x = (c.keyword kFREEHIT).1 := ⟨_, rfl⟩
  obtain ⟨⟨c', i⟩, hct⟩ : ∃ x, x = cc.oneOf [kYES, kNO] := ⟨_, rfl⟩
  have he : readR q 7 c = ({ q with free := (i == 0) }, c') := by
    have : readR q 7 c = ({ q with free := decide ((((c.keyword kFREEHIT).1.oneOf [kYES, kNO]).2 = 0)) }, ((c.keyword kFREEHIT).1.oneOf [kYES, kNO]).1) := rfl
    rw [this, ← hcc, ← hct]; rfl
  rw [he]
  have k1 := rd_Keyword hd ⟨#[70, 82, 69, 69, 72, 73, 84]⟩
  have e1 : (c.keyword (ByteArray.mk #[70, 82, 69, 69, 72, 73, 84]).data.toList).1 = cc := hcc.symm
  rw [e1] at k1
  have k2 := fun W1 (h1 : RC w2 Wb g F W1 q cc) => rc_OneOf h1 hct
  have K1 := Lib.hid k1
  have K2 := Lib.hid k2
  have tok0 : True := trivial
  clear h hd k1 k2 hgl hcc hct he e1
  go_enter Tryz.func48, Tryz.ntmps48
  go_wp2_with (first
    | (clear tok0; go_at_call 75; refine K1.out.mono ?_; rintro e W1 ⟨⟨bb, rfl⟩, h1⟩; obtain ⟨y0, y1⟩ := h1.cells; have H1 := Lib.hid h1; clear h1; have tok1 : True := trivial)
    | (clear tok1; go_at_call 77; refine (K2.out _ H1.out.toRC).mono ?_; rintro e W2 ⟨rfl, h2⟩; obtain ⟨⟨u, z0⟩, z1⟩ := h2.spot 8 (by decide); have H2 := Lib.hid h2; clear h2; have tok2 : True := trivial))
  go_end0
  exact ⟨rfl, H2.out.set (q' := { q with free := (i == 0) }) 8 (.bool (i == 0)) (fun _ => rfl) rfl⟩
/-- While a powerplay is read: it lies in block bp. -/
structure RP (w2 Wb : World) (g : Nat) (F : Nat → Prop) (bc bf bp : Nat) (W : World) (q : Rul) (c : Cur) (pv : Value) (p : Pha) : Prop where
  blk : Blk W w2.heap.size 24 (rulCells q pv)
  own : OwnSl 3 elPha 45 (w2.heap.size + 1) W pv q.power
  hFp : ∀ b, F b → pv.ownBlock ≠ some b
  nown : pv.ownBlock ≠ some bp
  cur : ∃ a, CurAt W F g a ∧ Cur.sim a c
  bel : Below w2.heap.size w2 W
  hg : w2.heap.size < g
  hF : ¬ F w2.heap.size
  len : ∀ f ∈ c.fields, f.text.length ≤ 1000
  kc : Blk W bc 65 #[.pointer (some ⟨g, 0, none⟩)]
  kf : Blk W bf 101 #[.func (.func 72) #[] #[.pointer (some ⟨bc, 0, none⟩)]]
  kp : Blk W bp 45 #[.int .i64 p.fr, .int .i64 p.til, .int .i64 p.out]
  nc : bc ≠ g
  nf : bf ≠ g
  mc : bc ≠ w2.heap.size
  mf : bf ≠ w2.heap.size
  np : bp ≠ g
  mp : w2.heap.size < bp
  pc : bc ≠ bp
  pf : bf ≠ bp
  Fp : ¬ F bp
  sm : Same F Wb W
section
variable {w2 Wb : World} {g : Nat} {F : Nat → Prop} {W W' W3 : World} {q q' : Rul} {c c' : Cur} {bc bf bp : Nat} {pv : Value} {p p' : Pha}
theorem RP.rd (h : RP w2 Wb g F bc bf bp W q c pv p) : RD w2 Wb g F bc bf W q c := ⟨⟨⟨pv, h.blk, h.own, h.hFp⟩, h.cur, h.bel, h.hg, h.hF, h.len, h.sm⟩, h.kc, h.kf, h.nc, h.nf, h.mc, h.mf⟩
theorem RP.only (h : RP w2 Wb g F bc bf bp W q c pv p) (ho : Only g W W') {a : Cur} (hc : CurAt W' F g a) (hs : Cur.sim a c') (hf : c'.fields = c.fields) : RP w2 Wb g F bc bf bp W' q c' pv p := by
  have hr := h.rd.only ho hc hs hf
  obtain ⟨a0, hc0, _⟩ := h.cur
  have hgl := h.hg
  exact ⟨h.blk.grown ho (by simp; omega), h.own.grown elPha_good ho fun b hb e => by
    have : g = b := Option.some.inj e
    subst this
    exact hc0.ne_own h.own (by decide) hb, h.hFp, h.nown, hr.cur, hr.bel, h.hg, h.hF, hr.len, hr.kc, hr.kf, h.kp.grown ho (by simpa using fun e => h.np e.symm), h.nc, h.nf, h.mc, h.mf, h.np, h.mp, h.pc, h.pf, h.Fp, hr.sm⟩
theorem RP.below (h : RP w2 Wb g F bc bf bp W q c pv p) (hb : Below W.heap.size W W') : RP w2 Wb g F bc bf bp W' q c pv p := by
  obtain ⟨a, hc, hs⟩ := h.cur
  exact ⟨h.blk.below hb h.blk.lt, h.own.below elPha_good hb, h.hFp, h.nown, ⟨a, hc.below hb, hs⟩, h.bel.trans (hb.mono (Nat.le_of_lt h.blk.lt)), h.hg, h.hF, h.len, h.kc.below hb h.kc.lt, h.kf.below hb h.kf.lt, h.kp.below hb h.kp.lt, h.nc, h.nf, h.mc, h.mf, h.np, h.mp, h.pc, h.pf, h.Fp, h.sm.trans (Same.below hb fun b hb => (hc.foot b hb).1)⟩
theorem RP.set (h : RP w2 Wb g F bc bf bp W q c pv p) (i : Nat) (u : Value) (hp : (#[.int .i64 p.fr, .int .i64 p.til, .int .i64 p.out] : Array Value).setIfInBounds i u = #[.int .i64 p'.fr, .int .i64 p'.til, .int .i64 p'.out]) : RP w2 Wb g F bc bf bp (W.setCell ⟨bp, i, none⟩ u) q c pv p' := by
  obtain ⟨a, hc, hs⟩ := h.cur
  have hm := h.mp
  refine ⟨h.blk.far (by simp; omega) _, h.own.grown elPha_good ((Only.refl bp W).setCell (p := ⟨bp, i, none⟩) (.inl rfl) _) fun b hb e => h.nown (by rw [hb, e]), h.hFp, h.nown, ⟨a, hc.far h.np h.Fp _ rfl _, hs⟩, h.bel.setCell (Nat.le_of_lt hm) _, h.hg, h.hF, h.len, h.kc.far h.pc _, h.kf.far h.pf _, ?_, h.nc, h.nf, h.mc, h.mf, h.np, h.mp, h.pc, h.pf, h.Fp, h.sm.trans fun b hb => Below.heap_setCell W ⟨bp, i, none⟩ u b (fun e => h.Fp (by rw [show bp = b from e.symm]; exact hb))⟩
  rw [← hp]; exact h.kp.set_ i u
theorem RP.new (h : RD w2 Wb g F bc bf W q c) (p : Pha) : ∃ pv, RP w2 Wb g F bc bf W.heap.size (W.alloc (.cells #[.int .i64 p.fr, .int .i64 p.til, .int .i64 p.out] 45)) q c pv p := by
  obtain ⟨pv, hk, hown, hFp⟩ := h.ex
  obtain ⟨a, hc, hs⟩ := h.cur
  have hb : Below W.heap.size W (W.alloc (.cells #[.int .i64 p.fr, .int .i64 p.til, .int .i64 p.out] 45)) := Below.alloc (Below.refl _ _) (Nat.le_refl _) _
  have l1 := hk.lt
  have l2 := hc.lt
  have l3 := h.kc.lt
  have l4 := h.kf.lt
  exact ⟨pv, hk.below hb l1, hown.below elPha_good hb, hFp, fun e => by have := (hown.block _ e).2; omega, ⟨a, hc.below hb, hs⟩, h.bel.trans (hb.mono (Nat.le_of_lt l1)), h.hg, h.hF, h.len, h.kc.below hb l3, h.kf.below hb l4, Blk.new W _ _, h.nc, h.nf, h.mc, h.mf, by omega, l1, by omega, by omega, fun e => by have := (hc.foot _ e).1; omega, h.sm.trans (Same.below hb fun b hb => (hc.foot b hb).1)⟩
theorem rp_Int (hgl : GlobN w2) (h : RP w2 Wb g F bc bf bp W q c pv p) : Calls Tryz.prog 73 #[.pointer (some ⟨g, 0, none⟩), .int .i64 0, .int .i64 10000] W fun e W' => e = .returned (.int .i64 c.n.2) ∧ RP w2 Wb g F bc bf bp W' q c.n.1 pv p := by
  obtain ⟨a, hc, hs⟩ := h.cur
  refine (cur_Int a 0 10000 F g W hc (fun f hf => by rw [hs.fields] at hf; have := h.len f hf; omega) fun W9 h9 => hgl.below (h.bel.trans (h9.below (Nat.le_of_lt h.hg) (Nat.le_of_lt h.blk.lt)))).mono ?_
  rintro e W' ⟨rfl, h1, h2⟩
  have hi := hs.int 0 10000
  exact ⟨by rw [hi.2]; rfl, h.only h2 h1 hi.1 (Cur.int_fields _ _ _)⟩
theorem RP.cells (h : RP w2 Wb g F bc bf bp W q c pv p) : W.cell? ⟨bc, 0, none⟩ = some (.pointer (some ⟨g, 0, none⟩)) ∧ W.cell? ⟨bf, 0, none⟩ = some (.func (.func 72) #[] #[.pointer (some ⟨bc, 0, none⟩)]) ∧ W.cell? ⟨bp, 0, none⟩ = some (.int .i64 p.fr) ∧ W.cell? ⟨bp, 1, none⟩ = some (.int .i64 p.til) ∧ W.cell? ⟨bp, 2, none⟩ = some (.int .i64 p.out) ∧ W.frozen? ⟨bp, 1, none⟩ = false ∧ W.frozen? ⟨bp, 2, none⟩ = false ∧ W.cell? ⟨w2.heap.size, 13, none⟩ = some pv ∧ W.frozen? ⟨w2.heap.size, 13, none⟩ = false :=
  ⟨h.kc.cell 0, h.kf.cell 0, h.kp.cell 0, h.kp.cell 1, h.kp.cell 2, h.kp.frozen 1, h.kp.frozen 2, h.blk.cell 13, h.blk.frozen 13⟩
end
set_option maxRecDepth 100000 in
set_option maxHeartbeats 2000000 in
theorem read1p {w2 Wb : World} {g : Nat} {F : Nat → Prop} {bc bf bp : Nat} {W : World} {q : Rul} {c c' : Cur} {pv : Value} {p : Pha} {v : Int} (hgl : GlobN w2) (h : RP w2 Wb g F bc bf bp W q c pv p) (hcv : (c', v) = c.n) :
    Calls Tryz.prog 72 #[.pointer (some ⟨bc, 0, none⟩)] W fun e W' => e = .returned (.int .i64 v) ∧ RP w2 Wb g F bc bf bp W' q c' pv p := by
  obtain ⟨y0, _⟩ := h.cells
  have k := rp_Int hgl h
  rw [← hcv] at k
  have K := Lib.hid k
  clear h hgl hcv k
  go_enter Tryz.func72, Tryz.ntmps72
  go_wp2_with (go_at_call 73; refine K.out.mono ?_; rintro e W' ⟨rfl, h1⟩; have H1 := Lib.hid h1; clear h1)
  go_ret
  exact ⟨rfl, H1.out⟩
set_option maxRecDepth 100000 in
set_option maxHeartbeats 4000000 in
theorem read_pow {w2 Wb : World} {g : Nat} {F : Nat → Prop} {W : World} {q : Rul} {c : Cur} {i : Nat} (hgl : GlobN w2) (h : RC w2 Wb g F W q c) (hi : 12 ≤ i) (hn : q.power.length ≤ 1000000) :
    Calls Tryz.prog 48 #[.pointer (some ⟨w2.heap.size, 0, none⟩), .int .i64 i, .pointer (some ⟨g, 0, none⟩)] W fun e W' => e = .returned (.tuple #[]) ∧ RC w2 Wb g F W' (readR q i c).1 (readR q i c).2 := by
  have hd := RD.one h
  obtain ⟨cc, hcc⟩ : ∃ x, x = (c.keyword kPOWER).1 := ⟨_, rfl⟩
  obtain ⟨⟨c1, v1⟩, h1⟩ : ∃ x, x = cc.n := ⟨_, rfl⟩
  obtain ⟨⟨c2, v2⟩, h2⟩ : ∃ x, x = c1.n := ⟨_, rfl⟩
  obtain ⟨⟨c3, v3⟩, h3⟩ : ∃ x, x = c2.n := ⟨_, rfl⟩
  have he : readR q i c = ({ q with power := q.power ++ [⟨v1, v2, v3⟩] }, c3) := by
    obtain ⟨j, rfl⟩ : ∃ j, i = j + 12 := ⟨i - 12, by omega⟩
    have hr : readR q (j + 12) c = ({ q with power := q.power ++ [⟨(c.keyword kPOWER).1.n.2, (c.keyword kPOWER).1.n.1.n.2, (c.keyword kPOWER).1.n.1.n.1.n.2⟩] }, (c.keyword kPOWER).1.n.1.n.1.n.1) := rfl
    rw [hr, ← hcc, ← h1, ← h2, ← h3]
  rw [he]
  have k1 := rd_Keyword hd ⟨#[80, 79, 87, 69, 82]⟩
  have e1 : (c.keyword (ByteArray.mk #[80, 79, 87, 69, 82]).data.toList).1 = cc := hcc.symm
  rw [e1] at k1
  have k2 := fun W1 (h9 : RD w2 Wb g F W.heap.size (W.heap.size + 1) W1 q cc) => read1 hgl h9
  rw [← h1] at k2
  have K1 := Lib.hid k1
  have K2 := Lib.hid k2
  have HGL := Lib.hid hgl
  have H2E := Lib.hid h2
  have H3E := Lib.hid h3
  have tok0 : True := trivial
  have g0 : ((i : Int) == 0) = false := beq_eq_false_iff_ne.2 (by omega)
  have g1 : ((i : Int) == 1) = false := beq_eq_false_iff_ne.2 (by omega)
  have g2 : ((i : Int) == 2) = false := beq_eq_false_iff_ne.2 (by omega)
  have g3 : ((i : Int) == 3) = false := beq_eq_false_iff_ne.2 (by omega)
  have g4 : ((i : Int) == 4) = false := beq_eq_false_iff_ne.2 (by omega)
  have g5 : ((i : Int) == 5) = false := beq_eq_false_iff_ne.2 (by omega)
  have g6 : ((i : Int) == 6) = false := beq_eq_false_iff_ne.2 (by omega)
  have g7 : ((i : Int) == 7) = false := beq_eq_false_iff_ne.2 (by omega)
  have g8 : ((i : Int) == 8) = false := beq_eq_false_iff_ne.2 (by omega)
  have g9 : ((i : Int) == 9) = false := beq_eq_false_iff_ne.2 (by omega)
  have g10 : ((i : Int) == 10) = false := beq_eq_false_iff_ne.2 (by omega)
  have g11 : ((i : Int) == 11) = false := beq_eq_false_iff_ne.2 (by omega)
  clear h hd k1 k2 hgl hcc h1 h2 h3 he e1
  go_enter Tryz.func48, Tryz.ntmps48
  go_wp2_with (first
    | (clear tok0; go_at_call 75; refine K1.out.mono ?_; rintro e W1 ⟨⟨bb, rfl⟩, hd1⟩; obtain ⟨y0, y1⟩ := hd1.cells; have D1 := Lib.hid hd1; clear hd1; have tok1 : True := trivial)
    | (clear tok1; go_at_call 72; refine (K2.out _ D1.out).mono ?_; rintro e W2 ⟨rfl, hd2⟩; clear y0 y1; obtain ⟨y0, y1⟩ := hd2.cells; obtain ⟨pv, hp2⟩ := RP.new hd2 ⟨v1, 0, 0⟩; have n1 := hd2.kc.lt; have n2 := hd2.kf.lt; have P2 := Lib.hid hp2; clear hd2 hp2; have tok2 : True := trivial)
    | (clear tok2; go_at_call 72; refine (read1p HGL.out P2.out H2E.out).mono ?_; rintro e W3 ⟨rfl, hp3⟩; clear y0 y1; obtain ⟨y0, y1, a0, a1, a2, f1, f2, a13, f13⟩ := hp3.cells; have P3 := Lib.hid (hp3.set (p' := ⟨v1, v2, 0⟩) 1 (.int .i64 v2) rfl); have n3 := hp3.pc; have n4 := hp3.pf; clear hp3; have tok3 : True := trivial)
    | (clear tok3; go_at_call 72; refine (read1p HGL.out P3.out H3E.out).mono ?_; rintro e W4 ⟨rfl, hp4⟩; clear y0 y1 a0 a1 a2 f1 f2 a13 f13; obtain ⟨y0, y1, a0, a1, a2, f1, f2, a13, f13⟩ := hp4.cells; have P4 := Lib.hid (hp4.set (p' := ⟨v1, v2, v3⟩) 2 (.int .i64 v3) rfl); clear hp4; have tok4 : True := trivial))
  have hst := P4.out
  revert hst
  generalize World.setCell _ _ _ = W5
  intro hst
  have h5 := hst.rd.toRC
  obtain ⟨_, _, a0, a1, a2, _, _, a13, f13⟩ := (hst.below (Below.drew (Below.refl _ _))).cells
  obtain ⟨_, _, _, _, _, _, _, b13, _⟩ := (hst.below (Below.drew (Below.alloc (Below.refl _ _) (Nat.le_refl _) (.cells #[.int .i64 v1, .int .i64 v2, .int .i64 v3] 45)))).cells
  dsimp only at a0 a1 a2
  have how : OwnSl 3 elPha 45 (w2.heap.size + 1) W5.drew pv q.power := hst.own.below elPha_good (Below.drew (Below.refl _ _))
  have hz5 := h5.lt
  have HOW := Lib.hid how
  have P5 := Lib.hid hst
  clear hst h5 how
  go_region_law ((refine step_append_el rfl (.tmp 27) (.tmp 29) _ rfl E_pha elPha_good (w2.heap.size + 1) pv q.power rfl (HOW.out.alloc elPha_good _) ⟨W5.heap.size, 0, none⟩ 1 [.int .i64 v1, .int .i64 v2, .int .i64 v3] rfl ⟨v1, v2, v3⟩ rfl (cells_new _ _ _ _) (oneCells rfl) rfl (by simp only [maxLen]; omega) (by omega) (by simp; omega) ?_; intro g6 cap6 w6 hown6 hg6 hat6; obtain ⟨hk3, hr3⟩ := rc_app (W := W5.drew) P5.out.rd.toRC.drew P5.out.blk HOW.out P5.out.hFp hg6 hown6 (hat6.imp (fun e => e) fun e => congrArg some e); have y4 : w6.cell? ⟨w2.heap.size, 13, none⟩ = some pv := hk3.cell 13; have f4 := hk3.frozen 13; have HR3 := Lib.hid hr3; clear hk3 hr3 hown6 hg6 hat6))
  all_goals go_wp2
  all_goals go_end0
  all_goals exact ⟨rfl, HR3.out⟩
theorem rul_read {w2 Wb : World} {g : Nat} {F : Nat → Prop} {W : World} {q : Rul} {c : Cur} (i : Nat) (hgl : GlobN w2) (h : RC w2 Wb g F W q c) (hn : q.power.length ≤ 1000000) :
    Calls Tryz.prog 48 #[.pointer (some ⟨w2.heap.size, 0, none⟩), .int .i64 i, .pointer (some ⟨g, 0, none⟩)] W fun e W' => e = .returned (.tuple #[]) ∧ RC w2 Wb g F W' (readR q i c).1 (readR q i c).2 := by
  by_cases hi : 12 ≤ i
  · exact read_pow hgl h hi hn
  · match i, (show i < 12 by omega) with
    | 0, _ => exact read_0 hgl h
    | 1, _ => exact read_1 hgl h
    | 2, _ => exact read_2 hgl h
    | 3, _ => exact read_3 hgl h
    | 4, _ => exact read_4 hgl h
    | 5, _ => exact read_5 hgl h
    | 6, _ => exact read_6 hgl h
    | 7, _ => exact read_7 hgl h
    | 8, _ => exact read_8 hgl h
    | 9, _ => exact read_9 hgl h
    | 10, _ => exact read_10 hgl h
    | 11, _ => exact read_11 hgl h
end Go.Proofs.YtnacklbaphobbaaGreatDoor
