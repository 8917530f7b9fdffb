/- The contract of rules.read, with its closures: the rules that are read in a block, the cursor beside them. -/
import Derived.Test.YtnacklbaphobbaaGreatDoorQG
import Derived.Test.YtnacklbaphobbaaGreatDoorC5
import Derived.Test.YtnacklbaphobbaaGreatDoorPP
import Derived.Test.YtnacklbaphobbaaGreatDoorU3
import Derived.Laws.EntriesVeiled
set_option linter.unusedSimpArgs false
set_option linter.unusedVariables false
namespace Go.Proofs.YtnacklbaphobbaaGreatDoor
open Go.RowKit

theorem E_pha : ElemOf Tryz.prog 22 45 3 24 := ElemOf.mk (z := .agg #[.int .i64 0, .int .i64 0, .int .i64 0]) Tryz.underlying22 (by kernel_rfl) rfl (by decide)
/-- While rules are read: they lie in the block w2.heap.size, the cursor in block g. -/
structure RC (w2 Wb : World) (g : Nat) (F : Nat → Prop) (W : World) (q : Rul) (c : Cur) : Prop where
  ex : ∃ pv, Blk W w2.heap.size 24 (rulCells q pv) ∧ OwnSl 3 elPha 45 (w2.heap.size + 1) W pv q.power ∧ (∀ b, F b → pv.ownBlock ≠ some b)
  cur : ∃ a, CurAt W F g a ∧ Cur.sim a c
  bel : Below w2.heap.size w2 W
  hg : w2.heap.size < g
  hF : ¬ F w2.heap.size
  len : ∀ f ∈ c.fields, f.text.length ≤ 1000
  sm : Same F Wb W
section
variable {w2 Wb : World} {g : Nat} {F : Nat → Prop} {W W' : World} {q q' : Rul} {c c' : Cur}
theorem RC.lt (h : RC w2 Wb g F W q c) : w2.heap.size < W.heap.size := let ⟨_, hk, _⟩ := h.ex; hk.lt
theorem RC.only (h : RC w2 Wb g F W q c) (ho : Only g W W') {a : Cur} (hc : CurAt W' F g a) (hs : Cur.sim a c') (hf : c'.fields = c.fields) : RC w2 Wb g F W' q c' := by
  obtain ⟨pv, hk, hown, hF⟩ := h.ex
  obtain ⟨a0, hc0, _⟩ := h.cur
  have hgl := h.hg
  refine ⟨⟨pv, hk.grown ho (by simp; omega), hown.grown elPha_good ho fun b hb e => ?_, hF⟩, ⟨a, hc, hs⟩, h.bel.trans (ho.below (Nat.le_of_lt h.hg) (Nat.le_of_lt h.lt)), h.hg, h.hF, by rw [hf]; exact h.len, h.sm.trans (ho.same fun b hb => hc0.foot b hb)⟩
  have : g = b := Option.some.inj e
  subst this
  exact hc0.ne_own hown (by decide) hb
theorem RC.below (h : RC w2 Wb g F W q c) (hb : Below W.heap.size W W') : RC w2 Wb g F W' q c := by
  obtain ⟨pv, hk, hown, hF⟩ := h.ex
  obtain ⟨a, hc, hs⟩ := h.cur
  exact ⟨⟨pv, hk.below hb hk.lt, hown.below elPha_good hb, hF⟩, ⟨a, hc.below hb, hs⟩, h.bel.trans (hb.mono (Nat.le_of_lt h.lt)), h.hg, h.hF, h.len, h.sm.trans (Same.below hb fun b hb => (hc.foot b hb).1)⟩
theorem RC.set (h : RC w2 Wb g F W q c) (f : Nat) (u : Value) (hq : ∀ pv, (rulCells q pv).setIfInBounds f u = rulCells q' pv) (hp : q'.power = q.power) : RC w2 Wb g F (W.setCell ⟨w2.heap.size, f, none⟩ u) q' c := by
  obtain ⟨pv, hk, hown, hF⟩ := h.ex
  obtain ⟨a, hc, hs⟩ := h.cur
  have hgl := h.hg
  refine ⟨⟨pv, ?_, ?_, hF⟩, ⟨a, hc.far (by omega) h.hF _ rfl _, hs⟩, h.bel.setCell (Nat.le_refl _) _, h.hg, h.hF, h.len, h.sm.trans fun b hb => Below.heap_setCell W ⟨w2.heap.size, f, none⟩ u b (fun e => h.hF (by rw [show w2.heap.size = b from e.symm]; exact hb))⟩
  · rw [← hq pv]; exact hk.set_ f u
  · rw [hp]; exact hown.grown elPha_good ((Only.refl w2.heap.size W).setCell (p := ⟨w2.heap.size, f, none⟩) (.inl rfl) _) fun b hb e => own_ne hown hk (by decide) (by rw [hb, e])
/-- The two boxes of the closures: the cursor's pointer, the reader of a number. -/
structure RD (w2 Wb : World) (g : Nat) (F : Nat → Prop) (bc bf : Nat) (W : World) (q : Rul) (c : Cur) : Prop extends RC w2 Wb g F W q c where
  kc : Blk W bc 65 #[.pointer (some ⟨g, 0, none⟩)]
  kf : Blk W bf 101 #[.func (.func 72) #[] #[.pointer (some ⟨bc, 0, none⟩)]]
  nc : bc ≠ g
  nf : bf ≠ g
  mc : bc ≠ w2.heap.size
  mf : bf ≠ w2.heap.size
variable {bc bf : Nat}
theorem RD.only (h : RD w2 Wb g F bc bf W q c) (ho : Only g W W') {a : Cur} (hc : CurAt W' F g a) (hs : Cur.sim a c') (hf : c'.fields = c.fields) : RD w2 Wb g F bc bf W' q c' :=
  ⟨h.toRC.only ho hc hs hf, h.kc.grown ho (by simpa using fun e => h.nc e.symm), h.kf.grown ho (by simpa using fun e => h.nf e.symm), h.nc, h.nf, h.mc, h.mf⟩
theorem RD.set (h : RD w2 Wb g F bc bf W q c) (f : Nat) (u : Value) (hq : ∀ pv, (rulCells q pv).setIfInBounds f u = rulCells q' pv) (hp : q'.power = q.power) : RD w2 Wb g F bc bf (W.setCell ⟨w2.heap.size, f, none⟩ u) q' c :=
  ⟨h.toRC.set f u hq hp, h.kc.far h.mc _, h.kf.far h.mf _, h.nc, h.nf, h.mc, h.mf⟩
theorem RD.below (h : RD w2 Wb g F bc bf W q c) (hb : Below W.heap.size W W') : RD w2 Wb g F bc bf W' q c :=
  ⟨h.toRC.below hb, h.kc.below hb h.kc.lt, h.kf.below hb h.kf.lt, h.nc, h.nf, h.mc, h.mf⟩
theorem RD.cells (h : RD w2 Wb g F bc bf W q c) : W.cell? ⟨bc, 0, none⟩ = some (.pointer (some ⟨g, 0, none⟩)) ∧ W.cell? ⟨bf, 0, none⟩ = some (.func (.func 72) #[] #[.pointer (some ⟨bc, 0, none⟩)]) := ⟨h.kc.cell 0, h.kf.cell 0⟩
theorem RC.spot (h : RC w2 Wb g F W q c) (f : Nat) (hf : f < 14) : (∃ u, W.cell? ⟨w2.heap.size, f, none⟩ = some u) ∧ W.frozen? ⟨w2.heap.size, f, none⟩ = false := by
  obtain ⟨pv, hk, _⟩ := h.ex
  refine ⟨?_, hk.frozen f⟩
  rw [hk.cell]
  exact ⟨_, Array.getElem?_eq_getElem (show f < (rulCells q pv).size from hf)⟩
theorem rd_Keyword (h : RD w2 Wb g F bc bf W q c) (kw : ByteArray) : Calls Tryz.prog 75 #[.pointer (some ⟨g, 0, none⟩), .string kw] W fun e W' => (∃ b, e = .returned (.bool b)) ∧ RD w2 Wb g F bc bf W' q (c.keyword kw.data.toList).1 := by
  obtain ⟨a, hc, hs⟩ := h.cur
  refine (cur_Keyword a kw F g W hc).mono ?_
  rintro e W' ⟨rfl, h1, h2⟩
  exact ⟨⟨_, rfl⟩, h.only h2 h1 (hs.keyword _).1 (Cur.keyword_fields _ _)⟩
theorem rd_Ident (h : RD w2 Wb g F bc bf W q c) : Calls Tryz.prog 76 #[.pointer (some ⟨g, 0, none⟩)] W fun e W' => e = .returned (.string (S c.ident.2)) ∧ RD w2 Wb g F bc bf W' q c.ident.1 := by
  obtain ⟨a, hc, hs⟩ := h.cur
  refine (cur_Ident a F g W hc fun f hf => by rw [hs.fields] at hf; have := h.len f hf; omega).mono ?_
  rintro e W' ⟨rfl, h1, h2⟩
  exact ⟨by rw [hs.ident.2], h.only h2 h1 hs.ident.1 (Cur.ident_fields _)⟩
theorem rd_Int (hgl : GlobN w2) (h : RD w2 Wb g F bc bf W q c) : Calls Tryz.prog 73 #[.pointer (some ⟨g, 0, none⟩), .int .i64 0, .int .i64 10000] W fun e W' => e = .returned (.int .i64 c.n.2) ∧ RD w2 Wb g F bc bf W' q c.n.1 := by
  obtain ⟨a, hc, hs⟩ := h.cur
  refine (cur_Int a 0 10000 F g W hc (fun f hf => by rw [hs.fields] at hf; have := h.len f hf; omega) fun W9 h9 => hgl.below (h.bel.trans (h9.below (Nat.le_of_lt h.hg) (Nat.le_of_lt h.lt)))).mono ?_
  rintro e W' ⟨rfl, h1, h2⟩
  have hi := hs.int 0 10000
  exact ⟨by rw [hi.2]; rfl, h.only h2 h1 hi.1 (Cur.int_fields _ _ _)⟩
end
theorem RD.one {w2 Wb : World} {g : Nat} {F : Nat → Prop} {W : World} {q : Rul} {c : Cur} (h : RC w2 Wb g F W q c) :
    RD w2 Wb g F W.heap.size (W.heap.size + 1) ((W.alloc (.cells #[.pointer (some ⟨g, 0, none⟩)] 65)).alloc (.cells #[.func (.func 72) #[] #[.pointer (some ⟨W.heap.size, 0, none⟩)]] 101)) q c := by
  have e : (W.alloc (.cells #[.pointer (some ⟨g, 0, none⟩)] 65)).heap.size = W.heap.size + 1 := by simp
  have k := Blk.new (W.alloc (.cells #[.pointer (some ⟨g, 0, none⟩)] 65)) 101 #[.func (.func 72) #[] #[.pointer (some ⟨W.heap.size, 0, none⟩)]]
  rw [e] at k
  have hl := h.lt
  obtain ⟨a, hc, _⟩ := h.cur
  have hcl := hc.lt
  exact ⟨h.below (Below.alloc (Below.alloc (Below.refl _ _) (Nat.le_refl _) _) (by simp) _), (Blk.new W _ _).alloc _, k, by omega, by omega, by omega, by omega⟩
set_option maxRecDepth 100000 in
set_option maxHeartbeats 2000000 in
theorem read1 {w2 Wb : World} {g : Nat} {F : Nat → Prop} {bc bf : Nat} {W : World} {q : Rul} {c : Cur} (hgl : GlobN w2) (h : RD w2 Wb g F bc bf W q c) :
    Calls Tryz.prog 72 #[.pointer (some ⟨bc, 0, none⟩)] W fun e W' => e = .returned (.int .i64 c.n.2) ∧ RD w2 Wb g F bc bf W' q c.n.1 := by
  obtain ⟨y0, y1⟩ := h.cells
  have K := Lib.hid (rd_Int hgl h)
  obtain ⟨v, hv⟩ : ∃ v, v = c.n.2 := ⟨_, rfl⟩
  rw [← hv] at K ⊢
  clear h hgl hv
  go_enter Tryz.func72, Tryz.ntmps72
  go_wp2_with (go_at_call 73; refine K.out.mono ?_; rintro e W' ⟨rfl, h1⟩; have H1 := Lib.hid h1; clear h1)
  go_ret
  exact ⟨rfl, H1.out⟩
set_option maxRecDepth 100000 in
set_option maxHeartbeats 2000000 in
theorem read2 {w2 Wb : World} {g : Nat} {F : Nat → Prop} {bc bf : Nat} {W : World} {q q' : Rul} {c : Cur} (hgl : GlobN w2) (h : RD w2 Wb g F bc bf W q c) (kw : ByteArray) (f : Nat) (hf : f < 14) (c' : Cur) (v : Int) (hcv : (c', v) = (c.keyword kw.data.toList).1.n)
    (hq : ∀ pv, (rulCells q pv).setIfInBounds f (.int .i64 v) = rulCells q' pv) (hp : q'.power = q.power) :
    Calls Tryz.prog 74 #[.string kw, .pointer (some ⟨w2.heap.size, f, none⟩), .pointer (some ⟨bc, 0, none⟩), .pointer (some ⟨bf, 0, none⟩)] W fun e W' => e = .returned (.tuple #[]) ∧ RD w2 Wb g F bc bf W' q' c' := by
  obtain ⟨y0, y1⟩ := h.cells
  have k1 := rd_Keyword h kw
  have k2 := fun W1 (h1 : RD w2 Wb g F bc bf W1 q (c.keyword kw.data.toList).1) => read1 hgl h1
  rw [← hcv] at k2
  generalize (c.keyword kw.data.toList).1 = cc at k1 k2
  have K1 := Lib.hid k1
  have K2 := Lib.hid k2
  have HQ := Lib.hid hq
  have HP := Lib.hid hp
  have tok0 : True := trivial
  clear h k1 k2 hgl hcv hq hp
  go_enter Tryz.func74, Tryz.ntmps74
  go_wp2_with (first
    | (clear tok0; go_at_call 75; refine K1.out.mono ?_; rintro e W1 ⟨⟨bb, rfl⟩, h1⟩; clear y0 y1; obtain ⟨y0, y1⟩ := h1.cells; have H1 := Lib.hid h1; clear h1; have tok1 : True := trivial)
    | (clear tok1; go_at_call 72; refine (K2.out _ H1.out).mono ?_; rintro e W2 ⟨rfl, h2⟩; obtain ⟨⟨u, z0⟩, z1⟩ := h2.spot f hf; have H2 := Lib.hid h2; clear h2; have tok2 : True := trivial))
  go_end0
  exact ⟨rfl, H2.out.set f _ HQ.out HP.out⟩
set_option maxRecDepth 100000 in
set_option maxHeartbeats 2000000 in
theorem read_1 {w2 Wb : World} {g : Nat} {F : Nat → Prop} {W : World} {q : Rul} {c : Cur} (hgl : GlobN w2) (h : RC w2 Wb g F W q c) :
    Calls Tryz.prog 48 #[.pointer (some ⟨w2.heap.size, 0, none⟩), .int .i64 1, .pointer (some ⟨g, 0, none⟩)] W fun e W' => e = .returned (.tuple #[]) ∧ RC w2 Wb g F W' (readR q 1 c).1 (readR q 1 c).2 := by
  have hd := RD.one h
  obtain ⟨y0, y1⟩ := hd.cells
  obtain ⟨⟨c', v⟩, hcv⟩ : ∃ x, x = (c.keyword kSIDE).1.n := ⟨_, rfl⟩
  have he : readR q 1 c = ({ q with side := v }, c') := by
    have : readR q 1 c = ({ q with side := (c.keyword kSIDE).1.n.2 }, (c.keyword kSIDE).1.n.1) := rfl
    rw [this, ← hcv]
  rw [he]
  have k1 := read2 hgl hd ⟨#[83, 73, 68, 69]⟩ 1 (by decide) c' v hcv (q' := { q with side := v }) (fun _ => rfl) rfl
  have K1 := Lib.hid k1
  clear h hd k1 hgl hcv he y0 y1
  go_enter Tryz.func48, Tryz.ntmps48
  go_wp2_with (go_at_call 74; refine K1.out.mono ?_; rintro e W1 ⟨rfl, h1⟩; have H1 := Lib.hid h1; clear h1)
  go_end0
  exact ⟨rfl, H1.out.toRC⟩
set_option maxRecDepth 100000 in
set_option maxHeartbeats 2000000 in
theorem read_2 {w2 Wb : World} {g : Nat} {F : Nat → Prop} {W : World} {q : Rul} {c : Cur} (hgl : GlobN w2) (h : RC w2 Wb g F W q c) :
    Calls Tryz.prog 48 #[.pointer (some ⟨w2.heap.size, 0, none⟩), .int .i64 2, .pointer (some ⟨g, 0, none⟩)] W fun e W' => e = .returned (.tuple #[]) ∧ RC w2 Wb g F W' (readR q 2 c).1 (readR q 2 c).2 := by
  have hd := RD.one h
  obtain ⟨y0, y1⟩ := hd.cells
  obtain ⟨⟨c', v⟩, hcv⟩ : ∃ x, x = (c.keyword kINNINGS).1.n := ⟨_, rfl⟩
  have he : readR q 2 c = ({ q with inns := v }, c') := by
    have : readR q 2 c = ({ q with inns := (c.keyword kINNINGS).1.n.2 }, (c.keyword kINNINGS).1.n.1) := rfl
    rw [this, ← hcv]
  rw [he]
  have k1 := read2 hgl hd ⟨#[73, 78, 78, 73, 78, 71, 83]⟩ 2 (by decide) c' v hcv (q' := { q with inns := v }) (fun _ => rfl) rfl
  have K1 := Lib.hid k1
  clear h hd k1 hgl hcv he y0 y1
  go_enter Tryz.func48, Tryz.ntmps48
  go_wp2_with (go_at_call 74; refine K1.out.mono ?_; rintro e W1 ⟨rfl, h1⟩; have H1 := Lib.hid h1; clear h1)
  go_end0
  exact ⟨rfl, H1.out.toRC⟩
set_option maxRecDepth 100000 in
set_option maxHeartbeats 2000000 in
theorem read_3 {w2 Wb : World} {g : Nat} {F : Nat → Prop} {W : World} {q : Rul} {c : Cur} (hgl : GlobN w2) (h : RC w2 Wb g F W q c) :
    Calls Tryz.prog 48 #[.pointer (some ⟨w2.heap.size, 0, none⟩), .int .i64 3, .pointer (some ⟨g, 0, none⟩)] W fun e W' => e = .returned (.tuple #[]) ∧ RC w2 Wb g F W' (readR q 3 c).1 (readR q 3 c).2 := by
  have hd := RD.one h
  obtain ⟨y0, y1⟩ := hd.cells
  obtain ⟨⟨c', v⟩, hcv⟩ : ∃ x, x = (c.keyword kOVERS).1.n := ⟨_, rfl⟩
  have he : readR q 3 c = ({ q with overs := v }, c') := by
    have : readR q 3 c = ({ q with overs := (c.keyword kOVERS).1.n.2 }, (c.keyword kOVERS).1.n.1) := rfl
    rw [this, ← hcv]
  rw [he]
  have k1 := read2 hgl hd ⟨#[79, 86, 69, 82, 83]⟩ 3 (by decide) c' v hcv (q' := { q with overs := v }) (fun _ => rfl) rfl
  have K1 := Lib.hid k1
  clear h hd k1 hgl hcv he y0 y1
  go_enter Tryz.func48, Tryz.ntmps48
  go_wp2_with (go_at_call 74; refine K1.out.mono ?_; rintro e W1 ⟨rfl, h1⟩; have H1 := Lib.hid h1; clear h1)
  go_end0
  exact ⟨rfl, H1.out.toRC⟩
set_option maxRecDepth 100000 in
set_option maxHeartbeats 2000000 in
theorem read_4 {w2 Wb : World} {g : Nat} {F : Nat → Prop} {W : World} {q : Rul} {c : Cur} (hgl : GlobN w2) (h : RC w2 Wb g F W q c) :
    Calls Tryz.prog 48 #[.pointer (some ⟨w2.heap.size, 0, none⟩), .int .i64 4, .pointer (some ⟨g, 0, none⟩)] W fun e W' => e = .returned (.tuple #[]) ∧ RC w2 Wb g F W' (readR q 4 c).1 (readR q 4 c).2 := by
  have hd := RD.one h
  obtain ⟨y0, y1⟩ := hd.cells
  obtain ⟨⟨c', v⟩, hcv⟩ : ∃ x, x = (c.keyword kBALLS).1.n := ⟨_, rfl⟩
  have he : readR q 4 c = ({ q with balls := v }, c') := by
    have : readR q 4 c = ({ q with balls := (c.keyword kBALLS).1.n.2 }, (c.keyword kBALLS).1.n.1) := rfl
    rw [this, ← hcv]
  rw [he]
  have k1 := read2 hgl hd ⟨#[66, 65, 76, 76, 83]⟩ 4 (by decide) c' v hcv (q' := { q with balls := v }) (fun _ => rfl) rfl
  have K1 := Lib.hid k1
  clear h hd k1 hgl hcv he y0 y1
  go_enter Tryz.func48, Tryz.ntmps48
  go_wp2_with (go_at_call 74; refine K1.out.mono ?_; rintro e W1 ⟨rfl, h1⟩; have H1 := Lib.hid h1; clear h1)
  go_end0
  exact ⟨rfl, H1.out.toRC⟩
set_option maxRecDepth 100000 in
set_option maxHeartbeats 2000000 in
theorem read_5 {w2 Wb : World} {g : Nat} {F : Nat → Prop} {W : World} {q : Rul} {c : Cur} (hgl : GlobN w2) (h : RC w2 Wb g F W q c) :
    Calls Tryz.prog 48 #[.pointer (some ⟨w2.heap.size, 0, none⟩), .int .i64 5, .pointer (some ⟨g, 0, none⟩)] W fun e W' => e = .returned (.tuple #[]) ∧ RC w2 Wb g F W' (readR q 5 c).1 (readR q 5 c).2 := by
  have hd := RD.one h
  obtain ⟨y0, y1⟩ := hd.cells
  obtain ⟨⟨c', v⟩, hcv⟩ : ∃ x, x = (c.keyword kQUOTA).1.n := ⟨_, rfl⟩
  have he : readR q 5 c = ({ q with quota := v }, c') := by
    have : readR q 5 c = ({ q with quota := (c.keyword kQUOTA).1.n.2 }, (c.keyword kQUOTA).1.n.1) := rfl
    rw [this, ← hcv]
  rw [he]
  have k1 := read2 hgl hd ⟨#[81, 85, 79, 84, 65]⟩ 5 (by decide) c' v hcv (q' := { q with quota := v }) (fun _ => rfl) rfl
  have K1 := Lib.hid k1
  clear h hd k1 hgl hcv he y0 y1
  go_enter Tryz.func48, Tryz.ntmps48
  go_wp2_with (go_at_call 74; refine K1.out.mono ?_; rintro e W1 ⟨rfl, h1⟩; have H1 := Lib.hid h1; clear h1)
  go_end0
  exact ⟨rfl, H1.out.toRC⟩
set_option maxRecDepth 100000 in
set_option maxHeartbeats 2000000 in
theorem read_8 {w2 Wb : World} {g : Nat} {F : Nat → Prop} {W : World} {q : Rul} {c : Cur} (hgl : GlobN w2) (h : RC w2 Wb g F W q c) :
    Calls Tryz.prog 48 #[.pointer (some ⟨w2.heap.size, 0, none⟩), .int .i64 8, .pointer (some ⟨g, 0, none⟩)] W fun e W' => e = .returned (.tuple #[]) ∧ RC w2 Wb g F W' (readR q 8 c).1 (readR q 8 c).2 := by
  have hd := RD.one h
  obtain ⟨y0, y1⟩ := hd.cells
  obtain ⟨⟨c', v⟩, hcv⟩ : ∃ x, x = (c.keyword kNEWBALL).1.n := ⟨_, rfl⟩
  have he : readR q 8 c = ({ q with newball := v }, c') := by
    have : readR q 8 c = ({ q with newball := (c.keyword kNEWBALL).1.n.2 }, (c.keyword kNEWBALL).1.n.1) := rfl
    rw [this, ← hcv]
  rw [he]
  have k1 := read2 hgl hd ⟨#[78, 69, 87, 66, 65, 76, 76]⟩ 9 (by decide) c' v hcv (q' := { q with newball := v }) (fun _ => rfl) rfl
  have K1 := Lib.hid k1
  clear h hd k1 hgl hcv he y0 y1
  go_enter Tryz.func48, Tryz.ntmps48
  go_wp2_with (go_at_call 74; refine K1.out.mono ?_; rintro e W1 ⟨rfl, h1⟩; have H1 := Lib.hid h1; clear h1)
  go_end0
  exact ⟨rfl, H1.out.toRC⟩
set_option maxRecDepth 100000 in
set_option maxHeartbeats 2000000 in
theorem read_9 {w2 Wb : World} {g : Nat} {F : Nat → Prop} {W : World} {q : Rul} {c : Cur} (hgl : GlobN w2) (h : RC w2 Wb g F W q c) :
    Calls Tryz.prog 48 #[.pointer (some ⟨w2.heap.size, 0, none⟩), .int .i64 9, .pointer (some ⟨g, 0, none⟩)] W fun e W' => e = .returned (.tuple #[]) ∧ RC w2 Wb g F W' (readR q 9 c).1 (readR q 9 c).2 := by
  have hd := RD.one h
  obtain ⟨y0, y1⟩ := hd.cells
  obtain ⟨⟨c', v⟩, hcv⟩ : ∃ x, x = (c.keyword kFOLLOWON).1.n := ⟨_, rfl⟩
  have he : readR q 9 c = ({ q with follow := v }, c') := by
    have : readR q 9 c = ({ q with follow := (c.keyword kFOLLOWON).1.n.2 }, (c.keyword kFOLLOWON).1.n.1) := rfl
    rw [this, ← hcv]
  rw [he]
  have k1 := read2 hgl hd ⟨#[70, 79, 76, 76, 79, 87, 79, 78]⟩ 10 (by decide) c' v hcv (q' := { q with follow := v }) (fun _ => rfl) rfl
  have K1 := Lib.hid k1
  clear h hd k1 hgl hcv he y0 y1
  go_enter Tryz.func48, Tryz.ntmps48
  go_wp2_with (go_at_call 74; refine K1.out.mono ?_; rintro e W1 ⟨rfl, h1⟩; have H1 := Lib.hid h1; clear h1)
  go_end0
  exact ⟨rfl, H1.out.toRC⟩
set_option maxRecDepth 100000 in
set_option maxHeartbeats 2000000 in
theorem read_10 {w2 Wb : World} {g : Nat} {F : Nat → Prop} {W : World} {q : Rul} {c : Cur} (hgl : GlobN w2) (h : RC w2 Wb g F W q c) :
    Calls Tryz.prog 48 #[.pointer (some ⟨w2.heap.size, 0, none⟩), .int .i64 10, .pointer (some ⟨g, 0, none⟩)] W fun e W' => e = .returned (.tuple #[]) ∧ RC w2 Wb g F W' (readR q 10 c).1 (readR q 10 c).2 := by
  have hd := RD.one h
  obtain ⟨y0, y1⟩ := hd.cells
  obtain ⟨⟨c', v⟩, hcv⟩ : ∃ x, x = (c.keyword kREVIEWS).1.n := ⟨_, rfl⟩
  have he : readR q 10 c = ({ q with reviews := v }, c') := by
    have : readR q 10 c = ({ q with reviews := (c.keyword kREVIEWS).1.n.2 }, (c.keyword kREVIEWS).1.n.1) := rfl
    rw [this, ← hcv]
  rw [he]
  have k1 := read2 hgl hd ⟨#[82, 69, 86, 73, 69, 87, 83]⟩ 11 (by decide) c' v hcv (q' := { q with reviews := v }) (fun _ => rfl) rfl
  have K1 := Lib.hid k1
  clear h hd k1 hgl hcv he y0 y1
  go_enter Tryz.func48, Tryz.ntmps48
  go_wp2_with (go_at_call 74; refine K1.out.mono ?_; rintro e W1 ⟨rfl, h1⟩; have H1 := Lib.hid h1; clear h1)
  go_end0
  exact ⟨rfl, H1.out.toRC⟩
set_option maxRecDepth 100000 in
set_option maxHeartbeats 2000000 in
theorem read_11 {w2 Wb : World} {g : Nat} {F : Nat → Prop} {W : World} {q : Rul} {c : Cur} (hgl : GlobN w2) (h : RC w2 Wb g F W q c) :
    Calls Tryz.prog 48 #[.pointer (some ⟨w2.heap.size, 0, none⟩), .int .i64 11, .pointer (some ⟨g, 0, none⟩)] W fun e W' => e = .returned (.tuple #[]) ∧ RC w2 Wb g F W' (readR q 11 c).1 (readR q 11 c).2 := by
  have hd := RD.one h
  obtain ⟨y0, y1⟩ := hd.cells
  obtain ⟨⟨c', v⟩, hcv⟩ : ∃ x, x = (c.keyword kOUTSIDE).1.n := ⟨_, rfl⟩
  have he : readR q 11 c = ({ q with outside := v }, c') := by
    have : readR q 11 c = ({ q with outside := (c.keyword kOUTSIDE).1.n.2 }, (c.keyword kOUTSIDE).1.n.1) := rfl
    rw [this, ← hcv]
  rw [he]
  have k1 := read2 hgl hd ⟨#[79, 85, 84, 83, 73, 68, 69]⟩ 12 (by decide) c' v hcv (q' := { q with outside := v }) (fun _ => rfl) rfl
  have K1 := Lib.hid k1
  clear h hd k1 hgl hcv he y0 y1
  go_enter Tryz.func48, Tryz.ntmps48
  go_wp2_with (go_at_call 74; refine K1.out.mono ?_; rintro e W1 ⟨rfl, h1⟩; have H1 := Lib.hid h1; clear h1)
  go_end0
  exact ⟨rfl, H1.out.toRC⟩
end Go.Proofs.YtnacklbaphobbaaGreatDoor
