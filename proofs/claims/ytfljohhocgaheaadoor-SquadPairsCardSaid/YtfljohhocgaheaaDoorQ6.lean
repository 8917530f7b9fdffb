/- Words for squad.Parse: a side that is read line by line; the contracts of the cursor's methods beside it. -/
import Derived.Test.YtfljohhocgaheaaDoorP8
import Derived.Test.YtfljohhocgaheaaDoorQ4
import Derived.Test.YtfljohhocgaheaaDoorT6
set_option linter.unusedSimpArgs false
set_option linter.unusedVariables false
namespace Go.Proofs.YtfljohhocgaheaaDoor
open Go.RowKit

@[go_sem] theorem build_sq0 (w : World) : (Instr.build 24 #[]).run Tryd.prog w = .ok (.agg #[.string ByteArray.empty, .slice none 0 0, .int .i64 0, .int .i64 0]) w := run_build w 24 _ _ (by kernel_rfl)
@[go_sem] theorem build_dia3 (a b c : Int) (w : World) : (Instr.build 58 #[(0, .int .i64 a), (1, .int .i64 b), (2, .int .i64 c)]).run Tryd.prog w = .ok (.agg #[.int .i64 a, .int .i64 b, .int .i64 c]) w := run_build w 58 _ _ (by kernel_rfl)
theorem Blk.four {w : World} {g : Nat} {t : TypeId} {a b c d : Value} (h : Blk w g t #[a, b, c, d]) :
    w.cell? ⟨g, 0, none⟩ = some a ∧ w.cell? ⟨g, 1, none⟩ = some b ∧ w.cell? ⟨g, 2, none⟩ = some c ∧ w.cell? ⟨g, 3, none⟩ = some d ∧ w.frozen? ⟨g, 0, none⟩ = false ∧ w.frozen? ⟨g, 1, none⟩ = false ∧ w.frozen? ⟨g, 2, none⟩ = false ∧ w.frozen? ⟨g, 3, none⟩ = false :=
  ⟨h.cell 0, h.cell 1, h.cell 2, h.cell 3, h.frozen 0, h.frozen 1, h.frozen 2, h.frozen 3⟩
theorem Blk.three {w : World} {g : Nat} {t : TypeId} {a b c : Value} (h : Blk w g t #[a, b, c]) :
    w.cell? ⟨g, 0, none⟩ = some a ∧ w.cell? ⟨g, 1, none⟩ = some b ∧ w.cell? ⟨g, 2, none⟩ = some c ∧ w.frozen? ⟨g, 0, none⟩ = false ∧ w.frozen? ⟨g, 1, none⟩ = false ∧ w.frozen? ⟨g, 2, none⟩ = false :=
  ⟨h.cell 0, h.cell 1, h.cell 2, h.frozen 0, h.frozen 1, h.frozen 2⟩
/-- Between two lines: the side lies in block G, its players in a row of the call's own; nothing below G has turned. -/
structure PS (w2 : World) (G : Nat) (W : World) (q : Sqd) (pv : Value) : Prop where
  sq : SqAt W (G + 1) G q pv
  bel : Below G w2 W
section
variable {w2 : World} {G : Nat} {W W' : World} {q : Sqd} {pv : Value} {g : Nat} {F : Nat → Prop} {c c' : Cur}
theorem PS.lt (h : PS w2 G W q pv) : G < W.heap.size := h.sq.1.lt
theorem PS.below (h : PS w2 G W q pv) (hb : Below W.heap.size W W') : PS w2 G W' q pv :=
  ⟨⟨h.sq.1.below hb h.lt, h.sq.2.below elStr_good hb⟩, h.bel.trans (hb.mono (Nat.le_of_lt h.lt))⟩
theorem PS.alloc (h : PS w2 G W q pv) (o : Obj) : PS w2 G (W.alloc o) q pv := h.below (Below.alloc (Below.refl _ _) (Nat.le_refl _) o)
theorem PS.drew (h : PS w2 G W q pv) : PS w2 G W.drew q pv := ⟨h.sq.drew, Below.drew h.bel⟩
theorem PS.only (h : PS w2 G W q pv) (ho : Only g W W') (hg : G < g) (hp : pv.ownBlock ≠ some g) : PS w2 G W' q pv :=
  ⟨h.sq.only ho (Nat.ne_of_lt hg) hp, h.bel.trans (ho.below (Nat.le_of_lt hg) (Nat.le_of_lt h.lt))⟩
theorem PS.set_name (h : PS w2 G W q pv) (t : List UInt8) : PS w2 G (W.setCell ⟨G, 0, none⟩ (.string (S t))) { q with name := t } pv :=
  ⟨⟨h.sq.1.set_ 0 (.string (S t)), h.sq.2.grown elStr_good ((Only.refl G W).setCell (p := ⟨G, 0, none⟩) (.inl rfl) _) fun b hb e => own_ne h.sq.2 h.sq.1 (by decide) (by rw [hb, e])⟩, Below.setCell h.bel (Nat.le_refl _) _⟩
theorem ps_At (h : PS w2 G W q pv) (x : Lin) (v : Value) (F0 : Nat → Prop) (hx : Sl 3 elFld W F0 v x.fields) (hF0 : ∀ b, F0 b → b < W.heap.size) (hl : OkLin x) :
    Calls Tryd.prog 31 #[.agg #[.int .i64 x.num, v]] W fun e W' => ∃ g F, e = .returned (.pointer (some ⟨g, 0, none⟩)) ∧ CurAt W' F g (Cur.start x) ∧ PS w2 G W' q pv ∧ G < g ∧ pv.ownBlock ≠ some g ∧ ¬ F G ∧ (∀ b, F b → pv.ownBlock ≠ some b) := by
  refine (text_At x v F0 W hx hF0 (by have := hl.1; omega)).mono ?_
  rintro e W' ⟨g, rfl, hg, hc, hb⟩
  have hlt := h.lt
  exact ⟨g, _, rfl, hc, h.below hb, by omega, fun e => by have := (h.sq.2.block _ e).2; omega, fun hF => by have := hF.1; omega, fun b hF e => by have := (h.sq.2.block _ e).2; have := hF.1; omega⟩
theorem ps_Keyword (h : PS w2 G W q pv) (hc : CurAt W F g c) (hg : G < g) (hp : pv.ownBlock ≠ some g) (kw : ByteArray) (hk : (c.keyword kw.data.toList).1 = c') :
    Calls Tryd.prog 32 #[.pointer (some ⟨g, 0, none⟩), .string kw] W fun e W' => (∃ b, e = .returned (.bool b)) ∧ CurAt W' F g c' ∧ PS w2 G W' q pv := by
  refine (cur_Keyword c kw F g W hc).mono ?_
  rintro e W' ⟨rfl, h1, h2⟩
  exact ⟨⟨_, rfl⟩, by rw [← hk]; exact h1, h.only h2 hg hp⟩
theorem ps_Ident {t : List UInt8} (h : PS w2 G W q pv) (hc : CurAt W F g c) (hg : G < g) (hp : pv.ownBlock ≠ some g) (hl : ∀ f ∈ c.fields, f.text.length ≤ 1000) (hk : c.ident = (c', t)) :
    Calls Tryd.prog 33 #[.pointer (some ⟨g, 0, none⟩)] W fun e W' => e = .returned (.string (S t)) ∧ CurAt W' F g c' ∧ PS w2 G W' q pv := by
  refine (cur_Ident c F g W hc fun f hf => by have := hl f hf; omega).mono ?_
  rintro e W' ⟨rfl, h1, h2⟩
  rw [hk] at h1 ⊢
  exact ⟨rfl, h1, h.only h2 hg hp⟩
theorem ps_player {q' : Sqd} (h : PS w2 G W q pv) (hc : CurAt W F g c) (hg : G < g) (hFG : ¬ F G) (hFp : ∀ b, F b → pv.ownBlock ≠ some b) (hl : ∀ f ∈ c.fields, f.text.length ≤ 1000) (hn : q.players.length ≤ 1000000) (hk : playerS q c = (q', c')) :
    Calls Tryd.prog 34 #[.pointer (some ⟨G, 0, none⟩), .pointer (some ⟨g, 0, none⟩)] W fun e W' => e = .returned (.tuple #[]) ∧ (∃ pv', PS w2 G W' q' pv') ∧ CurAt W' F g c' := by
  refine (sq_player q c pv F (G + 1) G g G W h.sq hc (Nat.ne_of_lt hg) hFG hFp (fun f hf => by have := hl f hf; omega) (by omega) h.lt (by omega) (Nat.le_refl _) (by omega)).mono ?_
  rintro e W' ⟨rfl, ⟨pv', h1⟩, h2, h3⟩
  rw [hk] at h1 h2
  exact ⟨rfl, ⟨pv', h1, h.bel.trans h3⟩, h2⟩
theorem ps_Close_none (h : PS w2 G W q pv) (hc : CurAt W F g c) (hk : c.close = none) :
    Calls Tryd.prog 35 #[.pointer (some ⟨g, 0, none⟩)] W fun e W' => e = .returned (.tuple #[.agg #[.int .i64 0, .int .i64 0, .int .i64 0], .bool false]) ∧ PS w2 G W' q pv := by
  refine (cur_Close c F g W hc).mono ?_
  rintro e W' ⟨rfl, h1⟩
  rw [hk]
  exact ⟨rfl, h.below h1⟩
theorem ps_Close_some {d : Dia} (h : PS w2 G W q pv) (hc : CurAt W F g c) (hk : c.close = some d) :
    Calls Tryd.prog 35 #[.pointer (some ⟨g, 0, none⟩)] W fun e W' => e = .returned (.tuple #[.agg #[.int .i64 d.line, .int .i64 d.col, .int .i64 d.code], .bool true]) ∧ PS w2 G W' q pv := by
  refine (cur_Close c F g W hc).mono ?_
  rintro e W' ⟨rfl, h1⟩
  rw [hk]
  exact ⟨rfl, h.below h1⟩
end
def ParsePost (w : World) (r : Sqd × List Dia) (e : Ending) (w' : World) : Prop :=
  ∃ pv dv, e = .returned (.tuple #[sqV r.1 pv, dv]) ∧ Sl 1 elStr w' (fun b => w.heap.size ≤ b ∧ b < w'.heap.size) pv r.1.players ∧ Sl 3 elDia w' (fun b => w.heap.size ≤ b ∧ b < w'.heap.size) dv r.2 ∧ Below w.heap.size w w'
/-- The result's block behind the four stores. -/
def put4 (W : World) (R : Nat) (a b c d : Value) : World := (((W.setCell ⟨R, 0, none⟩ a).setCell ⟨R, 1, none⟩ b).setCell ⟨R, 2, none⟩ c).setCell ⟨R, 3, none⟩ d
theorem put4_only (W : World) (R : Nat) (a b c d : Value) : Only R W (put4 W R a b c d) :=
  ((((Only.refl R W).setCell (p := ⟨R, 0, none⟩) (.inl rfl) _).setCell (p := ⟨R, 1, none⟩) (.inl rfl) _).setCell (p := ⟨R, 2, none⟩) (.inl rfl) _).setCell (p := ⟨R, 3, none⟩) (.inl rfl) _
/-- One diagnostic is handed back. -/
theorem parse_one {w W : World} {R : Nat} {l c k : Int} {r : Sqd × List Dia} (hr : r = (noSqd, [⟨l, c, k⟩])) (hR : R = w.heap.size) (hb : Below w.heap.size w W) (hlt : R < W.heap.size) (a b c' d : Value) {n : Nat} (hn : W.heap.size = n) :
    ParsePost w r (.returned (.tuple #[.agg #[.string ByteArray.empty, .slice none 0 0, .int .i64 0, .int .i64 0], .slice (some ⟨n, 0, none⟩) 1 1])) ((put4 W R a b c' d).alloc (.cells #[.int .i64 l, .int .i64 c, .int .i64 k] 58)) := by
  subst hr; subst hn
  have ho := put4_only W R a b c' d
  obtain ⟨W1, hW1⟩ : ∃ x, x = put4 W R a b c' d := ⟨_, rfl⟩
  rw [← hW1] at ho ⊢
  have hb1 : Below w.heap.size w W1 := hb.trans (ho.below (by omega) (by omega))
  have hz : W1.heap.size = W.heap.size := by rw [hW1]; simp [put4, World.setCell]
  have hs := Sl.fresh1 W1 (fun x => x = W1.heap.size) [.int .i64 l, .int .i64 c, .int .i64 k] 58 (R := elDia) (size := 3) (⟨l, c, k⟩ : Dia) rfl rfl rfl
  rw [hz] at hs
  exact ⟨.slice none 0 0, _, rfl, Sl.nil _ _, hs.keep elDia_good (Same.refl _ _) fun x hx => by subst hx; simp; omega, Below.alloc hb1 (by omega) _⟩
theorem ParsePost.drew {w W : World} {r : Sqd × List Dia} {e : Ending} (h : ParsePost w r e W) : ParsePost w r e W.drew :=
  let ⟨pv, dv, h1, h2, h3, h4⟩ := h
  ⟨pv, dv, h1, h2.keep elStr_good (fun _ _ => rfl) fun _ h => h, h3.keep elDia_good (fun _ _ => rfl) fun _ h => h, Below.drew h4⟩
theorem Blk.drew {w : World} {g : Nat} {t : TypeId} {cs : Array Value} (h : Blk w g t cs) : Blk w.drew g t cs := h
/-- The end of squad.Parse: the side in the result's block, and the diagnostics. -/
theorem parse_ret {R' : Ending → World → Prop} {a : Act} {w : World} {x0 x1 x2 x3 v : Value} {g : Nat} (h2 : a.tmps[2]? = some (.pointer (some ⟨g, 0, none⟩))) (h3 : a.tmps[3]? = some v) (hb : Blk w g 24 #[x0, x1, x2, x3])
    (hd : a.defers = []) (hR : R' (.returned (.tuple #[.agg #[x0, x1, x2, x3], v])) w) : bodyPost Tryd.prog Tryd.f14 R' .ret a w := by
  obtain ⟨r0, r1, r2, r3, _⟩ := hb.four
  refine bodyPost_ret (v := .tuple #[.agg #[x0, x1, x2, x3], v]) (by simp [results, Tryd.results14, go_sem, h2, h3, r0, r1, r2, r3]) hd hR
theorem blk_put4 {w : World} {g : Nat} {t : TypeId} {a b c d : Value} (h : Blk w g t #[a, b, c, d]) (x0 x1 x2 x3 : Value) : Blk (put4 w g x0 x1 x2 x3) g t #[x0, x1, x2, x3] :=
  (((h.set_ 0 x0).set_ 1 x1).set_ 2 x2).set_ 3 x3
/-- A diagnostic in the middle of the lines: the end. -/
theorem parse_some {w W : World} {a : Act} {R : Nat} {l c k : Int} {r : Sqd × List Dia} {y0 y1 y2 y3 : Value} {o : Obj} (hr : r = (noSqd, [⟨l, c, k⟩])) (hR : R = w.heap.size) (hb : Below w.heap.size w W) (hk : Blk W R 24 #[y0, y1, y2, y3])
    (h2 : a.tmps[2]? = some (.pointer (some ⟨R, 0, none⟩))) (h3 : a.tmps[3]? = some (.slice (some ⟨W.heap.size + 1, 0, none⟩) 1 1)) (hd : a.defers = []) :
    bodyPost Tryd.prog Tryd.f14 (ParsePost w r) .ret a (((((((W.alloc o).setCell ⟨R, 0, none⟩ (.string ⟨#[]⟩)).setCell ⟨R, 1, none⟩ (.slice none 0 0)).setCell ⟨R, 2, none⟩ (.int .i64 0)).setCell ⟨R, 3, none⟩ (.int .i64 0)).alloc (.cells #[.int .i64 l, .int .i64 c, .int .i64 k] 58)).drew) := by
  have hlt := hk.lt
  have h1 := blk_put4 (hk.alloc o) (.string ⟨#[]⟩) (.slice none 0 0) (.int .i64 0) (.int .i64 0)
  have h4 : (W.alloc o).heap.size = W.heap.size + 1 := by simp
  have h5 := parse_one hr hR (Below.alloc hb (by omega) o) (by omega) (.string ⟨#[]⟩) (.slice none 0 0) (.int .i64 0) (.int .i64 0) h4
  exact parse_ret h2 h3 (Blk.drew (h1.alloc _)) hd h5.drew
theorem parse_some2 {w W : World} {a : Act} {R : Nat} {l c k : Int} {r : Sqd × List Dia} {y0 y1 y2 y3 : Value} {o : Obj} (hr : r = (noSqd, [⟨l, c, k⟩])) (hR : R = w.heap.size) (hb : Below w.heap.size w W) (hk : Blk W R 24 #[y0, y1, y2, y3])
    (h2 : a.tmps[2]? = some (.pointer (some ⟨R, 0, none⟩))) (h3 : a.tmps[3]? = some (.slice (some ⟨W.heap.size + 1, 0, none⟩) 1 1)) (hd : a.defers = []) :
    bodyPost Tryd.prog Tryd.f14 (ParsePost w r) .ret a (((((((W.alloc o).alloc (.cells #[.int .i64 l, .int .i64 c, .int .i64 k] 58)).setCell ⟨R, 0, none⟩ (.string ⟨#[]⟩)).setCell ⟨R, 1, none⟩ (.slice none 0 0)).setCell ⟨R, 2, none⟩ (.int .i64 0)).setCell ⟨R, 3, none⟩ (.int .i64 0)).drew) := by
  subst hr
  have hlt := hk.lt
  have h0 := (hk.alloc o).alloc (.cells #[.int .i64 l, .int .i64 c, .int .i64 k] 58)
  have h4 : (W.alloc o).heap.size = W.heap.size + 1 := by simp
  have hs := Sl.fresh1 (W.alloc o) (fun x => x = (W.alloc o).heap.size) [.int .i64 l, .int .i64 c, .int .i64 k] 58 (R := elDia) (size := 3) (⟨l, c, k⟩ : Dia) rfl rfl rfl
  have hb1 : Below w.heap.size w ((W.alloc o).alloc (.cells #[.int .i64 l, .int .i64 c, .int .i64 k] 58)) := Below.alloc (Below.alloc hb (by omega) o) (by omega) _
  obtain ⟨W1, hW1⟩ : ∃ x, x = (W.alloc o).alloc (.cells #[.int .i64 l, .int .i64 c, .int .i64 k] 58) := ⟨_, rfl⟩
  have hz1 : W1.heap.size = W.heap.size + 2 := by rw [hW1]; simp
  have hs' : Sl 3 elDia W1 (fun x => x = W.heap.size + 1) (.slice (some ⟨W.heap.size + 1, 0, none⟩) 1 1) [⟨l, c, k⟩] := by rw [h4] at hs; rw [hW1]; exact hs
  rw [← hW1] at h0 hb1 ⊢
  have ho := put4_only W1 R (.string ⟨#[]⟩) (.slice none 0 0) (.int .i64 0) (.int .i64 0)
  have h1 := blk_put4 h0 (.string ⟨#[]⟩) (.slice none 0 0) (.int .i64 0) (.int .i64 0)
  have hsz := ho.size
  have hp : ParsePost w (noSqd, [⟨l, c, k⟩]) (.returned (.tuple #[.agg #[.string ByteArray.empty, .slice none 0 0, .int .i64 0, .int .i64 0], .slice (some ⟨W.heap.size + 1, 0, none⟩) 1 1])) (put4 W1 R (.string ⟨#[]⟩) (.slice none 0 0) (.int .i64 0) (.int .i64 0)) :=
    ⟨.slice none 0 0, _, rfl, Sl.nil _ _, hs'.keep elDia_good (ho.same fun x hx => by subst hx; omega) fun x hx => by subst hx; omega, hb1.trans (ho.below (by omega) (by omega))⟩
  exact parse_ret h2 h3 (Blk.drew h1) hd hp.drew
end Go.Proofs.YtfljohhocgaheaaDoor
