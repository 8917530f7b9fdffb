/- Words for the reference's Parse: a side that is read line by line; the contracts of its cursor's methods beside it. -/
import Derived.Test.YtfljohhocgaheaaDoorF12
import Derived.Test.YtfljohhocgaheaaDoorF7
import Derived.Test.YtfljohhocgaheaaDoorF2
set_option linter.unusedSimpArgs false
set_option linter.unusedVariables false
namespace Go.Proofs.YtfljohhocgaheaaDoor
open Go.RowKit

theorem RCurAt.far {w : World} {F : Nat → Prop} {g k : Nat} {c : Cur} (h : RCurAt w F g c) (hk : k ≠ g) (hF : ¬ F k) (p : Addr) (hp : p.block = k) (u : Value) : RCurAt (w.setCell p u) F g c :=
  h.keep (G := F) (fun b hb => Below.heap_setCell w p u b (by rintro rfl; rw [hp] at hb; exact hF hb)) (Below.heap_setCell w p u g (by rw [hp]; exact fun e => hk e.symm)) (by simp [World.setCell])
theorem RCurAt.ne_own {α : Type} {size base e : Nat} {R : World → (Nat → Prop) → List Value → α → Prop} {K F : Nat → Prop} {w : World} {v : Value} {l : List α} {g : Nat} {c : Cur} (h : RCurAt w F g c) (ho : OwnG size R e base w v K l) (hne : e ≠ 96) : v.ownBlock ≠ some g :=
  let ⟨_, hb, _⟩ := h.blk; own_ne ho hb hne
theorem RCurAt.drew {w : World} {F : Nat → Prop} {g : Nat} {c : Cur} (h : RCurAt w F g c) : RCurAt w.drew F g c := h.drewN 1
/-- While a line is read: the side beside the cursor. -/
structure RPI (w2 : World) (G : Nat) (F : Nat → Prop) (g : Nat) (W : World) (q : Sqd) (c : Cur) (pv : Value) : Prop where
  ps : PS w2 G W q pv
  cur : RCurAt W F g c
  hg : G < g
  hFG : ¬ F G
section
variable {w2 : World} {G : Nat} {W W' : World} {q : Sqd} {pv : Value} {g : Nat} {F : Nat → Prop} {c c' : Cur}
theorem RPI.hp (h : RPI w2 G F g W q c pv) : pv.ownBlock ≠ some g := h.cur.ne_own h.ps.sq.2 (by decide)
theorem RPI.only (h : RPI w2 G F g W q c pv) (ho : Only g W W') (hc : RCurAt W' F g c') : RPI w2 G F g W' q c' pv := ⟨h.ps.only ho h.hg h.hp, hc, h.hg, h.hFG⟩
theorem RPI.alloc (h : RPI w2 G F g W q c pv) (o : Obj) : RPI w2 G F g (W.alloc o) q c pv := ⟨h.ps.alloc o, h.cur.alloc o, h.hg, h.hFG⟩
theorem RPI.drew (h : RPI w2 G F g W q c pv) : RPI w2 G F g W.drew q c pv := ⟨h.ps.drew, h.cur.drew, h.hg, h.hFG⟩
theorem RPI.drewN (h : RPI w2 G F g W q c pv) (n : Nat) : RPI w2 G F g (W.drewN n) q c pv := h.only ((Only.refl g W).drewN n) (h.cur.drewN n)
theorem PS.set_cap (h : PS w2 G W q pv) (n : Int) : PS w2 G (W.setCell ⟨G, 2, none⟩ (.int .i64 n)) { q with cap := n } pv := ⟨h.sq.set_cap n, Below.setCell h.bel (Nat.le_refl _) _⟩
theorem PS.set_kee (h : PS w2 G W q pv) (n : Int) : PS w2 G (W.setCell ⟨G, 3, none⟩ (.int .i64 n)) { q with kee := n } pv := ⟨h.sq.set_kee n, Below.setCell h.bel (Nat.le_refl _) _⟩
theorem RPI.set_name (h : RPI w2 G F g W q c pv) (t : List UInt8) : RPI w2 G F g (W.setCell ⟨G, 0, none⟩ (.string (S t))) { q with name := t } c pv :=
  ⟨h.ps.set_name t, h.cur.far (Nat.ne_of_lt h.hg) h.hFG _ rfl _, h.hg, h.hFG⟩
theorem RPI.set_cap (h : RPI w2 G F g W q c pv) (n : Int) : RPI w2 G F g (W.setCell ⟨G, 2, none⟩ (.int .i64 n)) { q with cap := n } c pv :=
  ⟨h.ps.set_cap n, h.cur.far (Nat.ne_of_lt h.hg) h.hFG _ rfl _, h.hg, h.hFG⟩
theorem RPI.set_kee (h : RPI w2 G F g W q c pv) (n : Int) : RPI w2 G F g (W.setCell ⟨G, 3, none⟩ (.int .i64 n)) { q with kee := n } c pv :=
  ⟨h.ps.set_kee n, h.cur.far (Nat.ne_of_lt h.hg) h.hFG _ rfl _, h.hg, h.hFG⟩
theorem RPI.cells (h : RPI w2 G F g W q c pv) : W.cell? ⟨G, 0, none⟩ = some (.string (S q.name)) ∧ W.cell? ⟨G, 1, none⟩ = some pv ∧ W.cell? ⟨G, 2, none⟩ = some (.int .i64 q.cap) ∧ W.cell? ⟨G, 3, none⟩ = some (.int .i64 q.kee) ∧ W.frozen? ⟨G, 0, none⟩ = false ∧ W.frozen? ⟨G, 1, none⟩ = false ∧ W.frozen? ⟨G, 2, none⟩ = false ∧ W.frozen? ⟨G, 3, none⟩ = false :=
  h.ps.sq.1.four
theorem rps_At (h : PS w2 G W q pv) (x : Lin) (v : Value) (F0 : Nat → Prop) (hx : Sl 3 elFld W F0 v x.fields) (hF0 : ∀ b, F0 b → b < W.heap.size) (hl : OkLin x) :
    Calls Tryd.prog 37 #[.agg #[.int .i64 x.num, v]] W fun e W' => ∃ g F, e = .returned (.pointer (some ⟨g, 0, none⟩)) ∧ RPI w2 G F g W' q (Cur.start x) pv ∧ (∀ b, F b → pv.ownBlock ≠ some b) := by
  refine (ref_At x v F0 W hx hF0 (by have := hl.1; omega)).mono ?_
  rintro e W' ⟨g, rfl, hg, hc, hb⟩
  have hlt := h.lt
  exact ⟨g, _, rfl, ⟨h.below hb, hc, by omega, fun hF => by have := hF.1; omega⟩, fun b hF e => by have := (h.sq.2.block _ e).2; have := hF.1; omega⟩
theorem rpi_Keyword (h : RPI w2 G F g W q c pv) (kw : ByteArray) (hk : (c.keyword kw.data.toList).1 = c') :
    Calls Tryd.prog 38 #[.pointer (some ⟨g, 0, none⟩), .string kw] W fun e W' => (∃ b, e = .returned (.bool b)) ∧ RPI w2 G F g W' q c' pv := by
  refine (rcur_Keyword c kw F g W h.cur).mono ?_
  rintro e W' ⟨rfl, h1, h2⟩
  exact ⟨⟨_, rfl⟩, h.only h2 (by rw [← hk]; exact h1)⟩
theorem rpi_Ident {t : List UInt8} (h : RPI w2 G F g W q c pv) (hl : ∀ f ∈ c.fields, f.text.length ≤ 1000) (hk : c.ident = (c', t)) :
    Calls Tryd.prog 39 #[.pointer (some ⟨g, 0, none⟩)] W fun e W' => e = .returned (.string (S t)) ∧ RPI w2 G F g W' q c' pv := by
  refine (rcur_Ident c F g W h.cur fun f hf => by have := hl f hf; omega).mono ?_
  rintro e W' ⟨rfl, h1, h2⟩
  rw [hk] at h1 ⊢
  exact ⟨rfl, h.only h2 h1⟩
theorem rpi_More (h : RPI w2 G F g W q c pv) : Calls Tryd.prog 40 #[.pointer (some ⟨g, 0, none⟩)] W fun x W' => x = .returned (.bool c.more) ∧ RPI w2 G F g W' q c pv := by
  refine (rcur_More c F g W h.cur).mono ?_
  rintro x w' ⟨rfl, n, rfl⟩
  exact ⟨rfl, h.drewN n⟩
theorem rpi_Reject (h : RPI w2 G F g W q c pv) (n : Int) : Calls Tryd.prog 42 #[.pointer (some ⟨g, 0, none⟩), .int .i64 n] W fun x W' => x = .returned (.tuple #[]) ∧ RPI w2 G F g W' q (c.reject n) pv := by
  refine (rcur_Reject c n F g W h.cur).mono ?_
  rintro x w' ⟨rfl, h1, h2⟩
  exact ⟨rfl, h.only h2 h1⟩
theorem rpi_OneOf {i : Int} (h : RPI w2 G F g W q c pv) (ho : c.oneOf [sCAPTAIN, sKEEPER] = (c', i)) : Calls Tryd.prog 41 #[.pointer (some ⟨g, 0, none⟩), .slice (some ⟨W.heap.size, 0, none⟩) 2 2] (W.alloc (.cells #[.string ⟨#[67, 65, 80, 84, 65, 73, 78]⟩, .string ⟨#[75, 69, 69, 80, 69, 82]⟩] 9)) fun x W' => x = .returned (.int .i64 i) ∧ RPI w2 G F g W' q c' pv := by
  refine (rcur_OneOf c _ [sCAPTAIN, sKEEPER] (fun b => b = W.heap.size) F g _ (h.alloc _).cur (fresh_duties W) (fun b hb => ⟨by rw [hb]; simp, by have := h.cur.lt; omega⟩)).mono ?_
  rintro x w' ⟨rfl, h1, h2⟩
  rw [ho] at h1 ⊢
  exact ⟨rfl, (h.alloc _).only h2 h1⟩
theorem rpi_Close_none (h : RPI w2 G F g W q c pv) (hk : c.close = none) :
    Calls Tryd.prog 43 #[.pointer (some ⟨g, 0, none⟩)] W fun e W' => e = .returned (.tuple #[.agg #[.int .i64 0, .int .i64 0, .int .i64 0], .bool false]) ∧ PS w2 G W' q pv := by
  refine (rcur_Close c F g W h.cur).mono ?_
  rintro e W' ⟨rfl, h1⟩
  rw [hk]
  exact ⟨rfl, h.ps.below h1⟩
theorem rpi_Close_some {d : Dia} (h : RPI w2 G F g W q c pv) (hk : c.close = some d) :
    Calls Tryd.prog 43 #[.pointer (some ⟨g, 0, none⟩)] W fun e W' => e = .returned (.tuple #[.agg #[.int .i64 d.line, .int .i64 d.col, .int .i64 d.code], .bool true]) ∧ PS w2 G W' q pv := by
  refine (rcur_Close c F g W h.cur).mono ?_
  rintro e W' ⟨rfl, h1⟩
  rw [hk]
  exact ⟨rfl, h.ps.below h1⟩
/-- A player behind the others. -/
theorem rpi_app {v3 : Value} {w3 : World} {t : List UInt8} {o : Obj} (h : RPI w2 G F g W q c pv) (hFp : ∀ b, F b → pv.ownBlock ≠ some b) (hg3 : (W.alloc o).grownBy w3 pv.ownBlock) (hw3 : OwnSl 1 elStr 9 (G + 1) w3 v3 (q.players ++ [t])) (hblk : Blk w3 G 24 #[.string (S q.name), pv, .int .i64 q.cap, .int .i64 q.kee]) :
    RPI w2 G F g (w3.setCell ⟨G, 1, none⟩ v3) { q with players := q.players ++ [t] } c v3 := by
  have hc' : RCurAt (W.alloc o) F g c := h.cur.alloc o
  have hso : OwnSl 1 elStr 9 (G + 1) (W.alloc o) pv q.players := h.ps.sq.2.alloc elStr_good o
  have hpg := hc'.ne_own hso (by decide)
  have hc3 : RCurAt w3 F g c := hc'.keep (G := F) (Same.grown hg3 fun b hb => ⟨(hc'.foot b hb).1, fun e => hFp b hb e.symm⟩) (hg3.block g hc'.lt fun e => hpg e.symm) hg3.size
  have hlt := h.ps.lt
  have hbel : Below G w2 w3 := below_own (Below.alloc h.ps.bel (Nat.le_of_lt hlt) o) hso hg3 (Nat.le_succ _) (by simp; omega)
  exact ⟨⟨⟨hblk.set_ 1 v3, hw3.grown elStr_good ((Only.refl G w3).setCell (p := ⟨G, 1, none⟩) (.inl rfl) _) fun b hb e => own_ne hw3 hblk (by decide) (by rw [hb, e])⟩, Below.setCell hbel (Nat.le_refl _) _⟩, hc3.far (Nat.ne_of_lt h.hg) h.hFG _ rfl _, h.hg, h.hFG⟩
end
/-- The end of the reference's Parse. -/
theorem rparse_ret {R' : Ending → World → Prop} {a : Act} {w : World} {x0 x1 x2 x3 v : Value} {g : Nat} (h2 : a.tmps[2]? = some (.pointer (some ⟨g, 0, none⟩))) (h3 : a.tmps[3]? = some v) (hb : Blk w g 24 #[x0, x1, x2, x3])
    (hd : a.defers = []) (hR : R' (.returned (.tuple #[.agg #[x0, x1, x2, x3], v])) w) : bodyPost Tryd.prog Tryd.f15 R' .ret a w := by
  obtain ⟨r0, r1, r2, r3, _⟩ := hb.four
  refine bodyPost_ret (v := .tuple #[.agg #[x0, x1, x2, x3], v]) (by simp [results, Tryd.results15, go_sem, h2, h3, r0, r1, r2, r3]) hd hR
theorem rparse_some {w W : World} {a : Act} {R : Nat} {l c k : Int} {r : Sqd × List Dia} {y0 y1 y2 y3 : Value} {o : Obj} (hr : r = (noSqd, [⟨l, c, k⟩])) (hR : R = w.heap.size) (hb : Below w.heap.size w W) (hk : Blk W R 24 #[y0, y1, y2, y3])
    (h2 : a.tmps[2]? = some (.pointer (some ⟨R, 0, none⟩))) (h3 : a.tmps[3]? = some (.slice (some ⟨W.heap.size + 1, 0, none⟩) 1 1)) (hd : a.defers = []) :
    bodyPost Tryd.prog Tryd.f15 (ParsePost w r) .ret a (((((((W.alloc o).setCell ⟨R, 0, none⟩ (.string ⟨#[]⟩)).setCell ⟨R, 1, none⟩ (.slice none 0 0)).setCell ⟨R, 2, none⟩ (.int .i64 0)).setCell ⟨R, 3, none⟩ (.int .i64 0)).alloc (.cells #[.int .i64 l, .int .i64 c, .int .i64 k] 58)).drew) := by
  have hlt := hk.lt
  have h1 := blk_put4 (hk.alloc o) (.string ⟨#[]⟩) (.slice none 0 0) (.int .i64 0) (.int .i64 0)
  have h4 : (W.alloc o).heap.size = W.heap.size + 1 := by simp
  have h5 := parse_one hr hR (Below.alloc hb (by omega) o) (by omega) (.string ⟨#[]⟩) (.slice none 0 0) (.int .i64 0) (.int .i64 0) h4
  exact rparse_ret h2 h3 (Blk.drew (h1.alloc _)) hd h5.drew
theorem rparse_some2 {w W : World} {a : Act} {R : Nat} {l c k : Int} {r : Sqd × List Dia} {y0 y1 y2 y3 : Value} {o : Obj} (hr : r = (noSqd, [⟨l, c, k⟩])) (hR : R = w.heap.size) (hb : Below w.heap.size w W) (hk : Blk W R 24 #[y0, y1, y2, y3])
    (h2 : a.tmps[2]? = some (.pointer (some ⟨R, 0, none⟩))) (h3 : a.tmps[3]? = some (.slice (some ⟨W.heap.size + 1, 0, none⟩) 1 1)) (hd : a.defers = []) :
    bodyPost Tryd.prog Tryd.f15 (ParsePost w r) .ret a (((((((W.alloc o).alloc (.cells #[.int .i64 l, .int .i64 c, .int .i64 k] 58)).setCell ⟨R, 0, none⟩ (.string ⟨#[]⟩)).setCell ⟨R, 1, none⟩ (.slice none 0 0)).setCell ⟨R, 2, none⟩ (.int .i64 0)).setCell ⟨R, 3, none⟩ (.int .i64 0)).drew) := by
  subst hr
  have hlt := hk.lt
  have h0 := (hk.alloc o).alloc (.cells #[.int .i64 l, .int .i64 c, .int .i64 k] 58)
  have h4 : (W.alloc o).heap.size = W.heap.size + 1 := by simp
  have hs := Sl.fresh1 (W.alloc o) (fun x => x = (W.alloc o).heap.size) [.int .i64 l, .int .i64 c, .int .i64 k] 58 (R := elDia) (size := 3) (⟨l, c, k⟩ : Dia) rfl rfl rfl
  have hb1 : Below w.heap.size w ((W.alloc o).alloc (.cells #[.int .i64 l, .int .i64 c, .int .i64 k] 58)) := Below.alloc (Below.alloc hb (by omega) o) (by omega) _
  obtain ⟨W1, hW1⟩ : ∃ x, x = (W.alloc o).alloc (.cells #[.int .i64 l, .int .i64 c, .int .i64 k] 58) := ⟨_, rfl⟩
  have hz1 : W1.heap.size = W.heap.size + 2 := by rw [hW1]; simp
  have hs' : Sl 3 elDia W1 (fun x => x = W.heap.size + 1) (.slice (some ⟨W.heap.size + 1, 0, none⟩) 1 1) [⟨l, c, k⟩] := by rw [h4] at hs; rw [hW1]; exact hs
  rw [← hW1] at h0 hb1 ⊢
  have ho := put4_only W1 R (.string ⟨#[]⟩) (.slice none 0 0) (.int .i64 0) (.int .i64 0)
  have h1 := blk_put4 h0 (.string ⟨#[]⟩) (.slice none 0 0) (.int .i64 0) (.int .i64 0)
  have hsz := ho.size
  have hp : ParsePost w (noSqd, [⟨l, c, k⟩]) (.returned (.tuple #[.agg #[.string ByteArray.empty, .slice none 0 0, .int .i64 0, .int .i64 0], .slice (some ⟨W.heap.size + 1, 0, none⟩) 1 1])) (put4 W1 R (.string ⟨#[]⟩) (.slice none 0 0) (.int .i64 0) (.int .i64 0)) :=
    ⟨.slice none 0 0, _, rfl, Sl.nil _ _, hs'.keep elDia_good (ho.same fun x hx => by subst hx; omega) fun x hx => by subst hx; omega, hb1.trans (ho.below (by omega) (by omega))⟩
  exact rparse_ret h2 h3 (Blk.drew h1) hd hp.drew
end Go.Proofs.YtfljohhocgaheaaDoor
