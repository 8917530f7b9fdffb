/- The contract of rules.Parse. -/
import Derived.Test.YtnacklbaphobbaaGreatDoorU19
import Derived.Test.YtnacklbaphobbaaGreatDoorPP
import Derived.Test.YtnacklbaphobbaaGreatDoorT6
import Derived.Test.YtnacklbaphobbaaGreatDoorO2
import Derived.Laws.Tables
set_option linter.unusedSimpArgs false
set_option linter.unusedVariables false
namespace Go.Proofs.YtnacklbaphobbaaGreatDoor
open Go.RowKit

theorem Blk.row {w : World} {g : Nat} {t : TypeId} {old : Array Value} (h : Blk w g t old) (cs : Array Value) : Blk (w.setRow g cs) g t cs := setRow_heap w g old cs t (0, 0) h
theorem Only.row (g : Nat) (w : World) (cs : Array Value) : Only g w (w.setRow g cs) :=
  ⟨(Only.refl g w).os, (Only.refl g w).tape, (Only.refl g w).output, by simp, fun i hi hne => setRow_other w g i cs (fun e => hne (by rw [e]))⟩
/-- A store of a whole row, as a step of a region that draws. -/
theorem step_store_row {P : Program} {ops : Array Oper} {o : Oper} {a : Act} {w : World} {K : Act → World → Prop} {Q : Exit → Act → World → Prop} {E : Prop} (hgd : o.guard = none) (ty : TypeId) (x y : Operand) (ho : o.op = .store ty x y)
    (g : Nat) (cells : Array Value) (hx : a.eval x = .pointer (some ⟨g, 0, none⟩)) (hy : a.eval y = .agg cells)
    (t : TypeId) (old : Array Value) (hg : w.heap[g]? = some (.cells old t (0, 0))) (hi : (P.info? ty).map (·.size) = some cells.size)
    (hold : old.size = cells.size) (h1 : cells.all (·.oneCell') = true)
    (h : K (a.put o.dst undef) (w.setRow g cells)) : if Region.wanted o (yielded ops a.tmps) = true then Oper.wp P o a w K Q else E := by
  have hw : Region.wanted o (yielded ops a.tmps) = true := by simp [Region.wanted, hgd]
  rw [if_pos hw]
  exact wp_store_row ty x y ho g cells hx hy t old hg hi hold h1 h
theorem row_cell {w : World} {g i : Nat} {t : TypeId} {old cs : Array Value} {v : Value} (h : Blk w g t old) : (w.setRow g cs).setCell ⟨g, i, none⟩ v = w.setRow g (cs.setIfInBounds i v) := by
  rw [setCell_eq_setRow _ g i cs t (0, 0) v (h.row cs), setRow_setRow]
theorem row_chain {w : World} {g : Nat} {old : Array Value} (h : Blk w g 24 old) (x0 x1 x2 x3 x4 x5 x6 x7 x8 x9 x10 x11 x12 x13 : Value) : ((((((((((((((w.setCell ⟨g, 0, none⟩ x0).setCell ⟨g, 1, none⟩ x1).setCell ⟨g, 2, none⟩ x2).setCell ⟨g, 3, none⟩ x3).setCell ⟨g, 4, none⟩ x4).setCell ⟨g, 5, none⟩ x5).setCell ⟨g, 6, none⟩ x6).setCell ⟨g, 7, none⟩ x7).setCell ⟨g, 8, none⟩ x8).setCell ⟨g, 9, none⟩ x9).setCell ⟨g, 10, none⟩ x10).setCell ⟨g, 11, none⟩ x11).setCell ⟨g, 12, none⟩ x12).setCell ⟨g, 13, none⟩ x13) = w.setRow g ((((((((((((((old.setIfInBounds 0 x0).setIfInBounds 1 x1).setIfInBounds 2 x2).setIfInBounds 3 x3).setIfInBounds 4 x4).setIfInBounds 5 x5).setIfInBounds 6 x6).setIfInBounds 7 x7).setIfInBounds 8 x8).setIfInBounds 9 x9).setIfInBounds 10 x10).setIfInBounds 11 x11).setIfInBounds 12 x12).setIfInBounds 13 x13) := by
  rw [setCell_eq_setRow w g 0 old 24 (0, 0) x0 h]
  simp only [row_cell h]
def zeroR : Array Value := rulCells noRul (.slice none 0 0)
/-- Fourteen stores are one row. -/
theorem zero_chain {w : World} {g : Nat} (h : Blk w g 24 zeroR) (x0 x1 x2 x3 x4 x5 x6 x7 x8 x9 x10 x11 x12 x13 : Value) : ((((((((((((((w.setCell ⟨g, 0, none⟩ x0).setCell ⟨g, 1, none⟩ x1).setCell ⟨g, 2, none⟩ x2).setCell ⟨g, 3, none⟩ x3).setCell ⟨g, 4, none⟩ x4).setCell ⟨g, 5, none⟩ x5).setCell ⟨g, 6, none⟩ x6).setCell ⟨g, 7, none⟩ x7).setCell ⟨g, 8, none⟩ x8).setCell ⟨g, 9, none⟩ x9).setCell ⟨g, 10, none⟩ x10).setCell ⟨g, 11, none⟩ x11).setCell ⟨g, 12, none⟩ x12).setCell ⟨g, 13, none⟩ x13) = w.setRow g #[x0, x1, x2, x3, x4, x5, x6, x7, x8, x9, x10, x11, x12, x13] := by
  rw [row_chain h]
  exact congrArg (w.setRow g) (by kernel_rfl)
/-- Between two lines: the rules that are read. -/
def RQ (w2 W : World) (q : Rul) : Prop := ∃ pv, Blk W w2.heap.size 24 (rulCells q pv) ∧ OwnSl 3 elPha 45 (w2.heap.size + 1) W pv q.power ∧ Below w2.heap.size w2 W
section
variable {w2 Wb W W' : World} {q : Rul} {c : Cur} {g : Nat} {F : Nat → Prop}
theorem RQ.lt (h : RQ w2 W q) : w2.heap.size < W.heap.size := let ⟨_, hk, _⟩ := h; hk.lt
theorem RQ.bel (h : RQ w2 W q) : Below w2.heap.size w2 W := let ⟨_, _, _, hb⟩ := h; hb
theorem RQ.below (h : RQ w2 W q) (hb : Below W.heap.size W W') : RQ w2 W' q :=
  let ⟨pv, hk, ho, hl⟩ := h
  ⟨pv, hk.below hb hk.lt, ho.below elPha_good hb, hl.trans (hb.mono (Nat.le_of_lt hk.lt))⟩
theorem RC.rq (h : RC w2 Wb g F W q c) : RQ w2 W q := let ⟨pv, hk, ho, _⟩ := h.ex; ⟨pv, hk, ho, h.bel⟩
theorem RQ.start (w2 : World) : RQ w2 (w2.alloc (.cells (rulCells noRul (.slice none 0 0)) 24)) noRul := ⟨_, Blk.new w2 _ _, OwnSl.nil _, Below.alloc (Below.refl _ _) (Nat.le_refl _) _⟩
theorem rq_At (h : RQ w2 W q) (x : Lin) (v : Value) (F0 : Nat → Prop) (hx : Sl 3 elFld W F0 v x.fields) (hF0 : ∀ b, F0 b → b < W.heap.size) (hl : OkLin x) (lx : Nat) {cs : Array Value} (hk : Blk W lx 55 cs) (hne : lx ≠ w2.heap.size) :
    Calls Tryz.prog 47 #[.agg #[.int .i64 x.num, v]] W fun e W' => ∃ g F, e = .returned (.pointer (some ⟨g, 0, none⟩)) ∧ RC w2 W' g F W' q (Cur.start x) ∧ Blk W' lx 55 cs ∧ F lx := by
  refine (text_At x v F0 W hx hF0 (by have := hl.1; omega)).mono ?_
  rintro e W' ⟨g, rfl, hg, hc, hb⟩
  obtain ⟨pv, hkr, hown, hbel⟩ := h
  have hlt := hkr.lt
  have hlx := hk.lt
  refine ⟨g, fun b => (W.heap.size ≤ b ∧ b < W'.heap.size ∧ b ≠ g) ∨ b = lx, rfl, ⟨⟨pv, hkr.below hb hlt, hown.below elPha_good hb, ?_⟩, ⟨Cur.start x, ?_, Cur.sim.refl _⟩, hbel.trans (hb.mono (Nat.le_of_lt hlt)), by omega, ?_, hl.2, Same.refl _ _⟩, hk.below hb hlx, .inr rfl⟩
  · rintro b (⟨h1, _, _⟩ | rfl) e
    · have := (hown.block _ e).2; omega
    · exact own_ne hown hk (by decide) e
  · obtain ⟨fv, k1, k2⟩ := hc.blk
    refine ⟨hc.ok, ⟨fv, k1, k2.keep elFld_good (Same.refl _ _) fun b h => .inl h⟩, ?_⟩
    rintro b (h1 | rfl)
    · exact hc.foot b h1
    · exact ⟨Nat.lt_of_lt_of_le hlx hb.size, by omega⟩
  · rintro (⟨h1, _⟩ | h1)
    · omega
    · exact hne h1.symm
theorem rc_Close (h : RC w2 Wb g F W q c) : Calls Tryz.prog 49 #[.pointer (some ⟨g, 0, none⟩)] W fun e W' => e = .returned (closeV c.close) ∧ RC w2 Wb g F W' q c := by
  obtain ⟨a, hc, hs⟩ := h.cur
  refine (cur_Close a F g W hc).mono ?_
  rintro e W' ⟨rfl, h1⟩
  exact ⟨by rw [hs.close], h.below h1⟩
/-- The box of the line, while the cursor reads. -/
theorem RC.box (h : RC w2 Wb g F W q c) {lx : Nat} (hF : F lx) {cs : Array Value} (hk : Blk Wb lx 55 cs) : Blk W lx 55 cs := hk.keep h.sm hF
end
def RParsePost (w : World) (r : Rul × List Dia) (e : Ending) (w' : World) : Prop :=
  ∃ pv dv, e = .returned (.tuple #[rulV r.1 pv, dv]) ∧ Sl 3 elPha w' (Fr w.heap.size w') pv r.1.power ∧ Sl 3 elDia w' (Fr w.heap.size w') dv r.2 ∧ Below w.heap.size w w'
theorem RParsePost.below {w W : World} {r : Rul × List Dia} {pv dv : Value} (h1 : Sl 3 elPha W (Fr w.heap.size W) pv r.1.power) (h2 : Sl 3 elDia W (Fr w.heap.size W) dv r.2) (h3 : Below w.heap.size w W) : RParsePost w r (.returned (.tuple #[rulV r.1 pv, dv])) W := ⟨pv, dv, rfl, h1, h2, h3⟩
theorem rules_ret {R' : Ending → World → Prop} {a : Act} {w : World} {q : Rul} {pv v : Value} {g : Nat} (h2 : a.tmps[2]? = some (.pointer (some ⟨g, 0, none⟩))) (h3 : a.tmps[3]? = some v) (hb : Blk w g 24 (rulCells q pv))
    (hd : a.defers = []) (hR : R' (.returned (.tuple #[rulV q pv, v])) w) : bodyPost Tryz.prog Tryz.f23 R' .ret a w := by
  obtain ⟨r0, r1, r2, r3, r4, r5, r6, r7, r8, r9, r10, r11, r12, r13⟩ := Blk.fourteen hb
  refine bodyPost_ret (v := .tuple #[rulV q pv, v]) (by simp [results, Tryz.results23, go_sem, h2, h3, r0, r1, r2, r3, r4, r5, r6, r7, r8, r9, r10, r11, r12, r13]; rfl) hd hR
/-- The result is made empty. -/
theorem zero_post {w W : World} {R : Nat} {ds : List Dia} {dv : Value} (hR : R = w.heap.size) (hb : Below w.heap.size w W) (hlt : R < W.heap.size) (hd : Sl 3 elDia W (fun b => R < b ∧ b < W.heap.size) dv ds) : RParsePost w (noRul, ds) (.returned (.tuple #[rulV noRul (.slice none 0 0), dv])) (W.setRow R zeroR) := by
  subst hR
  have ho := Only.row w.heap.size W zeroR
  exact ⟨_, _, rfl, Sl.nil _ _, hd.keep elDia_good (ho.same fun b hb => ⟨hb.2, by omega⟩) fun b hb => ⟨by omega, by simpa using hb.2⟩, hb.trans (ho.below (Nat.le_refl _) (Nat.le_of_lt hlt))⟩
/-- One diagnostic, laid before the result is made empty or behind it. -/
theorem one_post {w W : World} {R n : Nat} {l c k : Int} {r : Rul × List Dia} (hr : r = (noRul, [⟨l, c, k⟩])) (hR : R = w.heap.size) (hb : Below w.heap.size w W) (hlt : R < W.heap.size) (hn : W.heap.size = n) :
    RParsePost w r (.returned (.tuple #[rulV noRul (.slice none 0 0), .slice (some ⟨n, 0, none⟩) 1 1])) ((W.alloc (.cells #[.int .i64 l, .int .i64 c, .int .i64 k] 70)).setRow R zeroR) := by
  subst hr; subst hn
  have hs := Sl.fresh1 W (fun x => x = W.heap.size) [.int .i64 l, .int .i64 c, .int .i64 k] 70 (R := elDia) (size := 3) (⟨l, c, k⟩ : Dia) rfl rfl rfl
  refine zero_post hR (Below.alloc hb (by omega) _) (by simp; omega) (hs.keep elDia_good (Same.refl _ _) fun x hx => by subst hx; simp; omega)
theorem one_post2 {w W : World} {R n : Nat} {l c k : Int} {r : Rul × List Dia} (hr : r = (noRul, [⟨l, c, k⟩])) (hR : R = w.heap.size) (hb : Below w.heap.size w W) (hlt : R < W.heap.size) (hn : W.heap.size = n) :
    RParsePost w r (.returned (.tuple #[rulV noRul (.slice none 0 0), .slice (some ⟨n, 0, none⟩) 1 1])) ((W.setRow R zeroR).alloc (.cells #[.int .i64 l, .int .i64 c, .int .i64 k] 70)) := by
  subst hr; subst hn; subst hR
  have ho := Only.row w.heap.size W zeroR
  have hb1 : Below w.heap.size w (W.setRow w.heap.size zeroR) := hb.trans (ho.below (Nat.le_refl _) (Nat.le_of_lt hlt))
  have hs := Sl.fresh1 (W.setRow w.heap.size zeroR) (fun x => x = (W.setRow w.heap.size zeroR).heap.size) [.int .i64 l, .int .i64 c, .int .i64 k] 70 (R := elDia) (size := 3) (⟨l, c, k⟩ : Dia) rfl rfl rfl
  have e : (W.setRow w.heap.size zeroR).heap.size = W.heap.size := by simp
  rw [e] at hs
  exact ⟨_, _, rfl, Sl.nil _ _, hs.keep elDia_good (Same.refl _ _) fun x hx => by subst hx; exact ⟨by omega, by simp⟩, Below.alloc hb1 (by simp; omega) _⟩
theorem fresh_post {w W : World} {n : Nat} {l c k : Int} {r : Rul × List Dia} (hr : r = (noRul, [⟨l, c, k⟩])) (hb : Below w.heap.size w W) (hn : W.heap.size = n) :
    RParsePost w r (.returned (.tuple #[rulV noRul (.slice none 0 0), .slice (some ⟨n, 0, none⟩) 1 1])) (W.alloc (.cells #[.int .i64 l, .int .i64 c, .int .i64 k] 70)) := by
  subst hr; subst hn
  have hs := Sl.fresh1 W (fun x => x = W.heap.size) [.int .i64 l, .int .i64 c, .int .i64 k] 70 (R := elDia) (size := 3) (⟨l, c, k⟩ : Dia) rfl rfl rfl
  exact ⟨_, _, rfl, Sl.nil _ _, hs.keep elDia_good (Same.refl _ _) fun x hx => by subst hx; exact ⟨hb.size, by simp⟩, Below.alloc hb hb.size _⟩
theorem RParsePost.drew {w W : World} {r : Rul × List Dia} {e : Ending} (h : RParsePost w r e W) : RParsePost w r e W.drew :=
  let ⟨pv, dv, h1, h2, h3, h4⟩ := h
  ⟨pv, dv, h1, h2.keep elPha_good (fun _ _ => rfl) fun _ h => h, h3.keep elDia_good (fun _ _ => rfl) fun _ h => h, Below.drew h4⟩
def lastK (ls : List Lin) : Nat → Int
  | 0 => 0
  | k + 1 => ((ls[k]?).map (·.num)).getD 0
theorem lastK_end (ls : List Lin) : lastK ls ls.length = lastNum ls := by
  unfold lastNum
  rw [List.getLast?_eq_getElem?]
  cases ls with
  | nil => rfl
  | cons x l => simp [lastK]
theorem lastK_at {ls : List Lin} {k : Nat} (hk : k < ls.length) : lastK ls (k + 1) = ls[k].num := by
  show ((ls[k]?).map (·.num)).getD 0 = _
  rw [List.getElem?_eq_getElem hk]; rfl
theorem lastNum_ok {s : List UInt8} : 0 ≤ lastNum (splitS s).1 ∧ lastNum (splitS s).1 ≤ s.length + 1 := by
  unfold lastNum
  cases h : (splitS s).1.getLast? with
  | none => simp; omega
  | some x =>
    have hx : x ∈ (splitS s).1 := List.mem_of_getLast? h
    obtain ⟨i, p, h1, h2, _⟩ := splitS_lines hx
    have h3 := (List.getElem?_eq_some_iff.1 h1).1
    have h4 := pieces_len 10 s
    simp only [Option.map_some, Option.getD_some]
    rw [h2]
    omega
theorem readR_small (q : Rul) (i : Nat) (x : Lin) (hx : OkLin x) (hn : q.name.length ≤ 1000) : (readR q i (Cur.start x)).1.power.length ≤ q.power.length + 1 ∧ (readR q i (Cur.start x)).1.name.length ≤ 1000 := by
  have hk : ((Cur.start x).keyword kRULES).1.ident.2.length ≤ 1000 := Cur.ident_text _ fun f hf => by
    rw [Cur.keyword_fields] at hf
    exact hx.2 f hf
  unfold readR
  split <;> first | exact ⟨by simp, hn⟩ | exact ⟨by simp, hk⟩ | (refine ⟨?_, hn⟩; simp)
section
variable {w2 Wb W : World} {q : Rul} {c : Cur} {g : Nat} {F : Nat → Prop}
theorem rc_Close_none (h : RC w2 Wb g F W q c) (hk : c.close = none) : Calls Tryz.prog 49 #[.pointer (some ⟨g, 0, none⟩)] W fun e W' => e = .returned (.tuple #[.agg #[.int .i64 0, .int .i64 0, .int .i64 0], .bool false]) ∧ RC w2 Wb g F W' q c := by
  have := rc_Close h
  rw [hk] at this
  exact this
theorem rc_Close_some {d : Dia} (h : RC w2 Wb g F W q c) (hk : c.close = some d) : Calls Tryz.prog 49 #[.pointer (some ⟨g, 0, none⟩)] W fun e W' => e = .returned (.tuple #[.agg #[.int .i64 d.line, .int .i64 d.col, .int .i64 d.code], .bool true]) ∧ RC w2 Wb g F W' q c := by
  have := rc_Close h
  rw [hk] at this
  exact this
end
set_option maxRecDepth 100000 in
set_option maxHeartbeats 4000000 in
theorem rul_Parse (s : ByteArray) (w : World) (hg : GlobN w) (hs : s.size ≤ 140737488351232) :
    Calls Tryz.prog 23 #[.string s] w (RParsePost w (parseR s.data.toList)) := by
  obtain ⟨res, hres⟩ : ∃ r, r = parseR s.data.toList := ⟨_, rfl⟩
  rw [← hres]
  unfold parseR at hres
  have hok := splitS_ok s.data.toList
  obtain ⟨w0, hw0⟩ : ∃ x, x = w.alloc (.cells (rulCells noRul (.slice none 0 0)) 24) := ⟨_, rfl⟩
  have hb0 : Below w.heap.size w w0 := by rw [hw0]; exact Below.alloc (Below.refl _ _) (Nat.le_refl _) _
  have hz0 : w0.heap.size = w.heap.size + 1 := by rw [hw0]; simp
  have hk0 : Blk w0 w.heap.size 24 zeroR := by rw [hw0]; exact Blk.new w _ _
  obtain ⟨⟨ls, ds⟩, hq⟩ : ∃ x, x = splitS s.data.toList := ⟨_, rfl⟩
  have hsp0 := text_Split s w0 (hg.below hb0).glob hs
  have hsp : Calls Tryz.prog 46 #[.string s] w0 fun e w2 => ∃ v d, e = .returned (.tuple #[v, d]) ∧ Sl 2 elLin w2 (fun b => w.heap.size < b ∧ b < w2.heap.size) v ls ∧ Sl 3 elDia w2 (fun b => w.heap.size < b ∧ b < w2.heap.size) d ds ∧ Below w.heap.size w w2 ∧ Blk w2 w.heap.size 24 zeroR := by
    refine hsp0.mono ?_
    rintro e w2 ⟨v, d, rfl, hv, hd, hb2⟩
    rw [← hq] at hv hd
    exact ⟨v, d, rfl, hv.keep elLin_good (Same.refl _ _) (fun b hb => ⟨by have := hb.1; omega, hb.2⟩), hd.keep elDia_good (Same.refl _ _) (fun b hb => ⟨by have := hb.1; omega, hb.2⟩), hb0.trans (hb2.mono (by omega)), hk0.below hb2 (by omega)⟩
  rw [← hq] at hres hok
  rw [hw0] at hsp
  simp only at hres hok
  unfold rulCells noRul at hsp
  dsimp only at hsp
  have HSP := Lib.hid hsp
  have HOK := Lib.hid hok
  have HG := Lib.hid hg
  have hqq := Lib.hid hq
  clear hsp0 hsp hok hq hg hk0 hb0 hz0 hw0
  clear w0
  by_cases hds : ds = []
  · rw [if_neg (by simpa using hds)] at hres
    subst hds
    have hln := lastNum_ok (s := s.data.toList)
    rw [show (splitS s.data.toList).1 = ls from by rw [← hqq.out]] at hln
    have HLN := Lib.hid (show 0 ≤ lastNum ls ∧ lastNum ls ≤ 140737488351233 from ⟨hln.1, by have := hln.2; have e : s.data.toList.length = s.size := rfl; omega⟩)
    clear hln
    have HR := Lib.hid hres
    have hlen0 : (([] : List Dia).length : Int) = 0 := rfl
    clear hres
    go_enter Tryz.func23, Tryz.ntmps23
    go_wp2_with (go_at_call 46; refine HSP.out.mono ?_; rintro e w2 ⟨v, d, rfl, hv, hd, hb2, hk2⟩; obtain ⟨Av, cv, rfl, hcv, hcv'⟩ := hv.shape; obtain ⟨Ad, cd, rfl, hcd, hcd'⟩ := hd.shape; have hlt := hk2.lt; have HB2 := Lib.hid hb2; have HK2 := Lib.hid hk2; have HV := Lib.hid hv; clear hb2 hk2 hv hd)
    have HQ0 := Lib.hid (RQ.start w2)
    have HG2 := Lib.hid (HG.out.below HB2.out)
    go_loopw [26, 7] (fun i la wr => ∃ (k : Nat) (q : Rul), k ≤ ls.length ∧ i = .int .i64 k ∧ la = .int .i64 (lastK ls k) ∧ RQ w2 wr q ∧ q.power.length ≤ k ∧ q.name.length ≤ 1000 ∧ Hid (linesR (ls.drop k) k q = linesR ls 0 noRul))
      (fun i _ _ => ls.length - (intOf i).toNat)
    case atStart => exact ⟨0, noRul, Nat.zero_le _, rfl, rfl, HQ0.out, Nat.le_refl _, by simp [noRul], rfl⟩
    case round =>
      obtain ⟨k, q, hk, rfl, rfl, hrq, hqn, hqm, hlf⟩ := hrel
      have HQ := Lib.hid hrq
      have hzr := hrq.lt
      clear hrq
      by_cases hlt2 : k < ls.length
      · obtain ⟨b, o, cs, rfl, hF, hcl, hcc, hel⟩ := HV.out.at hlt2
        have hox := HOK.out.1 _ (List.getElem_mem hlt2)
        have hlk := hlf.out
        rw [drop_get hlt2] at hlk
        have hla : lastK ls (k + 1) = (ls[k]).num := lastK_at hlt2
        obtain ⟨⟨xn, fs⟩, hx⟩ : ∃ x, x = ls[k] := ⟨_, rfl⟩
        rw [← hx] at hel hlk hox hla
        obtain ⟨fv, rfl, hfl⟩ := hel
        dsimp only at hfl hcc hla
        obtain ⟨A2, c2, rfl, hf1, hf2⟩ := hfl.shape
        have x0 : wr.cell? ⟨b, o + k * 2, none⟩ = some (.int .i64 xn) := (HQ.out.bel.cell (p := ⟨b, o + k * 2, none⟩) hF.2).trans (hcc 0 _ rfl)
        have x1 : wr.cell? ⟨b, o + k * 2 + 1, none⟩ = some (.slice A2 fs.length c2) := (HQ.out.bel.cell (p := ⟨b, o + k * 2 + 1, none⟩) hF.2).trans (hcc 1 _ rfl)
        obtain ⟨⟨q', c'⟩, hst⟩ : ∃ r, r = readR q k (Cur.start ⟨xn, fs⟩) := ⟨_, rfl⟩
        have hsm := readR_small q k ⟨xn, fs⟩ hox hqm
        rw [← hst] at hsm
        have hn6 : q.power.length ≤ 1000000 := by have := HOK.out.2.1; omega
        have kr : ∀ Wb W g F, RC w2 Wb g F W q (Cur.start ⟨xn, fs⟩) → Calls Tryz.prog 48 #[.pointer (some ⟨w2.heap.size, 0, none⟩), .int .i64 k, .pointer (some ⟨g, 0, none⟩)] W fun e W' => e = .returned (.tuple #[]) ∧ RC w2 Wb g F W' q' c' := fun Wb W g F h => by
          have := rul_read k HG2.out h hn6
          rw [← hst] at this
          exact this
        have ka := rq_At (HQ.out.below (Below.alloc (Below.refl wr.heap.size wr) (Nat.le_refl _) (.cells #[.int .i64 xn, .slice A2 fs.length c2] 55))) ⟨xn, fs⟩ _ _ (hfl.keep elFld_good (Same.below (HQ.out.below (Below.alloc (Below.refl wr.heap.size wr) (Nat.le_refl _) (.cells #[.int .i64 xn, .slice A2 fs.length c2] 55))).bel fun b hb => hb.2) fun _ h => h) (fun b hb => by have := hb.2; simp; omega) hox wr.heap.size (Blk.new wr _ _) (by omega)
        have KA := Lib.hid ka
        have KR := Lib.hid kr
        have HSM := Lib.hid hsm
        have HLA := Lib.hid hla
        have HRR := HR
        have tok0 : True := trivial
        clear hsm ka kr hfl hcc hx hox hcl hF hlf HR hla
        cases hcl : c'.close with
        | none =>
          rw [linesR_ok (by rw [← hst]; exact hcl), ← hst] at hlk
          have HLK := Lib.hid hlk
          have HCL := Lib.hid hcl
          clear hlk hcl hst
          go_wp2_with (first
            | (clear tok0; go_at_call 47; refine KA.out.mono ?_; rintro e w3 ⟨g, F, rfl, hrc, hkx, hFx⟩; have HRC := Lib.hid hrc; have HKX := Lib.hid hkx; have HFX := Lib.hid hFx; clear hrc hkx hFx; have tok1 : True := trivial)
            | (clear tok1; go_at_call 48; refine (KR.out _ _ _ _ HRC.out).mono ?_; rintro e w4 ⟨rfl, hr4⟩; have HR4 := Lib.hid hr4; clear hr4; have tok2 : True := trivial)
            | (clear tok2; go_at_call 49; refine (rc_Close_none HR4.out HCL.out).mono ?_; rintro e w5 ⟨rfl, hr5⟩; have hk5 := hr5.box HFX.out HKX.out; have b0 : w5.cell? ⟨wr.heap.size, 0, none⟩ = some (.int .i64 xn) := hk5.cell 0; have hz5 := hk5.lt; have HR5 := Lib.hid hr5; clear hr5 hk5; have tok3 : True := trivial))
          go_roundw
          case rel => exact ⟨k + 1, q', by omega, by go_num, by rw [HLA.out], HR5.out.rq.below (Below.alloc (Below.refl _ _) (Nat.le_refl _) _), by have := HSM.out.1; omega, HSM.out.2, by unfold Hid; exact HLK.out⟩
          case measure => simp [intOf]; omega
        | some d =>
          rw [linesR_bad (by rw [← hst]; exact hcl)] at hlk
          have hr2 : res = (noRul, [d]) := by rw [HRR.out, ← hlk]
          obtain ⟨dl, dc, dk⟩ := d
          have HR2 := Lib.hid hr2
          have HCL := Lib.hid hcl
          clear hlk hcl hst hr2
          go_wp2_with (first
            | (clear tok0; go_at_call 47; refine KA.out.mono ?_; rintro e w3 ⟨g, F, rfl, hrc, hkx, hFx⟩; have HRC := Lib.hid hrc; clear hrc hkx hFx; have tok1 : True := trivial)
            | (clear tok1; go_at_call 48; refine (KR.out _ _ _ _ HRC.out).mono ?_; rintro e w4 ⟨rfl, hr4⟩; have HR4 := Lib.hid hr4; clear hr4; have tok2 : True := trivial)
            | (clear tok2; go_at_call 49; refine (rc_Close_some HR4.out HCL.out).mono ?_; rintro e w5 ⟨rfl, hr5⟩; have HQ5 := Lib.hid hr5.rq; clear hr5; have tok3 : True := trivial))
          have hk5 := HK2.out.below HQ5.out.bel hlt
          have hlt5 := hk5.lt
          have HK5 := Lib.hid hk5
          obtain ⟨r0, r1, r2, r3, r4, r5, r6, r7, r8, r9, r10, r11, r12, r13⟩ := Blk.fourteen (show Blk _ _ _ #[.string ⟨#[]⟩, .int .i64 0, .int .i64 0, .int .i64 0, .int .i64 0, .int .i64 0, .int .i64 0, .int .i64 0, .bool false, .int .i64 0, .int .i64 0, .int .i64 0, .int .i64 0, .slice none 0 0] from hk5)
          have f0 := Blk.frozen (show Blk _ _ _ zeroR from hk5) 0
          have f1 := Blk.frozen (show Blk _ _ _ zeroR from hk5) 1
          have f2 := Blk.frozen (show Blk _ _ _ zeroR from hk5) 2
          have f3 := Blk.frozen (show Blk _ _ _ zeroR from hk5) 3
          have f4 := Blk.frozen (show Blk _ _ _ zeroR from hk5) 4
          have f5 := Blk.frozen (show Blk _ _ _ zeroR from hk5) 5
          have f6 := Blk.frozen (show Blk _ _ _ zeroR from hk5) 6
          have f7 := Blk.frozen (show Blk _ _ _ zeroR from hk5) 7
          have f8 := Blk.frozen (show Blk _ _ _ zeroR from hk5) 8
          have f9 := Blk.frozen (show Blk _ _ _ zeroR from hk5) 9
          have f10 := Blk.frozen (show Blk _ _ _ zeroR from hk5) 10
          have f11 := Blk.frozen (show Blk _ _ _ zeroR from hk5) 11
          have f12 := Blk.frozen (show Blk _ _ _ zeroR from hk5) 12
          have f13 := Blk.frozen (show Blk _ _ _ zeroR from hk5) 13
          clear hk5
          go_region
          all_goals go_wp2
          rw [zero_chain HK5.out]
          refine rules_ret rfl rfl (Blk.drew (((HK5.out.row _).alloc _).alloc _)) rfl (RParsePost.drew (fresh_post HR2.out (Below.alloc ((HB2.out.trans (HQ5.out.bel.mono (Nat.le_of_lt hlt))).trans ((Only.row w.heap.size w5 _).below (Nat.le_refl _) (Nat.le_of_lt hlt5))) ?_ _) ?_))
          · simp; omega
          · simp
      · have hke : k = ls.length := by omega
        have hle := lastK_end ls
        rw [← hke] at hle
        have ho := hlf.out
        rw [List.drop_eq_nil_of_le (by omega), linesR] at ho
        have hr := HR.out
        rw [← ho] at hr
        dsimp only at hr
        have hkr := HK2.out.below HQ.out.bel hlt
        have hltr := hkr.lt
        have hln2 : 0 ≤ lastK ls k ∧ lastK ls k ≤ 140737488351233 := by
          have := HLN.out
          rw [hle]; omega
        obtain ⟨la, hla⟩ : ∃ x, x = lastK ls k := ⟨_, rfl⟩
        rw [← hla] at hln2
        have hla2 : lastNum ls = la := by rw [hla, hle]
        rw [hla2] at hr
        obtain ⟨hl0, hl1⟩ := hln2
        have HKR := Lib.hid hkr
        obtain ⟨r0, r1, r2, r3, r4, r5, r6, r7, r8, r9, r10, r11, r12, r13⟩ := Blk.fourteen (show Blk _ _ _ #[.string ⟨#[]⟩, .int .i64 0, .int .i64 0, .int .i64 0, .int .i64 0, .int .i64 0, .int .i64 0, .int .i64 0, .bool false, .int .i64 0, .int .i64 0, .int .i64 0, .int .i64 0, .slice none 0 0] from hkr)
        have f0 := Blk.frozen (show Blk _ _ _ zeroR from hkr) 0
        have f1 := Blk.frozen (show Blk _ _ _ zeroR from hkr) 1
        have f2 := Blk.frozen (show Blk _ _ _ zeroR from hkr) 2
        have f3 := Blk.frozen (show Blk _ _ _ zeroR from hkr) 3
        have f4 := Blk.frozen (show Blk _ _ _ zeroR from hkr) 4
        have f5 := Blk.frozen (show Blk _ _ _ zeroR from hkr) 5
        have f6 := Blk.frozen (show Blk _ _ _ zeroR from hkr) 6
        have f7 := Blk.frozen (show Blk _ _ _ zeroR from hkr) 7
        have f8 := Blk.frozen (show Blk _ _ _ zeroR from hkr) 8
        have f9 := Blk.frozen (show Blk _ _ _ zeroR from hkr) 9
        have f10 := Blk.frozen (show Blk _ _ _ zeroR from hkr) 10
        have f11 := Blk.frozen (show Blk _ _ _ zeroR from hkr) 11
        have f12 := Blk.frozen (show Blk _ _ _ zeroR from hkr) 12
        have f13 := Blk.frozen (show Blk _ _ _ zeroR from hkr) 13
        clear hkr hlf ho hle hla2 hke
        by_cases h12 : ls.length < 12
        · rw [if_pos h12] at hr
          have HRR := Lib.hid hr
          have e12 : (ls.length : Int) < 12 := by omega
          have HBW := Lib.hid (HB2.out.trans (HQ.out.bel.mono (Nat.le_of_lt hlt)))
          clear hr
          rw [← hla]
          clear hla
          go_wp2
          rw [zero_chain HKR.out]
          exact rules_ret rfl rfl ((HKR.out.row _).alloc _) rfl (one_post2 HRR.out rfl HBW.out hltr rfl)
        · rw [if_neg h12] at hr
          have e12 : ¬ (ls.length : Int) < 12 := by omega
          obtain ⟨pv, hkq, howq, hbq⟩ := HQ.out
          obtain ⟨Ap, cp, rfl, _, _⟩ := (howq.sl elPha_good).shape
          have hltq := hkq.lt
          have hck := rul_Check q _ wr ((howq.sl elPha_good).keep elPha_good (Same.refl _ _) fun b hb => hb.2) (by omega)
          obtain ⟨e, he⟩ : ∃ e, e = checkR q := ⟨_, rfl⟩
          rw [← he] at hck hr
          unfold rulV rulCells at hck
          have HCK := Lib.hid hck
          have HKQ := Lib.hid hkq
          have HOW := Lib.hid howq
          have HBW := Lib.hid (HB2.out.trans (hbq.mono (Nat.le_of_lt hlt)))
          obtain ⟨yr0, yr1, yr2, yr3, yr4, yr5, yr6, yr7, yr8, yr9, yr10, yr11, yr12, yr13⟩ := Blk.fourteen (show Blk _ _ _ #[.string (S q.name), .int .i64 q.side, .int .i64 q.inns, .int .i64 q.overs, .int .i64 q.balls, .int .i64 q.quota, .int .i64 q.wide, .int .i64 q.noball, .bool q.free, .int .i64 q.newball, .int .i64 q.follow, .int .i64 q.reviews, .int .i64 q.outside, .slice Ap q.power.length cp] from hkq)
          clear hck hkq howq hbq he HQ hla
          clear r0 f0 r1 f1 r2 f2 r3 f3 r4 f4 r5 f5 r6 f6 r7 f7 r8 f8 r9 f9 r10 f10 r11 f11 r12 f12 r13 f13
          by_cases hz : e = 0
          · rw [if_neg (by simp [hz])] at hr
            subst hz
            have HRR := Lib.hid hr
            clear hr
            go_wp2_with (go_at_call 12; refine HCK.out.mono ?_; rintro x w9 ⟨rfl, hb9⟩; clear yr0 yr1 yr2 yr3 yr4 yr5 yr6 yr7 yr8 yr9 yr10 yr11 yr12 yr13; have hkq9 := HKQ.out.below hb9 hltq; have hk9 := HKR.out.below hb9 hltr; obtain ⟨yr0, yr1, yr2, yr3, yr4, yr5, yr6, yr7, yr8, yr9, yr10, yr11, yr12, yr13⟩ := Blk.fourteen (show Blk _ _ _ #[.string (S q.name), .int .i64 q.side, .int .i64 q.inns, .int .i64 q.overs, .int .i64 q.balls, .int .i64 q.quota, .int .i64 q.wide, .int .i64 q.noball, .bool q.free, .int .i64 q.newball, .int .i64 q.follow, .int .i64 q.reviews, .int .i64 q.outside, .slice Ap q.power.length cp] from hkq9); obtain ⟨r0, r1, r2, r3, r4, r5, r6, r7, r8, r9, r10, r11, r12, r13⟩ := Blk.fourteen (show Blk _ _ _ #[.string ⟨#[]⟩, .int .i64 0, .int .i64 0, .int .i64 0, .int .i64 0, .int .i64 0, .int .i64 0, .int .i64 0, .bool false, .int .i64 0, .int .i64 0, .int .i64 0, .int .i64 0, .slice none 0 0] from hk9); have f0 := Blk.frozen (show Blk _ _ _ zeroR from hk9) 0; have f1 := Blk.frozen (show Blk _ _ _ zeroR from hk9) 1; have f2 := Blk.frozen (show Blk _ _ _ zeroR from hk9) 2; have f3 := Blk.frozen (show Blk _ _ _ zeroR from hk9) 3; have f4 := Blk.frozen (show Blk _ _ _ zeroR from hk9) 4; have f5 := Blk.frozen (show Blk _ _ _ zeroR from hk9) 5; have f6 := Blk.frozen (show Blk _ _ _ zeroR from hk9) 6; have f7 := Blk.frozen (show Blk _ _ _ zeroR from hk9) 7; have f8 := Blk.frozen (show Blk _ _ _ zeroR from hk9) 8; have f9 := Blk.frozen (show Blk _ _ _ zeroR from hk9) 9; have f10 := Blk.frozen (show Blk _ _ _ zeroR from hk9) 10; have f11 := Blk.frozen (show Blk _ _ _ zeroR from hk9) 11; have f12 := Blk.frozen (show Blk _ _ _ zeroR from hk9) 12; have f13 := Blk.frozen (show Blk _ _ _ zeroR from hk9) 13; have hz9 := hk9.lt; have HK9 := Lib.hid hk9; have HB9 := Lib.hid hb9; clear hkq9 hk9 hb9)
            rw [zero_chain HK9.out, HRR.out]
            have hs9 := (HOW.out.below elPha_good HB9.out).sl elPha_good
            have ho9 := fun cs => Only.row w.heap.size w9 cs
            refine rules_ret (q := q) (pv := .slice Ap q.power.length cp) rfl rfl (HK9.out.row _) rfl ⟨_, _, rfl, hs9.keep elPha_good ((ho9 _).same fun b hb => ⟨hb.2, by omega⟩) fun b hb => ⟨by omega, by simpa using hb.2⟩, Sl.nil _ _, (HBW.out.trans (HB9.out.mono HBW.out.size)).trans ((ho9 _).below (Nat.le_refl _) (Nat.le_of_lt hz9))⟩
          · rw [if_pos hz] at hr
            have e9 : (e != 0) = true := by simp [hz]
            have HRR := Lib.hid hr
            clear hr hz
            go_wp2_with (go_at_call 12; refine HCK.out.mono ?_; rintro x w9 ⟨rfl, hb9⟩; clear yr0 yr1 yr2 yr3 yr4 yr5 yr6 yr7 yr8 yr9 yr10 yr11 yr12 yr13; have hk9 := HKR.out.below hb9 hltr; obtain ⟨r0, r1, r2, r3, r4, r5, r6, r7, r8, r9, r10, r11, r12, r13⟩ := Blk.fourteen (show Blk _ _ _ #[.string ⟨#[]⟩, .int .i64 0, .int .i64 0, .int .i64 0, .int .i64 0, .int .i64 0, .int .i64 0, .int .i64 0, .bool false, .int .i64 0, .int .i64 0, .int .i64 0, .int .i64 0, .slice none 0 0] from hk9); have f0 := Blk.frozen (show Blk _ _ _ zeroR from hk9) 0; have f1 := Blk.frozen (show Blk _ _ _ zeroR from hk9) 1; have f2 := Blk.frozen (show Blk _ _ _ zeroR from hk9) 2; have f3 := Blk.frozen (show Blk _ _ _ zeroR from hk9) 3; have f4 := Blk.frozen (show Blk _ _ _ zeroR from hk9) 4; have f5 := Blk.frozen (show Blk _ _ _ zeroR from hk9) 5; have f6 := Blk.frozen (show Blk _ _ _ zeroR from hk9) 6; have f7 := Blk.frozen (show Blk _ _ _ zeroR from hk9) 7; have f8 := Blk.frozen (show Blk _ _ _ zeroR from hk9) 8; have f9 := Blk.frozen (show Blk _ _ _ zeroR from hk9) 9; have f10 := Blk.frozen (show Blk _ _ _ zeroR from hk9) 10; have f11 := Blk.frozen (show Blk _ _ _ zeroR from hk9) 11; have f12 := Blk.frozen (show Blk _ _ _ zeroR from hk9) 12; have f13 := Blk.frozen (show Blk _ _ _ zeroR from hk9) 13; have hz9 := hk9.lt; have HK9 := Lib.hid hk9; have HB9 := Lib.hid hb9; clear hk9 hb9)
            rw [zero_chain HK9.out]
            exact rules_ret rfl rfl ((HK9.out.row _).alloc _) rfl (one_post2 HRR.out rfl (HBW.out.trans (HB9.out.mono HBW.out.size)) hz9 rfl)
  · rw [if_pos hds] at hres
    have HR := Lib.hid hres
    have hpos : 0 < ds.length := List.length_pos_iff.2 hds
    have d0 : (0 : Int) < ds.length := by omega
    have tok0 : True := trivial
    clear hds hres
    go_enter Tryz.func23, Tryz.ntmps23
    go_wp2_with (go_at_call 46; refine HSP.out.mono ?_; rintro e w2 ⟨v, d, rfl, hv, hd, hb2, hk2⟩; obtain ⟨Av, cv, rfl, hcv, hcv'⟩ := hv.shape; obtain ⟨Ad, cd, rfl, hcd, hcd'⟩ := hd.shape; have hlt := hk2.lt; obtain ⟨r0, r1, r2, r3, r4, r5, r6, r7, r8, r9, r10, r11, r12, r13⟩ := Blk.fourteen (show Blk _ _ _ #[.string ⟨#[]⟩, .int .i64 0, .int .i64 0, .int .i64 0, .int .i64 0, .int .i64 0, .int .i64 0, .int .i64 0, .bool false, .int .i64 0, .int .i64 0, .int .i64 0, .int .i64 0, .slice none 0 0] from hk2); have f0 := Blk.frozen hk2 0; have f1 := Blk.frozen hk2 1; have f2 := Blk.frozen hk2 2; have f3 := Blk.frozen hk2 3; have f4 := Blk.frozen hk2 4; have f5 := Blk.frozen hk2 5; have f6 := Blk.frozen hk2 6; have f7 := Blk.frozen hk2 7; have f8 := Blk.frozen hk2 8; have f9 := Blk.frozen hk2 9; have f10 := Blk.frozen hk2 10; have f11 := Blk.frozen hk2 11; have f12 := Blk.frozen hk2 12; have f13 := Blk.frozen hk2 13; have HB2 := Lib.hid hb2; have HK2 := Lib.hid hk2; have HD := Lib.hid hd; clear hb2 hk2 hv hd)
    rw [zero_chain HK2.out, HR.out]
    exact rules_ret rfl rfl (HK2.out.row _) rfl (zero_post rfl HB2.out hlt HD.out)
end Go.Proofs.YtnacklbaphobbaaGreatDoor
