/- Several texts of this family in one: D33. -/
import Derived.Test.YtdlmmbfnmnglaaaGreatDoorGB5
import Derived.Test.YtdlmmbfnmnglaaaGreatDoorGB2
set_option linter.unusedSimpArgs false
set_option linter.unusedVariables false
namespace Go.Proofs.YtdlmmbfnmnglaaaGreatDoor
open Go.RowKit Go.Maps

/-- A task and an entry boxed. -/
structure LaC (w W : World) (c : Chs) (bv wv pv ov : Value) (x : Cve) : Prop where
  bel : Below w.heap.size w W
  box : Blk W w.heap.size 28 #[bv, wv, pv, .int .i64 c.over, .int .i64 c.done, .int .i64 c.need, ov]
  xb : Blk W (w.heap.size + 1) 32 #[.int .i64 x.st.ball, .int .i64 x.st.need, .int .i64 x.st.str, .int .i64 x.st.par, .int .i64 x.st.nxt, .int .i64 x.val]
section
variable {w W W' : World} {c : Chs} {bv wv pv ov : Value} {x : Cve}
theorem LaC.below (h : LaC w W c bv wv pv ov x) (hb : Below W.heap.size W W') : LaC w W' c bv wv pv ov x := ⟨h.bel.trans (hb.mono h.bel.size), h.box.below hb h.box.lt, h.xb.below hb h.xb.lt⟩
theorem LaC.cells (h : LaC w W c bv wv pv ov x) : W.cell? ⟨w.heap.size, 0, none⟩ = some bv ∧ W.cell? ⟨w.heap.size, 1, none⟩ = some wv ∧ W.cell? ⟨w.heap.size, 2, none⟩ = some pv ∧ W.cell? ⟨w.heap.size, 3, none⟩ = some (.int .i64 c.over) ∧ W.cell? ⟨w.heap.size, 4, none⟩ = some (.int .i64 c.done) ∧ W.cell? ⟨w.heap.size, 5, none⟩ = some (.int .i64 c.need) ∧ W.cell? ⟨w.heap.size, 6, none⟩ = some ov :=
  ⟨h.box.cell 0, h.box.cell 1, h.box.cell 2, h.box.cell 3, h.box.cell 4, h.box.cell 5, h.box.cell 6⟩
theorem LaC.xcells (h : LaC w W c bv wv pv ov x) : W.cell? ⟨w.heap.size + 1, 0, none⟩ = some (.int .i64 x.st.ball) ∧ W.cell? ⟨w.heap.size + 1, 1, none⟩ = some (.int .i64 x.st.need) ∧ W.cell? ⟨w.heap.size + 1, 2, none⟩ = some (.int .i64 x.st.str) ∧ W.cell? ⟨w.heap.size + 1, 3, none⟩ = some (.int .i64 x.st.par) ∧ W.cell? ⟨w.heap.size + 1, 4, none⟩ = some (.int .i64 x.st.nxt) ∧ W.cell? ⟨w.heap.size + 1, 5, none⟩ = some (.int .i64 x.val) :=
  ⟨h.xb.cell 0, h.xb.cell 1, h.xb.cell 2, h.xb.cell 3, h.xb.cell 4, h.xb.cell 5⟩
theorem LaC.new (w : World) (c : Chs) (bv wv pv ov : Value) (x : Cve) : LaC w ((w.alloc (.cells #[bv, wv, pv, .int .i64 c.over, .int .i64 c.done, .int .i64 c.need, ov] 28)).alloc (.cells #[.int .i64 x.st.ball, .int .i64 x.st.need, .int .i64 x.st.str, .int .i64 x.st.par, .int .i64 x.st.nxt, .int .i64 x.val] 32)) c bv wv pv ov x :=
  ⟨below_two w _ _, (Blk.new w 28 #[bv, wv, pv, .int .i64 c.over, .int .i64 c.done, .int .i64 c.need, ov]).alloc _, blk_two w _ _ _⟩
theorem LaC.set (h : LaC w W c bv wv pv ov x) {g : Nat} (hg : w.heap.size + 1 < g) (o : Nat) (u : Value) : LaC w (W.setCell ⟨g, o, none⟩ u) c bv wv pv ov x :=
  ⟨Below.setCell h.bel (by show w.heap.size ≤ g; omega) u, h.box.far (p := ⟨g, o, none⟩) (by show w.heap.size ≠ g; omega) u, h.xb.far (p := ⟨g, o, none⟩) (by show w.heap.size + 1 ≠ g; omega) u⟩
end
theorem load_cvZ {w : World} {g : Nat} {p0 p1 p2 p3 p4 vv : Int} (h : Blk w g 32 #[.int .i64 p0, .int .i64 p1, .int .i64 p2, .int .i64 p3, .int .i64 p4, .int .i64 vv]) : (Instr.loadAt 32 (.pointer (some ⟨g, 0, none⟩))).run Tryz.prog w = .ok (.agg #[.int .i64 p0, .int .i64 p1, .int .i64 p2, .int .i64 p3, .int .i64 p4, .int .i64 vv]) w := by
  have c0 := h.cell 0
  have c1 := h.cell 1
  have c2 := h.cell 2
  have c3 := h.cell 3
  have c4 := h.cell 4
  have c5 := h.cell 5
  simp only [List.getElem?_toArray, List.getElem?_cons_zero, List.getElem?_cons_succ] at c0 c1 c2 c3 c4 c5
  simp [go_sem, c0, c1, c2, c3, c4, c5]
theorem bi_cv (w : World) (p0 p1 p2 p3 p4 vv : Int) : (Instr.buildSlice 35 1 #[(0, .agg #[.int .i64 p0, .int .i64 p1, .int .i64 p2, .int .i64 p3, .int .i64 p4, .int .i64 vv])]).run Tryz.prog w = .ok (.slice (some ⟨w.heap.size, 0, none⟩) 1 1) (w.alloc (.cells #[.int .i64 p0, .int .i64 p1, .int .i64 p2, .int .i64 p3, .int .i64 p4, .int .i64 vv] 32)) := by kernel_rfl
/-- A row that is owned: its first place, what it holds, and that it may be written. -/
theorem cvown_at {W : World} {A : Option Addr} {n cap B : Nat} {l : List Cve} (h : OwnSl 6 elCv 32 B W (.slice A n cap) l) (h0 : 0 < l.length) : ∃ g, A = some ⟨g, 0, none⟩ ∧ B ≤ g ∧ g < W.heap.size ∧ n = l.length ∧ n ≤ cap ∧ (∀ j, W.frozen? ⟨g, j, none⟩ = false) := by
  have hn : n = l.length := by
    obtain ⟨_, _, e, _⟩ := (OwnSl.sl elCv_good h).shape
    injection e
  obtain ⟨css, h1, h2, h3, h4⟩ := h
  have h2' := h2
  rcases h2.2 with ⟨e, _⟩ | ⟨g, cap', cur, e, e2, e3, e4, e5, e6⟩
  · injection e with _ e _; omega
  · injection e with q1 q2 q3
    subst q1 q3
    rw [← q2] at h2'
    have hlt : g < W.heap.size := by
      rcases Nat.lt_or_ge g W.heap.size with h | h
      · exact h
      · rw [Array.getElem?_eq_none h] at e3; cases e3
    exact ⟨g, rfl, e2, hlt, hn, by omega, fun j => h2'.frozenAt j⟩
/-- One cell of an entry written. -/
theorem cvown_put {W : World} {g n cap B i j : Nat} {l : List Cve} (h : OwnSl 6 elCv 32 B W (.slice (some ⟨g, 0, none⟩) n cap) l) (hi : i < l.length) (hj : j < 6) (u : Value) (a' : Cve)
    (hs : [.int .i64 l[i].st.ball, .int .i64 l[i].st.need, .int .i64 l[i].st.str, .int .i64 l[i].st.par, .int .i64 l[i].st.nxt, .int .i64 l[i].val].set j u = [.int .i64 a'.st.ball, .int .i64 a'.st.need, .int .i64 a'.st.str, .int .i64 a'.st.par, .int .i64 a'.st.nxt, .int .i64 a'.val]) :
    OwnSl 6 elCv 32 B (W.setCell ⟨g, i * 6 + j, none⟩ u) (.slice (some ⟨g, 0, none⟩) n cap) (l.set i a') :=
  OwnG.put h (fun _ _ _ h => h) hi hj u a' fun cs w' hcs => by
    have hcs : cs = _ := hcs
    subst hcs
    exact hs
theorem cvown_put6 {W : World} {g n cap B i : Nat} {l : List Cve} (h : OwnSl 6 elCv 32 B W (.slice (some ⟨g, 0, none⟩) n cap) l) (hi : i < l.length) (p0 p1 p2 p3 p4 vv : Int) :
    OwnSl 6 elCv 32 B ((((((W.setCell ⟨g, i * 6, none⟩ (.int .i64 p0)).setCell ⟨g, i * 6 + 1, none⟩ (.int .i64 p1)).setCell ⟨g, i * 6 + 2, none⟩ (.int .i64 p2)).setCell ⟨g, i * 6 + 3, none⟩ (.int .i64 p3)).setCell ⟨g, i * 6 + 4, none⟩ (.int .i64 p4)).setCell ⟨g, i * 6 + 5, none⟩ (.int .i64 vv)) (.slice (some ⟨g, 0, none⟩) n cap) (l.set i ⟨⟨p0, p1, p2, p3, p4⟩, vv⟩) := by
  obtain ⟨⟨⟨q0, q1, q2, q3, q4⟩, qv⟩, hq⟩ : ∃ x, x = l[i] := ⟨_, rfl⟩
  have h0 := cvown_put h hi (j := 0) (by decide) (.int .i64 p0) ⟨⟨p0, q1, q2, q3, q4⟩, qv⟩ (by rw [← hq]; rfl)
  have h1 := cvown_put h0 (by simpa using hi) (j := 1) (by decide) (.int .i64 p1) ⟨⟨p0, p1, q2, q3, q4⟩, qv⟩ (by rw [List.getElem_set_self]; rfl)
  have h2 := cvown_put h1 (by simpa using hi) (j := 2) (by decide) (.int .i64 p2) ⟨⟨p0, p1, p2, q3, q4⟩, qv⟩ (by rw [List.getElem_set_self]; rfl)
  have h3 := cvown_put h2 (by simpa using hi) (j := 3) (by decide) (.int .i64 p3) ⟨⟨p0, p1, p2, p3, q4⟩, qv⟩ (by rw [List.getElem_set_self]; rfl)
  have h4 := cvown_put h3 (by simpa using hi) (j := 4) (by decide) (.int .i64 p4) ⟨⟨p0, p1, p2, p3, p4⟩, qv⟩ (by rw [List.getElem_set_self]; rfl)
  have h5 := cvown_put h4 (by simpa using hi) (j := 5) (by decide) (.int .i64 vv) ⟨⟨p0, p1, p2, p3, p4⟩, vv⟩ (by rw [List.getElem_set_self]; rfl)
  simp only [List.set_set] at h5
  exact h5
theorem Sl.fullC {w : World} {F : Nat → Prop} {A : Option Addr} {n c : Nat} {l : List Cve} (h : Sl 6 elCv w F (.slice A n c) l) {i : Nat} (hi : i ≤ l.length) : Sl 6 elCv w F (.slice A i i) (l.take i) := by
  have hl : (l.take i).length = i := by rw [List.length_take]; omega
  obtain ⟨A', c', hv, h1, h2, h3⟩ := h.take hi
  injection hv with q1 q2 q3
  subst q1
  exact ⟨A, i, by rw [hl], by omega, by omega, h3⟩
theorem Sl.restC {w : World} {F : Nat → Prop} {b o n c : Nat} {l : List Cve} (h : Sl 6 elCv w F (.slice (some ⟨b, o, none⟩) n c) l) {k : Nat} (hk : k ≤ l.length) : Sl 6 elCv w F (.slice (some ⟨b, if c = k then o else o + k * 6, none⟩) (l.length - k) (c - k)) (l.drop k) := by
  by_cases hc : c = k
  · obtain ⟨A, c', hv, h1, h2, _⟩ := h
    injection hv with _ _ hv3
    subst hv3
    have hl : l.length = k := by omega
    exact ⟨_, c - k, by rw [List.length_drop], by rw [List.length_drop]; omega, by omega, fun h0 => by rw [List.length_drop] at h0; omega⟩
  · rw [if_neg hc]
    exact h.dropC hk
theorem tabWC_set {l : List Cve} (h : TabWC l) {i : Nat} {x : Cve} (hx : -9223372036854775808 ≤ x.val ∧ x.val ≤ 9223372036854775807) : TabWC (l.set i x) := fun y hy => by
  rcases List.mem_or_eq_of_mem_set hy with h1 | h1
  · exact h y h1
  · rw [h1]; exact hx
theorem tabWC_cut {l : List Cve} (h : TabWC l) (i : Nat) : TabWC (l.take i ++ l.drop (i + 1)) := fun y hy => by
  rcases List.mem_append.1 hy with h1 | h1
  · exact h y (List.mem_of_mem_take h1)
  · exact h y (List.mem_of_mem_drop h1)
noncomputable def lcOps : Array Oper := ((Tryz.f3.body).bind (findR6 14)).getD #[]
def lcNeeds : List (List Nat) := [[3], [7], [59, 60], [3], [7], [62, 63], [61, 64], [65], [3, 66], [5, 66], [66, 68], [66, 67, 69], [3, 66], [5, 66], [66, 72], [66, 71, 73], [66, 70, 74], [66, 75], [76]]
theorem lc_size : lcOps.size = 19 := by kernel_rfl
def lcTab (g : Nat) (c : Chs) (bv wv pv ov v : Value) (p0 p1 p2 p3 p4 vv a1 a2 : Int)  : List (Nat × Value) := [(3, .pointer (some ⟨g, 0, none⟩)), (5, .pointer (some ⟨g + 1, 0, none⟩)), (7, v), (59, .agg #[bv, wv, pv, .int .i64 c.over, .int .i64 c.done, .int .i64 c.need, ov]), (60, v), (61, .int .i64 a1), (62, .agg #[bv, wv, pv, .int .i64 c.over, .int .i64 c.done, .int .i64 c.need, ov]), (63, v), (64, .int .i64 a1), (65, .bool true), (66, .bool true), (67, .agg #[bv, wv, pv, .int .i64 c.over, .int .i64 c.done, .int .i64 c.need, ov]), (68, .agg #[.int .i64 p0, .int .i64 p1, .int .i64 p2, .int .i64 p3, .int .i64 p4, .int .i64 vv]), (70, .int .i64 a2), (71, .agg #[bv, wv, pv, .int .i64 c.over, .int .i64 c.done, .int .i64 c.need, ov]), (72, .agg #[.int .i64 p0, .int .i64 p1, .int .i64 p2, .int .i64 p3, .int .i64 p4, .int .i64 vv]), (74, .int .i64 a2), (75, .bool true), (76, .bool true), (6, .bool true)]
set_option maxRecDepth 100000 in
set_option maxHeartbeats 4000000 in
theorem lc_free (c : Chs) (bv wv pv ov v : Value) (p0 p1 p2 p3 p4 vv a1 a2 : Int)  (w W0 : World)
    (kA : ∀ W, Below W0.heap.size W0 W → Calls Tryz.prog 10 #[.agg #[bv, wv, pv, .int .i64 c.over, .int .i64 c.done, .int .i64 c.need, ov], v] W fun e w' => e = .returned (.int .i64 a1) ∧ Below W.heap.size W w')
    (kB : ∀ W, Below W0.heap.size W0 W → Calls Tryz.prog 11 #[.agg #[bv, wv, pv, .int .i64 c.over, .int .i64 c.done, .int .i64 c.need, ov], v] W fun e w' => e = .returned (.int .i64 a1) ∧ Below W.heap.size W w')
    (kC : ∀ W, Below W0.heap.size W0 W → ∀ u, Sl 6 elCv W (· < W.heap.size) u [⟨⟨p0, p1, p2, p3, p4⟩, vv⟩] → Calls Tryz.prog 10 #[.agg #[bv, wv, pv, .int .i64 c.over, .int .i64 c.done, .int .i64 c.need, ov], u] W fun e w' => e = .returned (.int .i64 a2) ∧ Below W.heap.size W w')
    (kD : ∀ W, Below W0.heap.size W0 W → ∀ u, Sl 6 elCv W (· < W.heap.size) u [⟨⟨p0, p1, p2, p3, p4⟩, vv⟩] → Calls Tryz.prog 11 #[.agg #[bv, wv, pv, .int .i64 c.over, .int .i64 c.done, .int .i64 c.need, ov], u] W fun e w' => e = .returned (.int .i64 a2) ∧ Below W.heap.size W w') :
    FreeG Tryz.prog lcOps (spV [69, 73] (fun _ w v => Sl 6 elCv w (· < w.heap.size) v [⟨⟨p0, p1, p2, p3, p4⟩, vv⟩]) (lcTab w.heap.size c bv wv pv ov v p0 p1 p2 p3 p4 vv a1 a2)) (fun W => LaC w W c bv wv pv ov ⟨⟨p0, p1, p2, p3, p4⟩, vv⟩ ∧ Below W0.heap.size W0 W) (fun i => lcNeeds.getD i []) [3, 5, 7] 77 := by
  refine ⟨backG_of (by kernel_rfl), dstG_of (by kernel_rfl), needG_of (by kernel_rfl), fun d w1 w2 v h hb => spV_keep (fun _ w w' v h hb => h.keep elCv_good (Same.of_below hb) fun b h => Nat.lt_of_lt_of_le h hb.size) h hb, fun W W' h hb => ⟨h.1.below hb, h.2.trans (hb.mono h.2.size)⟩, ?_⟩
  intro i o ho a W hG hn
  have hlt : i < 19 := by rw [← lc_size]; exact (Array.getElem?_eq_some_iff.1 ho).1
  have hcase : i = 0 ∨ i = 1 ∨ i = 2 ∨ i = 3 ∨ i = 4 ∨ i = 5 ∨ i = 6 ∨ i = 7 ∨ i = 8 ∨ i = 9 ∨ i = 10 ∨ i = 11 ∨ i = 12 ∨ i = 13 ∨ i = 14 ∨ i = 15 ∨ i = 16 ∨ i = 17 ∨ i = 18 := by omega
  rcases hcase with rfl | rfl | rfl | rfl | rfl | rfl | rfl | rfl | rfl | rfl | rfl | rfl | rfl | rfl | rfl | rfl | rfl | rfl | rfl
  · have hop := opG_of (x := .load 28 (.tmp 3)) (d := some 59) (by kernel_rfl) ho
    obtain ⟨h1, h2⟩ := hop
    refine .inl ⟨free_not (guardG_of (by kernel_rfl) ho), ?_⟩
    exact meets_load h1 (fgs_val 3 (.pointer (some ⟨w.heap.size, 0, none⟩)) hn (by kernel_rfl) rfl rfl) (load_chsZ hG.1.box) (fgs_put h2 rfl rfl)
  · have hop := opG_of (x := .move (.tmp 7)) (d := some 60) (by kernel_rfl) ho
    obtain ⟨h1, h2⟩ := hop
    refine .inl ⟨free_not (guardG_of (by kernel_rfl) ho), ?_⟩
    exact meets_move (.inl h1) fun d hd => by rw [h2] at hd; obtain rfl := Option.some.inj hd; exact (fgs_val 7 (v) hn (by kernel_rfl) rfl rfl)
  · have hop := opG_of (x := .call { callee := .value (.func 10), args := #[.tmp 59, .tmp 60], argTypes := #[28, 35] }) (d := some 61) (by kernel_rfl) ho
    obtain ⟨h1, h2⟩ := hop
    refine .inl ⟨free_not (guardG_of (by kernel_rfl) ho), ?_⟩
    refine meets_call (args := #[.agg #[bv, wv, pv, .int .i64 c.over, .int .i64 c.done, .int .i64 c.need, ov], v]) h1 rfl rfl (by have e59 := (fgs_val 59 (.agg #[bv, wv, pv, .int .i64 c.over, .int .i64 c.done, .int .i64 c.need, ov]) hn (by kernel_rfl) rfl rfl); have e60 := (fgs_val 60 (v) hn (by kernel_rfl) rfl rfl); simp [e59, e60]) Tryz.func10 (by kernel_rfl) (by kernel_rfl) fun d hd => ?_
    refine (kA W hG.2).mono ?_
    rintro e W' ⟨rfl, hb⟩
    exact ⟨_, rfl, hb, (fgs_put h2 rfl rfl d hd)⟩
  · have hop := opG_of (x := .load 28 (.tmp 3)) (d := some 62) (by kernel_rfl) ho
    obtain ⟨h1, h2⟩ := hop
    refine .inl ⟨free_not (guardG_of (by kernel_rfl) ho), ?_⟩
    exact meets_load h1 (fgs_val 3 (.pointer (some ⟨w.heap.size, 0, none⟩)) hn (by kernel_rfl) rfl rfl) (load_chsZ hG.1.box) (fgs_put h2 rfl rfl)
  · have hop := opG_of (x := .move (.tmp 7)) (d := some 63) (by kernel_rfl) ho
    obtain ⟨h1, h2⟩ := hop
    refine .inl ⟨free_not (guardG_of (by kernel_rfl) ho), ?_⟩
    exact meets_move (.inl h1) fun d hd => by rw [h2] at hd; obtain rfl := Option.some.inj hd; exact (fgs_val 7 (v) hn (by kernel_rfl) rfl rfl)
  · have hop := opG_of (x := .call { callee := .value (.func 11), args := #[.tmp 62, .tmp 63], argTypes := #[28, 35] }) (d := some 64) (by kernel_rfl) ho
    obtain ⟨h1, h2⟩ := hop
    refine .inl ⟨free_not (guardG_of (by kernel_rfl) ho), ?_⟩
    refine meets_call (args := #[.agg #[bv, wv, pv, .int .i64 c.over, .int .i64 c.done, .int .i64 c.need, ov], v]) h1 rfl rfl (by have e62 := (fgs_val 62 (.agg #[bv, wv, pv, .int .i64 c.over, .int .i64 c.done, .int .i64 c.need, ov]) hn (by kernel_rfl) rfl rfl); have e63 := (fgs_val 63 (v) hn (by kernel_rfl) rfl rfl); simp [e62, e63]) Tryz.func11 (by kernel_rfl) (by kernel_rfl) fun d hd => ?_
    refine (kB W hG.2).mono ?_
    rintro e W' ⟨rfl, hb⟩
    exact ⟨_, rfl, hb, (fgs_put h2 rfl rfl d hd)⟩
  · have hop := opG_of (x := .binOp .eql 36 (.tmp 61) (.tmp 64) 36) (d := some 65) (by kernel_rfl) ho
    obtain ⟨h1, h2⟩ := hop
    refine .inl ⟨free_not (guardG_of (by kernel_rfl) ho), ?_⟩
    exact meets_value (v := .bool true) (by have e61 := (fgs_val 61 (.int .i64 a1) hn (by kernel_rfl) rfl rfl); have e64 := (fgs_val 64 (.int .i64 a1) hn (by kernel_rfl) rfl rfl); unfold execOp; simp only [h1, e61, e64]; simp [go_sem, BigFrame.eval_const]) (fgs_put h2 rfl rfl)
  · have hop := opG_of (x := .move (.tmp 65)) (d := some 66) (by kernel_rfl) ho
    obtain ⟨h1, h2⟩ := hop
    refine .inl ⟨free_not (guardG_of (by kernel_rfl) ho), ?_⟩
    exact meets_move (.inl h1) fun d hd => by rw [h2] at hd; obtain rfl := Option.some.inj hd; exact (fgs_val 65 (.bool true) hn (by kernel_rfl) rfl rfl)
  · have hop := opG_of (x := .load 28 (.tmp 3)) (d := some 67) (by kernel_rfl) ho
    obtain ⟨h1, h2⟩ := hop
    refine .inl ⟨(guard_at (j := 7) (d := 66) (b := true) (b' := true) (by kernel_rfl : (lcOps[8]?).map (·.guard) = some (some (7, true))) (by kernel_rfl) ho (fgs_tmp 66 (.bool true) hn (by kernel_rfl) rfl rfl)), ?_⟩
    exact meets_load h1 (fgs_val 3 (.pointer (some ⟨w.heap.size, 0, none⟩)) hn (by kernel_rfl) rfl rfl) (load_chsZ hG.1.box) (fgs_put h2 rfl rfl)
  · have hop := opG_of (x := .load 32 (.tmp 5)) (d := some 68) (by kernel_rfl) ho
    obtain ⟨h1, h2⟩ := hop
    refine .inl ⟨(guard_at (j := 7) (d := 66) (b := true) (b' := true) (by kernel_rfl : (lcOps[9]?).map (·.guard) = some (some (7, true))) (by kernel_rfl) ho (fgs_tmp 66 (.bool true) hn (by kernel_rfl) rfl rfl)), ?_⟩
    exact meets_load h1 (fgs_val 5 (.pointer (some ⟨w.heap.size + 1, 0, none⟩)) hn (by kernel_rfl) rfl rfl) (load_cvZ hG.1.xb) (fgs_put h2 rfl rfl)
  · have hop := opG_of (x := .buildSlice 35 1 #[(0, .tmp 68)]) (d := some 69) (by kernel_rfl) ho
    obtain ⟨h1, h2⟩ := hop
    refine .inl ⟨(guard_at (j := 7) (d := 66) (b := true) (b' := true) (by kernel_rfl : (lcOps[10]?).map (·.guard) = some (some (7, true))) (by kernel_rfl) ho (fgs_tmp 66 (.bool true) hn (by kernel_rfl) rfl rfl)), ?_⟩
    refine meets_build (e := 32) h1 #[.int .i64 p0, .int .i64 p1, .int .i64 p2, .int .i64 p3, .int .i64 p4, .int .i64 vv] ?_ (fgs_put_sp h2 rfl (Sl.fresh1 (size := 6) (R := elCv) W (· < (W.alloc (.cells #[.int .i64 p0, .int .i64 p1, .int .i64 p2, .int .i64 p3, .int .i64 p4, .int .i64 vv] 32)).heap.size) [.int .i64 p0, .int .i64 p1, .int .i64 p2, .int .i64 p3, .int .i64 p4, .int .i64 vv] 32 (⟨⟨p0, p1, p2, p3, p4⟩, vv⟩ : Cve) rfl (by simp) rfl))
    have e0 := fgs_val 68 (.agg #[.int .i64 p0, .int .i64 p1, .int .i64 p2, .int .i64 p3, .int .i64 p4, .int .i64 vv]) hn (by kernel_rfl) rfl rfl
    simp only [List.map_toArray, List.map_cons, List.map_nil, e0]
    exact bi_cv W _ _ _ _ _ _
  · have hop := opG_of (x := .call { callee := .value (.func 10), args := #[.tmp 67, .tmp 69], argTypes := #[28, 35] }) (d := some 70) (by kernel_rfl) ho
    obtain ⟨h1, h2⟩ := hop
    refine .inl ⟨(guard_at (j := 7) (d := 66) (b := true) (b' := true) (by kernel_rfl : (lcOps[11]?).map (·.guard) = some (some (7, true))) (by kernel_rfl) ho (fgs_tmp 66 (.bool true) hn (by kernel_rfl) rfl rfl)), ?_⟩
    obtain ⟨u, k1, k2⟩ := fgs_sp 69 hn (by kernel_rfl) rfl
    refine meets_call (args := #[.agg #[bv, wv, pv, .int .i64 c.over, .int .i64 c.done, .int .i64 c.need, ov], u]) h1 rfl rfl (by have e1 := fgs_val 67 (.agg #[bv, wv, pv, .int .i64 c.over, .int .i64 c.done, .int .i64 c.need, ov]) hn (by kernel_rfl) rfl rfl; simp [e1, k1]) Tryz.func10 (by kernel_rfl) (by kernel_rfl) fun d hd => ?_
    refine (kC W hG.2 u k2).mono ?_
    rintro e W' ⟨rfl, hb⟩
    exact ⟨_, rfl, hb, fgs_put h2 rfl rfl d hd⟩
  · have hop := opG_of (x := .load 28 (.tmp 3)) (d := some 71) (by kernel_rfl) ho
    obtain ⟨h1, h2⟩ := hop
    refine .inl ⟨(guard_at (j := 7) (d := 66) (b := true) (b' := true) (by kernel_rfl : (lcOps[12]?).map (·.guard) = some (some (7, true))) (by kernel_rfl) ho (fgs_tmp 66 (.bool true) hn (by kernel_rfl) rfl rfl)), ?_⟩
    exact meets_load h1 (fgs_val 3 (.pointer (some ⟨w.heap.size, 0, none⟩)) hn (by kernel_rfl) rfl rfl) (load_chsZ hG.1.box) (fgs_put h2 rfl rfl)
  · have hop := opG_of (x := .load 32 (.tmp 5)) (d := some 72) (by kernel_rfl) ho
    obtain ⟨h1, h2⟩ := hop
    refine .inl ⟨(guard_at (j := 7) (d := 66) (b := true) (b' := true) (by kernel_rfl : (lcOps[13]?).map (·.guard) = some (some (7, true))) (by kernel_rfl) ho (fgs_tmp 66 (.bool true) hn (by kernel_rfl) rfl rfl)), ?_⟩
    exact meets_load h1 (fgs_val 5 (.pointer (some ⟨w.heap.size + 1, 0, none⟩)) hn (by kernel_rfl) rfl rfl) (load_cvZ hG.1.xb) (fgs_put h2 rfl rfl)
  · have hop := opG_of (x := .buildSlice 35 1 #[(0, .tmp 72)]) (d := some 73) (by kernel_rfl) ho
    obtain ⟨h1, h2⟩ := hop
    refine .inl ⟨(guard_at (j := 7) (d := 66) (b := true) (b' := true) (by kernel_rfl : (lcOps[14]?).map (·.guard) = some (some (7, true))) (by kernel_rfl) ho (fgs_tmp 66 (.bool true) hn (by kernel_rfl) rfl rfl)), ?_⟩
    refine meets_build (e := 32) h1 #[.int .i64 p0, .int .i64 p1, .int .i64 p2, .int .i64 p3, .int .i64 p4, .int .i64 vv] ?_ (fgs_put_sp h2 rfl (Sl.fresh1 (size := 6) (R := elCv) W (· < (W.alloc (.cells #[.int .i64 p0, .int .i64 p1, .int .i64 p2, .int .i64 p3, .int .i64 p4, .int .i64 vv] 32)).heap.size) [.int .i64 p0, .int .i64 p1, .int .i64 p2, .int .i64 p3, .int .i64 p4, .int .i64 vv] 32 (⟨⟨p0, p1, p2, p3, p4⟩, vv⟩ : Cve) rfl (by simp) rfl))
    have e0 := fgs_val 72 (.agg #[.int .i64 p0, .int .i64 p1, .int .i64 p2, .int .i64 p3, .int .i64 p4, .int .i64 vv]) hn (by kernel_rfl) rfl rfl
    simp only [List.map_toArray, List.map_cons, List.map_nil, e0]
    exact bi_cv W _ _ _ _ _ _
  · have hop := opG_of (x := .call { callee := .value (.func 11), args := #[.tmp 71, .tmp 73], argTypes := #[28, 35] }) (d := some 74) (by kernel_rfl) ho
    obtain ⟨h1, h2⟩ := hop
    refine .inl ⟨(guard_at (j := 7) (d := 66) (b := true) (b' := true) (by kernel_rfl : (lcOps[15]?).map (·.guard) = some (some (7, true))) (by kernel_rfl) ho (fgs_tmp 66 (.bool true) hn (by kernel_rfl) rfl rfl)), ?_⟩
    obtain ⟨u, k1, k2⟩ := fgs_sp 73 hn (by kernel_rfl) rfl
    refine meets_call (args := #[.agg #[bv, wv, pv, .int .i64 c.over, .int .i64 c.done, .int .i64 c.need, ov], u]) h1 rfl rfl (by have e1 := fgs_val 71 (.agg #[bv, wv, pv, .int .i64 c.over, .int .i64 c.done, .int .i64 c.need, ov]) hn (by kernel_rfl) rfl rfl; simp [e1, k1]) Tryz.func11 (by kernel_rfl) (by kernel_rfl) fun d hd => ?_
    refine (kD W hG.2 u k2).mono ?_
    rintro e W' ⟨rfl, hb⟩
    exact ⟨_, rfl, hb, fgs_put h2 rfl rfl d hd⟩
  · have hop := opG_of (x := .binOp .eql 36 (.tmp 70) (.tmp 74) 36) (d := some 75) (by kernel_rfl) ho
    obtain ⟨h1, h2⟩ := hop
    refine .inl ⟨(guard_at (j := 7) (d := 66) (b := true) (b' := true) (by kernel_rfl : (lcOps[16]?).map (·.guard) = some (some (7, true))) (by kernel_rfl) ho (fgs_tmp 66 (.bool true) hn (by kernel_rfl) rfl rfl)), ?_⟩
    exact meets_value (v := .bool true) (by have e70 := (fgs_val 70 (.int .i64 a2) hn (by kernel_rfl) rfl rfl); have e74 := (fgs_val 74 (.int .i64 a2) hn (by kernel_rfl) rfl rfl); unfold execOp; simp only [h1, e70, e74]; simp [go_sem, BigFrame.eval_const]) (fgs_put h2 rfl rfl)
  · have hop := opG_of (x := .pick (.tmp 66) (.tmp 75) (.const (.bool false))) (d := some 76) (by kernel_rfl) ho
    obtain ⟨h1, h2⟩ := hop
    refine .inl ⟨free_not (guardG_of (by kernel_rfl) ho), ?_⟩
    exact meets_value (v := .bool true) (by have e66 := (fgs_val 66 (.bool true) hn (by kernel_rfl) rfl rfl); have e75 := (fgs_val 75 (.bool true) hn (by kernel_rfl) rfl rfl); unfold execOp; simp only [h1, e66, e75]; simp [go_sem, BigFrame.eval_const]) (fgs_put h2 rfl rfl)
  · have hop := opG_of (x := .assign (.tmp 76)) (d := some 6) (by kernel_rfl) ho
    obtain ⟨h1, h2⟩ := hop
    refine .inl ⟨free_not (guardG_of (by kernel_rfl) ho), ?_⟩
    exact meets_move (.inr h1) fun d hd => by rw [h2] at hd; obtain rfl := Option.some.inj hd; exact (fgs_val 76 (.bool true) hn (by kernel_rfl) rfl rfl)
set_option maxRecDepth 100000 in
set_option maxHeartbeats 8000000 in
theorem law_ChaseAccepts (c : Chs) (bv wv pv ov : Value) (k : Int) (x : Cve) (w : World) (hg : GlobN w) (h : ChAt w (· < w.heap.size) bv wv pv ov c) (hk : -9223372036854775808 ≤ k ∧ k ≤ 9223372036854775807) (hx : -9223372036854775808 ≤ x.val ∧ x.val ≤ 9223372036854775807) :
    Calls Tryz.prog 3 #[chV c bv wv pv ov, .int .i64 k, .agg #[.int .i64 x.st.ball, .int .i64 x.st.need, .int .i64 x.st.str, .int .i64 x.st.par, .int .i64 x.st.nxt, .int .i64 x.val]] w fun e w' => e = .returned (.bool true) ∧ Below w.heap.size w w' := by
  have k1 := fun W (hW : Below w.heap.size w W) => law44_awake W (hg.below hW)
  have k2 := fun W (hW : Below w.heap.size w W) => law44_Small c _ _ _ _ W (h.below hW)
  have kacc : ∀ (v : Value) (l : List Cve) (W : World) (hW : Below w.heap.size w W) (hl : Sl 6 elCv W (· < W.heap.size) v l) (hn : l.length ≤ 1000000000000) (hw : TabWC l), _ := fun v l W hW hl hn hw => ch44_Accept c bv wv pv ov v l W (h.below hW) hl hn
  have kref : ∀ (v : Value) (l : List Cve) (W : World) (hW : Below w.heap.size w W) (hl : Sl 6 elCv W (· < W.heap.size) v l) (hn : l.length ≤ 1000000000000) (hw : TabWC l), _ := fun v l W hW hl hn hw => r44_Accept c bv wv pv ov v l W (h.below hW) hl hn hw
  have ktab := fun (h4 : c.bows.length ≤ 6) W (hW : Below w.heap.size w W) => r44_Table c bv wv pv ov W (h.below hW) h4
  unfold chV at k2 kacc kref ktab ⊢
  obtain ⟨A, ca, rfl, hc1, hc2⟩ := h.mdl.bat.shape
  obtain ⟨A1, ca1, rfl, hc3, hc4⟩ := h.mdl.bow.shape
  obtain ⟨A2, ca2, rfl, hc5, hc6⟩ := h.bow.shape
  obtain ⟨A3, ca3, rfl, hc7, hc8⟩ := h.ord.shape
  have HX0 := Lib.hid (LaC.new w c (.slice A c.mdl.bats.length ca) (.slice A1 c.mdl.bows.length ca1) (.slice A2 c.bows.length ca2) (.slice A3 c.ord.length ca3) x)
  have HXW := Lib.hid (show TabWC [x] from fun y hy => by simp at hy; rw [hy]; exact hx)
  have HX1 := Lib.hid hx
  have hok := fun (h0 : (startC c).2 = 0) => startC_ok h0
  have KOK := Lib.hid hok
  have K1 := Lib.hid k1
  have KACC := Lib.hid kacc
  have KREF := Lib.hid kref
  obtain ⟨⟨p0, p1, p2, p3, p4⟩, vv⟩ := x
  dsimp only at HX0 HX1 ⊢
  obtain ⟨hk1, hk2⟩ := hk
  have tok0 : True := trivial
  cases hs : smallC c
  · rw [hs] at k2
    have K2 := Lib.hid k2
    clear k1 k2 kacc kref ktab hs hg h hok hx
    go_enter Tryz.func3, Tryz.ntmps3
    go_wp2_with (first
      | (clear tok0; go_at_call 7; refine (K1.out _ HX0.out.bel).mono ?_; rintro e w1 ⟨rfl, hb⟩; have HX2 := Lib.hid (HX0.out.below hb); obtain ⟨x0, x1, x2, x3, x4, x5, x6⟩ := HX2.out.cells; clear hb; have tok1 : True := trivial)
      | (clear tok1; go_at_call 8; refine (K2.out _ HX2.out.bel).mono ?_; rintro e w2 ⟨rfl, hb⟩; have HX3 := Lib.hid (HX2.out.below hb); clear hb; have tok2 : True := trivial))
    go_ret
    exact ⟨rfl, HX3.out.bel⟩
  have h4 : c.bows.length ≤ 6 := by
    unfold smallC at hs
    rw [Bool.and_eq_true, Bool.not_eq_true'] at hs
    have := hs.1
    unfold bigC at this
    simp only [Bool.or_eq_false_iff, decide_eq_false_iff_not] at this
    omega
  rw [hs] at k2
  have K2 := Lib.hid k2
  have KTAB := Lib.hid (ktab h4)
  clear k1 k2 kacc kref ktab hs hg h hok hx h4
  go_enter Tryz.func3, Tryz.ntmps3
  go_wp2_with (first
    | (clear tok0; go_at_call 7; refine (K1.out _ HX0.out.bel).mono ?_; rintro e w1 ⟨rfl, hb⟩; have HX2 := Lib.hid (HX0.out.below hb); obtain ⟨x0, x1, x2, x3, x4, x5, x6⟩ := HX2.out.cells; clear hb; have tok1 : True := trivial)
    | (clear tok1; go_at_call 8; refine (K2.out _ HX2.out.bel).mono ?_; rintro e w2 ⟨rfl, hb⟩; have HX3 := Lib.hid (HX2.out.below hb); clear x0 x1 x2 x3 x4 x5 x6; obtain ⟨x0, x1, x2, x3, x4, x5, x6⟩ := HX3.out.cells; clear hb; have tok2 : True := trivial)
    | (clear tok2; go_at_call 9; refine (KTAB.out _ HX3.out.bel).mono ?_))
  rintro e w3 (⟨h0, rfl, hb⟩ | ⟨h0, A9, cp9, l9, rfl, hb, hti, hlen, hown⟩)
  · have HLB := Lib.hid (HX3.out.below hb)
    have HFA := Lib.hid (show Sl 6 elCv w3 (· < w3.heap.size) (.slice none 0 0) [] from Sl.nil _ _)
    have HFN := Lib.hid (show ([] : List Cve).length ≤ 1000000000000 by simp)
    have HFW := Lib.hid (show TabWC [] from fun y hy => by cases hy)
    clear h0 hb x0 x1 x2 x3 x4 x5 x6
    obtain ⟨x0, x1, x2, x3, x4, x5, x6⟩ := HLB.out.cells
    go_wp2
    refine wp_region_freeG (by kernel_rfl : _ = lcOps) (by kernel_rfl) (lc_free c (.slice A c.mdl.bats.length ca) (.slice A1 c.mdl.bows.length ca1) (.slice A2 c.bows.length ca2) (.slice A3 c.ord.length ca3) (.slice none 0 0) p0 p1 p2 p3 p4 vv _ _ w w3 (fun W' hW' => KACC.out _ _ W' (HLB.out.below hW').bel (HFA.out.keep elCv_good (Same.of_below hW') fun b h => Nat.lt_of_lt_of_le h hW'.size) HFN.out HFW.out) (fun W' hW' => KREF.out _ _ W' (HLB.out.below hW').bel (HFA.out.keep elCv_good (Same.of_below hW') fun b h => Nat.lt_of_lt_of_le h hW'.size) HFN.out HFW.out) (fun W' hW' u hu => KACC.out u _ W' (HLB.out.below hW').bel hu (by simp) HXW.out) (fun W' hW' u hu => KREF.out u _ W' (HLB.out.below hW').bel hu (by simp) HXW.out)) (of_decide_eq_true (by kernel_rfl)) ⟨HLB.out, Below.refl _ _⟩ (fun d hd => ?_) ?_
    · simp only [List.mem_cons, List.not_mem_nil, or_false] at hd
      rcases hd with rfl | rfl | rfl
      · exact ⟨_, rfl, rfl⟩
      · exact ⟨_, rfl, rfl⟩
      · exact ⟨_, rfl, rfl⟩
    · rintro ⟨⟨lz⟩, df⟩ wx hin
      obtain ⟨v6, hv6, hs6⟩ := hin.atG 18 6 (by kernel_rfl)
      have hsz : lz.length = 77 := hin.size
      have hdf : df = [] := hin.dfr
      have HG2 := Lib.hid hin.g
      clear hin
      subst hdf
      have hs7 : v6 = .bool true := hs6
      subst hs7
      clear hs6
      dsimp only at hv6
      iterate 77 (obtain ⟨_, t, e, h2⟩ := listG_cons hsz; clear hsz; subst e; have hsz := h2; clear h2)
      have e0 := List.eq_nil_of_length_eq_zero hsz
      clear hsz
      subst e0
      simp only [List.getElem?_toArray, List.getElem?_cons_zero, List.getElem?_cons_succ, Option.some.injEq] at hv6
      subst hv6
      go_wp2
      go_ret
      exact ⟨rfl, HG2.out.1.bel⟩
  · have HLB := Lib.hid (HX3.out.below hb)
    have hsl := (OwnSl.sl elCv_good hown).keep elCv_good (G := (· < w3.heap.size)) (Same.refl _ _) fun b h => h.2
    have htw := hti.w (KOK.out h0).2.1 (KOK.out h0).2.2
    have HFA := Lib.hid hsl
    have HFW := Lib.hid htw
    have HOWN := Lib.hid hown
    have HFN := Lib.hid (show l9.length ≤ 1000000000000 by omega)
    have hx3 := HX3.out.xb.lt
    clear h0 hb x0 x1 x2 x3 x4 x5 x6 hti hsl htw hown
    obtain ⟨x0, x1, x2, x3, x4, x5, x6⟩ := HLB.out.cells
    by_cases hpos : 0 < l9.length ∧ 0 ≤ k
    case neg =>
      by_cases hp1 : 0 < l9.length
      · have e1 : (0 : Int) < (l9.length : Int) := by omega
        have e2 : ¬ (0 : Int) ≤ k := fun h => hpos ⟨hp1, h⟩
        clear hpos hp1 hlen
        go_wp2
        refine wp_region_freeG (by kernel_rfl : _ = lcOps) (by kernel_rfl) (lc_free c (.slice A c.mdl.bats.length ca) (.slice A1 c.mdl.bows.length ca1) (.slice A2 c.bows.length ca2) (.slice A3 c.ord.length ca3) (.slice A9 l9.length cp9) p0 p1 p2 p3 p4 vv _ _ w w3 (fun W' hW' => KACC.out _ _ W' (HLB.out.below hW').bel (HFA.out.keep elCv_good (Same.of_below hW') fun b h => Nat.lt_of_lt_of_le h hW'.size) HFN.out HFW.out) (fun W' hW' => KREF.out _ _ W' (HLB.out.below hW').bel (HFA.out.keep elCv_good (Same.of_below hW') fun b h => Nat.lt_of_lt_of_le h hW'.size) HFN.out HFW.out) (fun W' hW' u hu => KACC.out u _ W' (HLB.out.below hW').bel hu (by simp) HXW.out) (fun W' hW' u hu => KREF.out u _ W' (HLB.out.below hW').bel hu (by simp) HXW.out)) (of_decide_eq_true (by kernel_rfl)) ⟨HLB.out, Below.refl _ _⟩ (fun d hd => ?_) ?_
        · simp only [List.mem_cons, List.not_mem_nil, or_false] at hd
          rcases hd with rfl | rfl | rfl
          · exact ⟨_, rfl, rfl⟩
          · exact ⟨_, rfl, rfl⟩
          · exact ⟨_, rfl, rfl⟩
        · rintro ⟨⟨lz⟩, df⟩ wx hin
          obtain ⟨v6, hv6, hs6⟩ := hin.atG 18 6 (by kernel_rfl)
          have hsz : lz.length = 77 := hin.size
          have hdf : df = [] := hin.dfr
          have HG2 := Lib.hid hin.g
          clear hin
          subst hdf
          have hs7 : v6 = .bool true := hs6
          subst hs7
          clear hs6
          dsimp only at hv6
          iterate 77 (obtain ⟨_, t, e, h2⟩ := listG_cons hsz; clear hsz; subst e; have hsz := h2; clear h2)
          have e0 := List.eq_nil_of_length_eq_zero hsz
          clear hsz
          subst e0
          simp only [List.getElem?_toArray, List.getElem?_cons_zero, List.getElem?_cons_succ, Option.some.injEq] at hv6
          subst hv6
          go_wp2
          go_ret
          exact ⟨rfl, HG2.out.1.bel⟩
      · have e1 : ¬ (0 : Int) < (l9.length : Int) := by omega
        clear hpos hp1 hlen
        go_wp2
        refine wp_region_freeG (by kernel_rfl : _ = lcOps) (by kernel_rfl) (lc_free c (.slice A c.mdl.bats.length ca) (.slice A1 c.mdl.bows.length ca1) (.slice A2 c.bows.length ca2) (.slice A3 c.ord.length ca3) (.slice A9 l9.length cp9) p0 p1 p2 p3 p4 vv _ _ w w3 (fun W' hW' => KACC.out _ _ W' (HLB.out.below hW').bel (HFA.out.keep elCv_good (Same.of_below hW') fun b h => Nat.lt_of_lt_of_le h hW'.size) HFN.out HFW.out) (fun W' hW' => KREF.out _ _ W' (HLB.out.below hW').bel (HFA.out.keep elCv_good (Same.of_below hW') fun b h => Nat.lt_of_lt_of_le h hW'.size) HFN.out HFW.out) (fun W' hW' u hu => KACC.out u _ W' (HLB.out.below hW').bel hu (by simp) HXW.out) (fun W' hW' u hu => KREF.out u _ W' (HLB.out.below hW').bel hu (by simp) HXW.out)) (of_decide_eq_true (by kernel_rfl)) ⟨HLB.out, Below.refl _ _⟩ (fun d hd => ?_) ?_
        · simp only [List.mem_cons, List.not_mem_nil, or_false] at hd
          rcases hd with rfl | rfl | rfl
          · exact ⟨_, rfl, rfl⟩
          · exact ⟨_, rfl, rfl⟩
          · exact ⟨_, rfl, rfl⟩
        · rintro ⟨⟨lz⟩, df⟩ wx hin
          obtain ⟨v6, hv6, hs6⟩ := hin.atG 18 6 (by kernel_rfl)
          have hsz : lz.length = 77 := hin.size
          have hdf : df = [] := hin.dfr
          have HG2 := Lib.hid hin.g
          clear hin
          subst hdf
          have hs7 : v6 = .bool true := hs6
          subst hs7
          clear hs6
          dsimp only at hv6
          iterate 77 (obtain ⟨_, t, e, h2⟩ := listG_cons hsz; clear hsz; subst e; have hsz := h2; clear h2)
          have e0 := List.eq_nil_of_length_eq_zero hsz
          clear hsz
          subst e0
          simp only [List.getElem?_toArray, List.getElem?_cons_zero, List.getElem?_cons_succ, Option.some.injEq] at hv6
          subst hv6
          go_wp2
          go_ret
          exact ⟨rfl, HG2.out.1.bel⟩
    obtain ⟨hp1, hp2⟩ := hpos
    obtain ⟨g, rfl, hgb, hgl, hn, hncap, hfr⟩ := cvown_at HOWN.out hp1
    obtain ⟨kn, rfl⟩ : ∃ kn : Nat, k = (kn : Int) := ⟨k.toNat, by omega⟩
    obtain ⟨n, hne⟩ : ∃ n, n = l9.length := ⟨_, rfl⟩
    obtain ⟨i, hi⟩ : ∃ i, i = kn % n := ⟨_, rfl⟩
    obtain ⟨q, hq⟩ : ∃ q, q = kn / n := ⟨_, rfl⟩
    obtain ⟨m, hm⟩ : ∃ m, m = q % 3 := ⟨_, rfl⟩
    have hil : i < l9.length := by rw [hi, ← hne]; exact Nat.mod_lt _ (by omega)
    have hqk : q ≤ kn := by rw [hq]; exact Nat.div_le_self _ _
    have hm3 : m < 3 := by rw [hm]; exact Nat.mod_lt _ (by decide)
    have t1 : Int.tmod (kn : Int) (l9.length : Int) = (i : Int) := by rw [← hne, Int.tmod_eq_emod_of_nonneg (by omega), hi]; rfl
    have t2 : Int.tdiv (kn : Int) (l9.length : Int) = (q : Int) := by rw [← hne, Int.tdiv_eq_ediv_of_nonneg (by omega), hq]; rfl
    have t3 : Int.tmod (q : Int) 3 = (m : Int) := by rw [Int.tmod_eq_emod_of_nonneg (by omega), hm]; rfl
    have t4 : IntKind.i64.wrap (i : Int) = (i : Int) := IntWalk.i64_in _ (by omega)
    have t5 : IntKind.i64.wrap (q : Int) = (q : Int) := IntWalk.i64_in _ (by omega)
    have t6 : IntKind.i64.wrap (m : Int) = (m : Int) := IntWalk.i64_in _ (by omega)
    have t7 : ¬ l9 = [] := by intro e; rw [e] at hp1; simp at hp1
    have t8 : ¬ (l9.length : Int) = 0 := by omega
    have e1 : (0 : Int) < (l9.length : Int) := by omega
    have e2 : (0 : Int) ≤ (kn : Int) := by omega
    have i1 : (0 : Int) ≤ (i : Int) := by omega
    have i2 : (i : Int) < (l9.length : Int) := by omega
    have hgx : w.heap.size + 1 < g := by have := HX3.out.bel.size; have := HX3.out.xb.lt; omega
    obtain ⟨y0, y1, y2, y3, y4, y5⟩ := HLB.out.xcells
    dsimp only at y0 y1 y2 y3 y4 y5
    obtain ⟨b9, o9, e9, _, z0, z1, z2, z3, z4, z5⟩ := cv_at HFA.out (k := i) hil
    obtain ⟨rfl, rfl⟩ : g = b9 ∧ o9 = 0 := by injection e9 with e9; injection e9 with h8 h7; exact ⟨h8, h7.symm⟩
    simp only [Nat.zero_add] at z0 z1 z2 z3 z4 z5
    obtain ⟨⟨⟨r0, r1, r2, r3, r4⟩, rv⟩, hr⟩ : ∃ x, x = l9[i] := ⟨_, rfl⟩
    simp only [← hr] at z0 z1 z2 z3 z4 z5
    clear hr e9
    have f0 := hfr (i * 6)
    have f1 := hfr (i * 6 + 1)
    have f2 := hfr (i * 6 + 2)
    have f3 := hfr (i * 6 + 3)
    have f4 := hfr (i * 6 + 4)
    have f5 := hfr (i * 6 + 5)
    clear hfr hqk hi hq hm hne hn
    by_cases hm0 : m = 0
    · have e3 : ((m : Int) == 0) = true := by rw [hm0]; rfl
      have hput := cvown_put HOWN.out hil (j := 5) (by decide) (.int .i64 vv) ⟨l9[i].st, vv⟩ rfl
      have hlb := HLB.out.set hgx (i * 6 + 5) (.int .i64 vv)
      have hlen2 : (l9.set i ⟨l9[i].st, vv⟩).length ≤ 1000000000000 := by rw [List.length_set]; omega
      have htw := tabWC_set HFW.out (i := i) (x := ⟨l9[i].st, vv⟩) HX1.out
      have hsl := (OwnSl.sl elCv_good hput).keep elCv_good (G := (· < (w3.setCell ⟨g, i * 6 + 5, none⟩ (.int .i64 vv)).heap.size)) (Same.refl _ _) fun b h => h.2
      have HLB := Lib.hid hlb
      have HFA := Lib.hid hsl
      have HFW := Lib.hid htw
      have HFN := Lib.hid hlen2
      clear hput hlb hlen2 htw hsl hm0 hlen hp1 hp2 hm3 hgl hgb hncap hgx
      go_wp2
      refine wp_region_freeG (by kernel_rfl : _ = lcOps) (by kernel_rfl) (lc_free c (.slice A c.mdl.bats.length ca) (.slice A1 c.mdl.bows.length ca1) (.slice A2 c.bows.length ca2) (.slice A3 c.ord.length ca3) (.slice (some ⟨g, 0, none⟩) l9.length cp9) p0 p1 p2 p3 p4 vv _ _ w (w3.setCell ⟨g, i * 6 + 5, none⟩ (.int .i64 vv)) (fun W' hW' => KACC.out _ _ W' (HLB.out.below hW').bel (HFA.out.keep elCv_good (Same.of_below hW') fun b h => Nat.lt_of_lt_of_le h hW'.size) HFN.out HFW.out) (fun W' hW' => KREF.out _ _ W' (HLB.out.below hW').bel (HFA.out.keep elCv_good (Same.of_below hW') fun b h => Nat.lt_of_lt_of_le h hW'.size) HFN.out HFW.out) (fun W' hW' u hu => KACC.out u _ W' (HLB.out.below hW').bel hu (by simp) HXW.out) (fun W' hW' u hu => KREF.out u _ W' (HLB.out.below hW').bel hu (by simp) HXW.out)) (of_decide_eq_true (by kernel_rfl)) ⟨HLB.out, Below.refl _ _⟩ (fun d hd => ?_) ?_
      · simp only [List.mem_cons, List.not_mem_nil, or_false] at hd
        rcases hd with rfl | rfl | rfl
        · exact ⟨_, rfl, rfl⟩
        · exact ⟨_, rfl, rfl⟩
        · exact ⟨_, rfl, rfl⟩
      · rintro ⟨⟨lz⟩, df⟩ wx hin
        obtain ⟨v6, hv6, hs6⟩ := hin.atG 18 6 (by kernel_rfl)
        have hsz : lz.length = 77 := hin.size
        have hdf : df = [] := hin.dfr
        have HG2 := Lib.hid hin.g
        clear hin
        subst hdf
        have hs7 : v6 = .bool true := hs6
        subst hs7
        clear hs6
        dsimp only at hv6
        iterate 77 (obtain ⟨_, t, e, h2⟩ := listG_cons hsz; clear hsz; subst e; have hsz := h2; clear h2)
        have e0 := List.eq_nil_of_length_eq_zero hsz
        clear hsz
        subst e0
        simp only [List.getElem?_toArray, List.getElem?_cons_zero, List.getElem?_cons_succ, Option.some.injEq] at hv6
        subst hv6
        go_wp2
        go_ret
        exact ⟨rfl, HG2.out.1.bel⟩
    by_cases hm1 : m = 1
    · have e3 : ((m : Int) == 0) = false := by rw [hm1]; rfl
      have e4 : ((m : Int) == 1) = true := by rw [hm1]; rfl
      have hput := cvown_put6 HOWN.out hil p0 p1 p2 p3 p4 vv
      have hlb := (((((HLB.out.set hgx (i * 6) (.int .i64 p0)).set hgx (i * 6 + 1) (.int .i64 p1)).set hgx (i * 6 + 2) (.int .i64 p2)).set hgx (i * 6 + 3) (.int .i64 p3)).set hgx (i * 6 + 4) (.int .i64 p4)).set hgx (i * 6 + 5) (.int .i64 vv)
      have hlen2 : (l9.set i ⟨⟨p0, p1, p2, p3, p4⟩, vv⟩).length ≤ 1000000000000 := by rw [List.length_set]; omega
      have htw := tabWC_set HFW.out (i := i) (x := ⟨⟨p0, p1, p2, p3, p4⟩, vv⟩) HX1.out
      obtain ⟨W6, hW6⟩ : ∃ W6, W6 = (((((w3.setCell ⟨g, i * 6, none⟩ (.int .i64 p0)).setCell ⟨g, i * 6 + 1, none⟩ (.int .i64 p1)).setCell ⟨g, i * 6 + 2, none⟩ (.int .i64 p2)).setCell ⟨g, i * 6 + 3, none⟩ (.int .i64 p3)).setCell ⟨g, i * 6 + 4, none⟩ (.int .i64 p4)).setCell ⟨g, i * 6 + 5, none⟩ (.int .i64 vv) := ⟨_, rfl⟩
      have hsl := (OwnSl.sl elCv_good hput).keep elCv_good (G := (· < ((((((w3.setCell ⟨g, i * 6, none⟩ (.int .i64 p0)).setCell ⟨g, i * 6 + 1, none⟩ (.int .i64 p1)).setCell ⟨g, i * 6 + 2, none⟩ (.int .i64 p2)).setCell ⟨g, i * 6 + 3, none⟩ (.int .i64 p3)).setCell ⟨g, i * 6 + 4, none⟩ (.int .i64 p4)).setCell ⟨g, i * 6 + 5, none⟩ (.int .i64 vv)).heap.size)) (Same.refl _ _) fun b h => h.2
      have HLB := Lib.hid hlb
      have HFA := Lib.hid hsl
      have HFW := Lib.hid htw
      have HFN := Lib.hid hlen2
      clear hput hlb hlen2 htw hsl hm0 hm1 hlen hp1 hp2 hil hm3 hgl hgb hncap hgx W6 hW6
      go_wp2
      refine wp_region_freeG (by kernel_rfl : _ = lcOps) (by kernel_rfl) (lc_free c (.slice A c.mdl.bats.length ca) (.slice A1 c.mdl.bows.length ca1) (.slice A2 c.bows.length ca2) (.slice A3 c.ord.length ca3) (.slice (some ⟨g, 0, none⟩) l9.length cp9) p0 p1 p2 p3 p4 vv _ _ w ((((((w3.setCell ⟨g, i * 6, none⟩ (.int .i64 p0)).setCell ⟨g, i * 6 + 1, none⟩ (.int .i64 p1)).setCell ⟨g, i * 6 + 2, none⟩ (.int .i64 p2)).setCell ⟨g, i * 6 + 3, none⟩ (.int .i64 p3)).setCell ⟨g, i * 6 + 4, none⟩ (.int .i64 p4)).setCell ⟨g, i * 6 + 5, none⟩ (.int .i64 vv)) (fun W' hW' => KACC.out _ _ W' (HLB.out.below hW').bel (HFA.out.keep elCv_good (Same.of_below hW') fun b h => Nat.lt_of_lt_of_le h hW'.size) HFN.out HFW.out) (fun W' hW' => KREF.out _ _ W' (HLB.out.below hW').bel (HFA.out.keep elCv_good (Same.of_below hW') fun b h => Nat.lt_of_lt_of_le h hW'.size) HFN.out HFW.out) (fun W' hW' u hu => KACC.out u _ W' (HLB.out.below hW').bel hu (by simp) HXW.out) (fun W' hW' u hu => KREF.out u _ W' (HLB.out.below hW').bel hu (by simp) HXW.out)) (of_decide_eq_true (by kernel_rfl)) ⟨HLB.out, Below.refl _ _⟩ (fun d hd => ?_) ?_
      · simp only [List.mem_cons, List.not_mem_nil, or_false] at hd
        rcases hd with rfl | rfl | rfl
        · exact ⟨_, rfl, rfl⟩
        · exact ⟨_, rfl, rfl⟩
        · exact ⟨_, rfl, rfl⟩
      · rintro ⟨⟨lz⟩, df⟩ wx hin
        obtain ⟨v6, hv6, hs6⟩ := hin.atG 18 6 (by kernel_rfl)
        have hsz : lz.length = 77 := hin.size
        have hdf : df = [] := hin.dfr
        have HG2 := Lib.hid hin.g
        clear hin
        subst hdf
        have hs7 : v6 = .bool true := hs6
        subst hs7
        clear hs6
        dsimp only at hv6
        iterate 77 (obtain ⟨_, t, e, h2⟩ := listG_cons hsz; clear hsz; subst e; have hsz := h2; clear h2)
        have e0 := List.eq_nil_of_length_eq_zero hsz
        clear hsz
        subst e0
        simp only [List.getElem?_toArray, List.getElem?_cons_zero, List.getElem?_cons_succ, Option.some.injEq] at hv6
        subst hv6
        go_wp2
        go_ret
        exact ⟨rfl, HG2.out.1.bel⟩
    have e3 : ((m : Int) == 0) = false := by simp; omega
    have e4 : ((m : Int) == 1) = false := by simp; omega
    have hslD : Sl 6 elCv w3.drew (· < w3.drew.heap.size) (.slice (some ⟨g, 0, none⟩) l9.length cp9) l9 := HFA.out.keep elCv_good (Same.refl _ _) fun b h => h
    obtain ⟨o2, ho2⟩ : ∃ o2, o2 = if cp9 = i + 1 then 0 else 0 + (i + 1) * 6 := ⟨_, rfl⟩
    have hrest := hslD.restC (k := i + 1) (by omega)
    rw [← ho2] at hrest
    have hll : (l9.take i).length + (l9.drop (i + 1)).length ≤ l9.length := by rw [List.length_take, List.length_drop]; omega
    obtain ⟨Ac, nc, cc, wc, hrun, hbc, hslc⟩ := cut_append E_cv elCv_good elCv_free elCv_one (fun _ _ _ _ _ h => h) (hslD.fullC (i := i) (by omega)) hrest (fun b h => h) (by simp only [maxLen]; omega) (by omega) 35
    have hif : (if cp9 = i + 1 then (some ⟨g, 0, none⟩ : Option Addr) else some ⟨g, (i + 1) * 6, none⟩) = some ⟨g, o2, none⟩ := by rw [ho2]; split <;> simp
    have HRUN := Lib.hid hrun
    have HLB := Lib.hid (HLB.out.below ((Below.drew (Below.refl w3.heap.size w3)).trans hbc))
    have HFW := Lib.hid (tabWC_cut HFW.out i)
    have HFN := Lib.hid (show (l9.take i ++ l9.drop (i + 1)).length ≤ 1000000000000 by rw [List.length_append]; omega)
    have HFA := Lib.hid hslc
    have i3 : (i : Int) ≤ (cp9 : Int) := by omega
    have i4 : IntKind.i64.wrap ((i : Int) + 1) = (i : Int) + 1 := IntWalk.i64_in _ (by omega)
    have i5 : (0 : Int) ≤ (i : Int) + 1 := by omega
    have i6 : (i : Int) + 1 ≤ (l9.length : Int) := by omega
    have i7 : ((i : Int) + 1).toNat = i + 1 := by omega
    clear hslD hrest ho2 hll hrun hbc hslc hm0 hm1 hlen hp1 hp2 hil hm3 hgl hgb hncap hgx f0 f1 f2 f3 f4 f5 z0 z1 z2 z3 z4 z5
    go_wp2
    go_region_held3 (fun w' => True) (trivial) (refine step_append_run rfl (.tmp 39) (.tmp 43) _ rfl _ _ rfl rfl _ _ HRUN.out ?_)
    all_goals go_wp2
    refine wp_region_freeG (by kernel_rfl : _ = lcOps) (by kernel_rfl) (lc_free c (.slice A c.mdl.bats.length ca) (.slice A1 c.mdl.bows.length ca1) (.slice A2 c.bows.length ca2) (.slice A3 c.ord.length ca3) (.slice Ac nc cc) p0 p1 p2 p3 p4 vv _ _ w wc (fun W' hW' => KACC.out _ _ W' (HLB.out.below hW').bel (HFA.out.keep elCv_good (Same.of_below hW') fun b h => Nat.lt_of_lt_of_le h hW'.size) HFN.out HFW.out) (fun W' hW' => KREF.out _ _ W' (HLB.out.below hW').bel (HFA.out.keep elCv_good (Same.of_below hW') fun b h => Nat.lt_of_lt_of_le h hW'.size) HFN.out HFW.out) (fun W' hW' u hu => KACC.out u _ W' (HLB.out.below hW').bel hu (by simp) HXW.out) (fun W' hW' u hu => KREF.out u _ W' (HLB.out.below hW').bel hu (by simp) HXW.out)) (of_decide_eq_true (by kernel_rfl)) ⟨HLB.out, Below.refl _ _⟩ (fun d hd => ?_) ?_
    · simp only [List.mem_cons, List.not_mem_nil, or_false] at hd
      rcases hd with rfl | rfl | rfl
      · exact ⟨_, rfl, rfl⟩
      · exact ⟨_, rfl, rfl⟩
      · exact ⟨_, rfl, rfl⟩
    · rintro ⟨⟨lz⟩, df⟩ wx hin
      obtain ⟨v6, hv6, hs6⟩ := hin.atG 18 6 (by kernel_rfl)
      have hsz : lz.length = 77 := hin.size
      have hdf : df = [] := hin.dfr
      have HG2 := Lib.hid hin.g
      clear hin
      subst hdf
      have hs7 : v6 = .bool true := hs6
      subst hs7
      clear hs6
      dsimp only at hv6
      iterate 77 (obtain ⟨_, t, e, h2⟩ := listG_cons hsz; clear hsz; subst e; have hsz := h2; clear h2)
      have e0 := List.eq_nil_of_length_eq_zero hsz
      clear hsz
      subst e0
      simp only [List.getElem?_toArray, List.getElem?_cons_zero, List.getElem?_cons_succ, Option.some.injEq] at hv6
      subst hv6
      go_wp2
      go_ret
      exact ⟨rfl, HG2.out.1.bel⟩
end Go.Proofs.YtdlmmbfnmnglaaaGreatDoor
