/- Several texts of this family in one: D30 D27 FA D31 D32 D10 J10 D11 FS FC. -/
import Derived.Test.YtdlmmbfnmnglaaaGreatDoorGB4
import Derived.Test.YtdlmmbfnmnglaaaGreatDoorGB3
import Derived.Test.YtdlmmbfnmnglaaaGreatDoorGB0
import Derived.Maps.RangeWalk
import Derived.Test.YtdlmmbfnmnglaaaGreatDoorGB2
import Derived.Test.YtdlmmbfnmnglaaaGreatDoorGB1
import Derived.Deep.AppendSrc
set_option linter.unusedSimpArgs false
set_option linter.unusedVariables false
namespace Go.Proofs.YtdlmmbfnmnglaaaGreatDoor
open Go.RowKit Go.Maps

/-- Besides: a map. -/
structure AcMC (w W : World) (gs b N : Nat) (D : DataW Unit) (s : Cst) (c : Chs) (bv wv pv ov : Value) : Prop where
  r : AcC w W gs s c bv wv pv ov
  hb : gs < b
  vals : Vals W b N D
section
variable {w W W' : World} {gs b N N' : Nat} {D D' : DataW Unit} {s : Cst} {c : Chs} {bv wv pv ov : Value}
theorem AcMC.below (h : AcMC w W gs b N D s c bv wv pv ov) (hb : Below W.heap.size W W') : AcMC w W' gs b N D s c bv wv pv ov := ⟨h.r.below hb, h.hb, vals_below h.vals hb⟩
theorem AcMC.alloc (h : AcMC w W gs b N D s c bv wv pv ov) (o : Obj) : AcMC w (W.alloc o) gs b N D s c bv wv pv ov := h.below (Below.alloc (Below.refl _ _) (Nat.le_refl _) o)
theorem AcMC.cells (h : AcMC w W gs b N D s c bv wv pv ov) : W.cell? ⟨w.heap.size, 0, none⟩ = some bv ∧ W.cell? ⟨w.heap.size, 1, none⟩ = some wv ∧ W.cell? ⟨w.heap.size, 2, none⟩ = some pv ∧ W.cell? ⟨w.heap.size, 3, none⟩ = some (.int .i64 c.over) ∧ W.cell? ⟨w.heap.size, 4, none⟩ = some (.int .i64 c.done) ∧ W.cell? ⟨w.heap.size, 5, none⟩ = some (.int .i64 c.need) ∧ W.cell? ⟨w.heap.size, 6, none⟩ = some ov ∧
    W.cell? ⟨gs, 0, none⟩ = some (.int .i64 s.ball) ∧ W.cell? ⟨gs, 1, none⟩ = some (.int .i64 s.need) ∧ W.cell? ⟨gs, 2, none⟩ = some (.int .i64 s.str) ∧ W.cell? ⟨gs, 3, none⟩ = some (.int .i64 s.par) ∧ W.cell? ⟨gs, 4, none⟩ = some (.int .i64 s.nxt) := h.r.cells
theorem AcMC.into (h : AcMC w W gs b N D s c bv wv pv ov) (ho : Only b W W') (hv : Vals W' b N' D') : AcMC w W' gs b N' D' s c bv wv pv ov := by
  have hbb := h.hb
  have hgg := h.r.lt
  exact ⟨⟨⟨h.r.bel.trans (ho.below (by omega) h.r.bel.size), h.r.box.grown ho (by intro e; injection e with e; omega)⟩, hgg, h.r.st.grown ho (by intro e; injection e with e; omega)⟩, h.hb, hv⟩
theorem AcMC.new (h : AcC w W gs s c bv wv pv ov) (hg : gs + 1 = W.heap.size) : AcMC w (W.alloc (.map #[] 0)) gs (gs + 1) 0 (.map []) s c bv wv pv ov := by
  refine ⟨h.alloc _, by omega, ?_⟩
  rw [hg]; exact World.ownsMap_made W _ _ _
end
noncomputable def arCOps : Array Oper := ((Tryz.f11.body).bind (findR6 8)).getD #[]
def arCNeeds : List (List Nat) := [[2], [9], [32], [31, 33], [34], [35], [8, 36], [36, 37], [36, 38], [1, 39], [8, 39], [39, 41], [39, 40, 42], [39, 43], [39, 44], [9, 39], [39, 46], [39, 45, 47], [39, 48], [36, 39, 49], [36, 50]]
theorem arC_size : arCOps.size = 21 := by kernel_rfl
def arCTabA (c : Chs) (bv wv pv ov v : Value) (p0 p1 p2 p3 p4 vv z : Int) (g gv k : Nat) : List (Nat × Value) := [(1, v), (2, .pointer (some ⟨g, 0, none⟩)), (8, .int .i64 (k : Int)), (9, .pointer (some ⟨gv, 0, none⟩)), (31, .agg #[bv, wv, pv, .int .i64 c.over, .int .i64 c.done, .int .i64 c.need, ov]), (32, .pointer (some ⟨gv, 0, none⟩)), (33, .agg #[.int .i64 p0, .int .i64 p1, .int .i64 p2, .int .i64 p3, .int .i64 p4]), (34, .int .i64 z), (35, .bool true), (36, .bool true), (37, undef), (38, undef), (39, undef), (40, undef), (41, undef), (42, undef), (43, undef), (44, undef), (45, undef), (46, undef), (47, undef), (48, undef), (49, undef), (50, undef), (51, .bool true)]
def arCMaskA (c : Chs) (bv wv pv ov v : Value) (p0 p1 p2 p3 p4 vv z : Int) (g gv k : Nat) : List (Option Value) := none :: none :: none :: none :: none :: none :: none :: none :: none :: none :: none :: none :: none :: none :: none :: none :: none :: none :: none :: none :: none :: none :: none :: none :: none :: none :: none :: none :: none :: none :: none :: some (.agg #[bv, wv, pv, .int .i64 c.over, .int .i64 c.done, .int .i64 c.need, ov]) :: some (.pointer (some ⟨gv, 0, none⟩)) :: some (.agg #[.int .i64 p0, .int .i64 p1, .int .i64 p2, .int .i64 p3, .int .i64 p4]) :: some (.int .i64 z) :: some (.bool true) :: some (.bool true) :: some (undef) :: some (undef) :: some (undef) :: some (undef) :: some (undef) :: some (undef) :: some (undef) :: some (undef) :: some (undef) :: some (undef) :: some (undef) :: some (undef) :: some (undef) :: some (undef) :: some (.bool true) :: none :: none :: none :: none :: none :: none :: none :: none :: none :: none :: none :: none :: none :: none :: none :: none :: none :: none :: none :: none :: none :: none :: none :: none :: none :: none :: none :: none :: []
set_option maxRecDepth 100000 in
set_option maxHeartbeats 4000000 in
theorem arC_freeA (c : Chs) (bv wv pv ov v : Value) (p0 p1 p2 p3 p4 vv z : Int) (gv k : Nat) (w : World) (kc : ∀ W, Below w.heap.size w W → Calls Tryz.prog 31 #[.agg #[bv, wv, pv, .int .i64 c.over, .int .i64 c.done, .int .i64 c.need, ov], .agg #[.int .i64 p0, .int .i64 p1, .int .i64 p2, .int .i64 p3, .int .i64 p4]] W fun e W' => e = .returned (.int .i64 z) ∧ Below W.heap.size W W') (hz : z ≠ 0) :
    FreeG Tryz.prog arCOps (tabV (arCTabA c bv wv pv ov v p0 p1 p2 p3 p4 vv z w.heap.size gv k)) (fun W => AcRC w W c bv wv pv ov ∧ Blk W gv 32 #[.int .i64 p0, .int .i64 p1, .int .i64 p2, .int .i64 p3, .int .i64 p4, .int .i64 vv]) (fun i => arCNeeds.getD i []) [1, 2, 8, 9] 80 := by
  refine ⟨backG_of (by kernel_rfl), dstG_of (by kernel_rfl), needG_of (by kernel_rfl), fun d w1 w2 v h _ => h, fun W W' h hb => ⟨h.1.below hb, h.2.below hb h.2.lt⟩, ?_⟩
  intro i o ho a W hG hn
  have hlt : i < 21 := by rw [← arC_size]; exact (Array.getElem?_eq_some_iff.1 ho).1
  have hcase : i = 0 ∨ i = 1 ∨ i = 2 ∨ i = 3 ∨ i = 4 ∨ i = 5 ∨ i = 6 ∨ i = 7 ∨ i = 8 ∨ i = 9 ∨ i = 10 ∨ i = 11 ∨ i = 12 ∨ i = 13 ∨ i = 14 ∨ i = 15 ∨ i = 16 ∨ i = 17 ∨ i = 18 ∨ i = 19 ∨ i = 20 := by omega
  rcases hcase with rfl | rfl | rfl | rfl | rfl | rfl | rfl | rfl | rfl | rfl | rfl | rfl | rfl | rfl | rfl | rfl | rfl | rfl | rfl | rfl | rfl
  · have hop := opG_of (x := .load 28 (.tmp 2)) (d := some 31) (by kernel_rfl) ho
    obtain ⟨h1, h2⟩ := hop
    refine .inl ⟨free_not (guardG_of (by kernel_rfl) ho), ?_⟩
    exact meets_load h1 (fg_val 2 (.pointer (some ⟨w.heap.size, 0, none⟩)) hn (by kernel_rfl) rfl) (load_chsZ hG.1.box) (fg_put h2 rfl)
  · have hop := opG_of (x := .fieldAddr 32 (.tmp 9) 0) (d := some 32) (by kernel_rfl) ho
    obtain ⟨h1, h2⟩ := hop
    refine .inl ⟨free_not (guardG_of (by kernel_rfl) ho), ?_⟩
    exact meets_field h1 (fg_val 9 (.pointer (some ⟨gv, 0, none⟩)) hn (by kernel_rfl) rfl) (by kernel_rfl : (Instr.fieldAt 32 (.pointer (some ⟨gv, 0, none⟩)) 0).run Tryz.prog W = .ok (.pointer (some ⟨gv, 0, none⟩)) W) (fg_put h2 rfl)
  · have hop := opG_of (x := .load 30 (.tmp 32)) (d := some 33) (by kernel_rfl) ho
    obtain ⟨h1, h2⟩ := hop
    refine .inl ⟨free_not (guardG_of (by kernel_rfl) ho), ?_⟩
    exact meets_load h1 (fg_val 32 (.pointer (some ⟨gv, 0, none⟩)) hn (by kernel_rfl) rfl) (blk_cst hG.2) (fg_put h2 rfl)
  · have hop := opG_of (x := .call { callee := .value (.func 31), args := #[.tmp 31, .tmp 33], argTypes := #[28, 30] }) (d := some 34) (by kernel_rfl) ho
    obtain ⟨h1, h2⟩ := hop
    refine .inl ⟨free_not (guardG_of (by kernel_rfl) ho), ?_⟩
    refine meets_call (args := #[.agg #[bv, wv, pv, .int .i64 c.over, .int .i64 c.done, .int .i64 c.need, ov], .agg #[.int .i64 p0, .int .i64 p1, .int .i64 p2, .int .i64 p3, .int .i64 p4]]) h1 rfl rfl (by have e31 := (fg_val 31 (.agg #[bv, wv, pv, .int .i64 c.over, .int .i64 c.done, .int .i64 c.need, ov]) hn (by kernel_rfl) rfl); have e33 := (fg_val 33 (.agg #[.int .i64 p0, .int .i64 p1, .int .i64 p2, .int .i64 p3, .int .i64 p4]) hn (by kernel_rfl) rfl); simp [e31, e33]) Tryz.func31 (by kernel_rfl) (by kernel_rfl) fun d hd => ?_
    refine (kc W hG.1.bel).mono ?_
    rintro e W' ⟨rfl, hb⟩
    exact ⟨_, rfl, hb, (fg_put h2 rfl d hd)⟩
  · have hop := opG_of (x := .binOp .neq 36 (.tmp 34) (.const (.int .i64 0)) 36) (d := some 35) (by kernel_rfl) ho
    obtain ⟨h1, h2⟩ := hop
    refine .inl ⟨free_not (guardG_of (by kernel_rfl) ho), ?_⟩
    exact meets_value (v := .bool true) (by have e34 := (fg_val 34 (.int .i64 z) hn (by kernel_rfl) rfl); unfold execOp; simp only [h1, e34]; simp [go_sem, BigFrame.eval_const, hz]) (fg_put h2 rfl)
  · have hop := opG_of (x := .move (.tmp 35)) (d := some 36) (by kernel_rfl) ho
    obtain ⟨h1, h2⟩ := hop
    refine .inl ⟨free_not (guardG_of (by kernel_rfl) ho), ?_⟩
    exact meets_move (.inl h1) fun d hd => by rw [h2] at hd; obtain rfl := Option.some.inj hd; exact (fg_val 35 (.bool true) hn (by kernel_rfl) rfl)
  · have hop := opG_of (x := .move (.tmp 8)) (d := some 37) (by kernel_rfl) ho
    obtain ⟨h1, h2⟩ := hop
    exact .inr ⟨(guard_at (j := 5) (d := 36) (b := false) (b' := true) (by kernel_rfl : (arCOps[6]?).map (·.guard) = some (some (5, false))) (by kernel_rfl) ho (fg_tmp 36 (.bool true) hn (by kernel_rfl) rfl)), fg_put h2 rfl⟩
  · have hop := opG_of (x := .binOp .gtr 3 (.tmp 37) (.const (.int .i64 0)) 3) (d := some 38) (by kernel_rfl) ho
    obtain ⟨h1, h2⟩ := hop
    exact .inr ⟨(guard_at (j := 5) (d := 36) (b := false) (b' := true) (by kernel_rfl : (arCOps[7]?).map (·.guard) = some (some (5, false))) (by kernel_rfl) ho (fg_tmp 36 (.bool true) hn (by kernel_rfl) rfl)), fg_put h2 rfl⟩
  · have hop := opG_of (x := .move (.tmp 38)) (d := some 39) (by kernel_rfl) ho
    obtain ⟨h1, h2⟩ := hop
    exact .inr ⟨(guard_at (j := 5) (d := 36) (b := false) (b' := true) (by kernel_rfl : (arCOps[8]?).map (·.guard) = some (some (5, false))) (by kernel_rfl) ho (fg_tmp 36 (.bool true) hn (by kernel_rfl) rfl)), fg_put h2 rfl⟩
  · have hop := opG_of (x := .move (.tmp 1)) (d := some 40) (by kernel_rfl) ho
    obtain ⟨h1, h2⟩ := hop
    refine .inr ⟨guard_un (j := 8) (d := 39) (by kernel_rfl : (arCOps[9]?).map (·.guard) = some (some (8, true))) (by kernel_rfl) ho (fg_tmp 39 (undef) hn (by kernel_rfl) rfl), fg_put h2 rfl⟩
  · have hop := opG_of (x := .move (.tmp 8)) (d := some 41) (by kernel_rfl) ho
    obtain ⟨h1, h2⟩ := hop
    refine .inr ⟨guard_un (j := 8) (d := 39) (by kernel_rfl : (arCOps[10]?).map (·.guard) = some (some (8, true))) (by kernel_rfl) ho (fg_tmp 39 (undef) hn (by kernel_rfl) rfl), fg_put h2 rfl⟩
  · have hop := opG_of (x := .binOp .sub 3 (.tmp 41) (.const (.int .i64 1)) 3) (d := some 42) (by kernel_rfl) ho
    obtain ⟨h1, h2⟩ := hop
    refine .inr ⟨guard_un (j := 8) (d := 39) (by kernel_rfl : (arCOps[11]?).map (·.guard) = some (some (8, true))) (by kernel_rfl) ho (fg_tmp 39 (undef) hn (by kernel_rfl) rfl), fg_put h2 rfl⟩
  · have hop := opG_of (x := .indexAddr 35 (.tmp 40) (.tmp 42)) (d := some 43) (by kernel_rfl) ho
    obtain ⟨h1, h2⟩ := hop
    refine .inr ⟨guard_un (j := 8) (d := 39) (by kernel_rfl : (arCOps[12]?).map (·.guard) = some (some (8, true))) (by kernel_rfl) ho (fg_tmp 39 (undef) hn (by kernel_rfl) rfl), fg_put h2 rfl⟩
  · have hop := opG_of (x := .fieldAddr 32 (.tmp 43) 0) (d := some 44) (by kernel_rfl) ho
    obtain ⟨h1, h2⟩ := hop
    refine .inr ⟨guard_un (j := 8) (d := 39) (by kernel_rfl : (arCOps[13]?).map (·.guard) = some (some (8, true))) (by kernel_rfl) ho (fg_tmp 39 (undef) hn (by kernel_rfl) rfl), fg_put h2 rfl⟩
  · have hop := opG_of (x := .load 30 (.tmp 44)) (d := some 45) (by kernel_rfl) ho
    obtain ⟨h1, h2⟩ := hop
    refine .inr ⟨guard_un (j := 8) (d := 39) (by kernel_rfl : (arCOps[14]?).map (·.guard) = some (some (8, true))) (by kernel_rfl) ho (fg_tmp 39 (undef) hn (by kernel_rfl) rfl), fg_put h2 rfl⟩
  · have hop := opG_of (x := .fieldAddr 32 (.tmp 9) 0) (d := some 46) (by kernel_rfl) ho
    obtain ⟨h1, h2⟩ := hop
    refine .inr ⟨guard_un (j := 8) (d := 39) (by kernel_rfl : (arCOps[15]?).map (·.guard) = some (some (8, true))) (by kernel_rfl) ho (fg_tmp 39 (undef) hn (by kernel_rfl) rfl), fg_put h2 rfl⟩
  · have hop := opG_of (x := .load 30 (.tmp 46)) (d := some 47) (by kernel_rfl) ho
    obtain ⟨h1, h2⟩ := hop
    refine .inr ⟨guard_un (j := 8) (d := 39) (by kernel_rfl : (arCOps[16]?).map (·.guard) = some (some (8, true))) (by kernel_rfl) ho (fg_tmp 39 (undef) hn (by kernel_rfl) rfl), fg_put h2 rfl⟩
  · have hop := opG_of (x := .call { callee := .value (.func 32), args := #[.tmp 45, .tmp 47], argTypes := #[30, 30] }) (d := some 48) (by kernel_rfl) ho
    obtain ⟨h1, h2⟩ := hop
    refine .inr ⟨guard_un (j := 8) (d := 39) (by kernel_rfl : (arCOps[17]?).map (·.guard) = some (some (8, true))) (by kernel_rfl) ho (fg_tmp 39 (undef) hn (by kernel_rfl) rfl), fg_put h2 rfl⟩
  · have hop := opG_of (x := .unOp .not 4 (.tmp 48)) (d := some 49) (by kernel_rfl) ho
    obtain ⟨h1, h2⟩ := hop
    refine .inr ⟨guard_un (j := 8) (d := 39) (by kernel_rfl : (arCOps[18]?).map (·.guard) = some (some (8, true))) (by kernel_rfl) ho (fg_tmp 39 (undef) hn (by kernel_rfl) rfl), fg_put h2 rfl⟩
  · have hop := opG_of (x := .pick (.tmp 39) (.tmp 49) (.const (.bool false))) (d := some 50) (by kernel_rfl) ho
    obtain ⟨h1, h2⟩ := hop
    exact .inr ⟨(guard_at (j := 5) (d := 36) (b := false) (b' := true) (by kernel_rfl : (arCOps[19]?).map (·.guard) = some (some (5, false))) (by kernel_rfl) ho (fg_tmp 36 (.bool true) hn (by kernel_rfl) rfl)), fg_put h2 rfl⟩
  · have hop := opG_of (x := .pick (.tmp 36) (.const (.bool true)) (.tmp 50)) (d := some 51) (by kernel_rfl) ho
    obtain ⟨h1, h2⟩ := hop
    refine .inl ⟨free_not (guardG_of (by kernel_rfl) ho), ?_⟩
    exact meets_value (v := .bool true) (by have e36 := (fg_val 36 (.bool true) hn (by kernel_rfl) rfl); have e50 := (fg_val 50 (undef) hn (by kernel_rfl) rfl); unfold execOp; simp only [h1, e36, e50]; simp [go_sem, BigFrame.eval_const]) (fg_put h2 rfl)
def arCTabB (c : Chs) (bv wv pv ov v : Value) (p0 p1 p2 p3 p4 vv z : Int) (g gv k : Nat) : List (Nat × Value) := [(1, v), (2, .pointer (some ⟨g, 0, none⟩)), (8, .int .i64 (k : Int)), (9, .pointer (some ⟨gv, 0, none⟩)), (31, .agg #[bv, wv, pv, .int .i64 c.over, .int .i64 c.done, .int .i64 c.need, ov]), (32, .pointer (some ⟨gv, 0, none⟩)), (33, .agg #[.int .i64 p0, .int .i64 p1, .int .i64 p2, .int .i64 p3, .int .i64 p4]), (34, .int .i64 z), (35, .bool false), (36, .bool false), (37, .int .i64 (k : Int)), (38, .bool false), (39, .bool false), (40, undef), (41, undef), (42, undef), (43, undef), (44, undef), (45, undef), (46, undef), (47, undef), (48, undef), (49, undef), (50, .bool false), (51, .bool false)]
def arCMaskB (c : Chs) (bv wv pv ov v : Value) (p0 p1 p2 p3 p4 vv z : Int) (g gv k : Nat) : List (Option Value) := none :: none :: none :: none :: none :: none :: none :: none :: none :: none :: none :: none :: none :: none :: none :: none :: none :: none :: none :: none :: none :: none :: none :: none :: none :: none :: none :: none :: none :: none :: none :: some (.agg #[bv, wv, pv, .int .i64 c.over, .int .i64 c.done, .int .i64 c.need, ov]) :: some (.pointer (some ⟨gv, 0, none⟩)) :: some (.agg #[.int .i64 p0, .int .i64 p1, .int .i64 p2, .int .i64 p3, .int .i64 p4]) :: some (.int .i64 z) :: some (.bool false) :: some (.bool false) :: some (.int .i64 (k : Int)) :: some (.bool false) :: some (.bool false) :: some (undef) :: some (undef) :: some (undef) :: some (undef) :: some (undef) :: some (undef) :: some (undef) :: some (undef) :: some (undef) :: some (undef) :: some (.bool false) :: some (.bool false) :: none :: none :: none :: none :: none :: none :: none :: none :: none :: none :: none :: none :: none :: none :: none :: none :: none :: none :: none :: none :: none :: none :: none :: none :: none :: none :: none :: none :: []
set_option maxRecDepth 100000 in
set_option maxHeartbeats 4000000 in
theorem arC_freeB (c : Chs) (bv wv pv ov v : Value) (p0 p1 p2 p3 p4 vv z : Int) (gv k : Nat) (w : World) (kc : ∀ W, Below w.heap.size w W → Calls Tryz.prog 31 #[.agg #[bv, wv, pv, .int .i64 c.over, .int .i64 c.done, .int .i64 c.need, ov], .agg #[.int .i64 p0, .int .i64 p1, .int .i64 p2, .int .i64 p3, .int .i64 p4]] W fun e W' => e = .returned (.int .i64 z) ∧ Below W.heap.size W W') (hz : z = 0) (hk : k = 0) :
    FreeG Tryz.prog arCOps (tabV (arCTabB c bv wv pv ov v p0 p1 p2 p3 p4 vv z w.heap.size gv k)) (fun W => AcRC w W c bv wv pv ov ∧ Blk W gv 32 #[.int .i64 p0, .int .i64 p1, .int .i64 p2, .int .i64 p3, .int .i64 p4, .int .i64 vv]) (fun i => arCNeeds.getD i []) [1, 2, 8, 9] 80 := by
  refine ⟨backG_of (by kernel_rfl), dstG_of (by kernel_rfl), needG_of (by kernel_rfl), fun d w1 w2 v h _ => h, fun W W' h hb => ⟨h.1.below hb, h.2.below hb h.2.lt⟩, ?_⟩
  intro i o ho a W hG hn
  have hlt : i < 21 := by rw [← arC_size]; exact (Array.getElem?_eq_some_iff.1 ho).1
  have hcase : i = 0 ∨ i = 1 ∨ i = 2 ∨ i = 3 ∨ i = 4 ∨ i = 5 ∨ i = 6 ∨ i = 7 ∨ i = 8 ∨ i = 9 ∨ i = 10 ∨ i = 11 ∨ i = 12 ∨ i = 13 ∨ i = 14 ∨ i = 15 ∨ i = 16 ∨ i = 17 ∨ i = 18 ∨ i = 19 ∨ i = 20 := by omega
  rcases hcase with rfl | rfl | rfl | rfl | rfl | rfl | rfl | rfl | rfl | rfl | rfl | rfl | rfl | rfl | rfl | rfl | rfl | rfl | rfl | rfl | rfl
  · have hop := opG_of (x := .load 28 (.tmp 2)) (d := some 31) (by kernel_rfl) ho
    obtain ⟨h1, h2⟩ := hop
    refine .inl ⟨free_not (guardG_of (by kernel_rfl) ho), ?_⟩
    exact meets_load h1 (fg_val 2 (.pointer (some ⟨w.heap.size, 0, none⟩)) hn (by kernel_rfl) rfl) (load_chsZ hG.1.box) (fg_put h2 rfl)
  · have hop := opG_of (x := .fieldAddr 32 (.tmp 9) 0) (d := some 32) (by kernel_rfl) ho
    obtain ⟨h1, h2⟩ := hop
    refine .inl ⟨free_not (guardG_of (by kernel_rfl) ho), ?_⟩
    exact meets_field h1 (fg_val 9 (.pointer (some ⟨gv, 0, none⟩)) hn (by kernel_rfl) rfl) (by kernel_rfl : (Instr.fieldAt 32 (.pointer (some ⟨gv, 0, none⟩)) 0).run Tryz.prog W = .ok (.pointer (some ⟨gv, 0, none⟩)) W) (fg_put h2 rfl)
  · have hop := opG_of (x := .load 30 (.tmp 32)) (d := some 33) (by kernel_rfl) ho
    obtain ⟨h1, h2⟩ := hop
    refine .inl ⟨free_not (guardG_of (by kernel_rfl) ho), ?_⟩
    exact meets_load h1 (fg_val 32 (.pointer (some ⟨gv, 0, none⟩)) hn (by kernel_rfl) rfl) (blk_cst hG.2) (fg_put h2 rfl)
  · have hop := opG_of (x := .call { callee := .value (.func 31), args := #[.tmp 31, .tmp 33], argTypes := #[28, 30] }) (d := some 34) (by kernel_rfl) ho
    obtain ⟨h1, h2⟩ := hop
    refine .inl ⟨free_not (guardG_of (by kernel_rfl) ho), ?_⟩
    refine meets_call (args := #[.agg #[bv, wv, pv, .int .i64 c.over, .int .i64 c.done, .int .i64 c.need, ov], .agg #[.int .i64 p0, .int .i64 p1, .int .i64 p2, .int .i64 p3, .int .i64 p4]]) h1 rfl rfl (by have e31 := (fg_val 31 (.agg #[bv, wv, pv, .int .i64 c.over, .int .i64 c.done, .int .i64 c.need, ov]) hn (by kernel_rfl) rfl); have e33 := (fg_val 33 (.agg #[.int .i64 p0, .int .i64 p1, .int .i64 p2, .int .i64 p3, .int .i64 p4]) hn (by kernel_rfl) rfl); simp [e31, e33]) Tryz.func31 (by kernel_rfl) (by kernel_rfl) fun d hd => ?_
    refine (kc W hG.1.bel).mono ?_
    rintro e W' ⟨rfl, hb⟩
    exact ⟨_, rfl, hb, (fg_put h2 rfl d hd)⟩
  · have hop := opG_of (x := .binOp .neq 36 (.tmp 34) (.const (.int .i64 0)) 36) (d := some 35) (by kernel_rfl) ho
    obtain ⟨h1, h2⟩ := hop
    refine .inl ⟨free_not (guardG_of (by kernel_rfl) ho), ?_⟩
    exact meets_value (v := .bool false) (by have e34 := (fg_val 34 (.int .i64 z) hn (by kernel_rfl) rfl); unfold execOp; simp only [h1, e34]; simp [go_sem, BigFrame.eval_const, hz]) (fg_put h2 rfl)
  · have hop := opG_of (x := .move (.tmp 35)) (d := some 36) (by kernel_rfl) ho
    obtain ⟨h1, h2⟩ := hop
    refine .inl ⟨free_not (guardG_of (by kernel_rfl) ho), ?_⟩
    exact meets_move (.inl h1) fun d hd => by rw [h2] at hd; obtain rfl := Option.some.inj hd; exact (fg_val 35 (.bool false) hn (by kernel_rfl) rfl)
  · have hop := opG_of (x := .move (.tmp 8)) (d := some 37) (by kernel_rfl) ho
    obtain ⟨h1, h2⟩ := hop
    refine .inl ⟨(guard_at (j := 5) (d := 36) (b := false) (b' := false) (by kernel_rfl : (arCOps[6]?).map (·.guard) = some (some (5, false))) (by kernel_rfl) ho (fg_tmp 36 (.bool false) hn (by kernel_rfl) rfl)), ?_⟩
    exact meets_move (.inl h1) fun d hd => by rw [h2] at hd; obtain rfl := Option.some.inj hd; exact (fg_val 8 (.int .i64 (k : Int)) hn (by kernel_rfl) rfl)
  · have hop := opG_of (x := .binOp .gtr 3 (.tmp 37) (.const (.int .i64 0)) 3) (d := some 38) (by kernel_rfl) ho
    obtain ⟨h1, h2⟩ := hop
    refine .inl ⟨(guard_at (j := 5) (d := 36) (b := false) (b' := false) (by kernel_rfl : (arCOps[7]?).map (·.guard) = some (some (5, false))) (by kernel_rfl) ho (fg_tmp 36 (.bool false) hn (by kernel_rfl) rfl)), ?_⟩
    exact meets_value (v := .bool false) (by have e37 := (fg_val 37 (.int .i64 (k : Int)) hn (by kernel_rfl) rfl); unfold execOp; simp only [h1, e37]; simp [go_sem, BigFrame.eval_const, hk]) (fg_put h2 rfl)
  · have hop := opG_of (x := .move (.tmp 38)) (d := some 39) (by kernel_rfl) ho
    obtain ⟨h1, h2⟩ := hop
    refine .inl ⟨(guard_at (j := 5) (d := 36) (b := false) (b' := false) (by kernel_rfl : (arCOps[8]?).map (·.guard) = some (some (5, false))) (by kernel_rfl) ho (fg_tmp 36 (.bool false) hn (by kernel_rfl) rfl)), ?_⟩
    exact meets_move (.inl h1) fun d hd => by rw [h2] at hd; obtain rfl := Option.some.inj hd; exact (fg_val 38 (.bool false) hn (by kernel_rfl) rfl)
  · have hop := opG_of (x := .move (.tmp 1)) (d := some 40) (by kernel_rfl) ho
    obtain ⟨h1, h2⟩ := hop
    exact .inr ⟨(guard_at (j := 8) (d := 39) (b := true) (b' := false) (by kernel_rfl : (arCOps[9]?).map (·.guard) = some (some (8, true))) (by kernel_rfl) ho (fg_tmp 39 (.bool false) hn (by kernel_rfl) rfl)), fg_put h2 rfl⟩
  · have hop := opG_of (x := .move (.tmp 8)) (d := some 41) (by kernel_rfl) ho
    obtain ⟨h1, h2⟩ := hop
    exact .inr ⟨(guard_at (j := 8) (d := 39) (b := true) (b' := false) (by kernel_rfl : (arCOps[10]?).map (·.guard) = some (some (8, true))) (by kernel_rfl) ho (fg_tmp 39 (.bool false) hn (by kernel_rfl) rfl)), fg_put h2 rfl⟩
  · have hop := opG_of (x := .binOp .sub 3 (.tmp 41) (.const (.int .i64 1)) 3) (d := some 42) (by kernel_rfl) ho
    obtain ⟨h1, h2⟩ := hop
    exact .inr ⟨(guard_at (j := 8) (d := 39) (b := true) (b' := false) (by kernel_rfl : (arCOps[11]?).map (·.guard) = some (some (8, true))) (by kernel_rfl) ho (fg_tmp 39 (.bool false) hn (by kernel_rfl) rfl)), fg_put h2 rfl⟩
  · have hop := opG_of (x := .indexAddr 35 (.tmp 40) (.tmp 42)) (d := some 43) (by kernel_rfl) ho
    obtain ⟨h1, h2⟩ := hop
    exact .inr ⟨(guard_at (j := 8) (d := 39) (b := true) (b' := false) (by kernel_rfl : (arCOps[12]?).map (·.guard) = some (some (8, true))) (by kernel_rfl) ho (fg_tmp 39 (.bool false) hn (by kernel_rfl) rfl)), fg_put h2 rfl⟩
  · have hop := opG_of (x := .fieldAddr 32 (.tmp 43) 0) (d := some 44) (by kernel_rfl) ho
    obtain ⟨h1, h2⟩ := hop
    exact .inr ⟨(guard_at (j := 8) (d := 39) (b := true) (b' := false) (by kernel_rfl : (arCOps[13]?).map (·.guard) = some (some (8, true))) (by kernel_rfl) ho (fg_tmp 39 (.bool false) hn (by kernel_rfl) rfl)), fg_put h2 rfl⟩
  · have hop := opG_of (x := .load 30 (.tmp 44)) (d := some 45) (by kernel_rfl) ho
    obtain ⟨h1, h2⟩ := hop
    exact .inr ⟨(guard_at (j := 8) (d := 39) (b := true) (b' := false) (by kernel_rfl : (arCOps[14]?).map (·.guard) = some (some (8, true))) (by kernel_rfl) ho (fg_tmp 39 (.bool false) hn (by kernel_rfl) rfl)), fg_put h2 rfl⟩
  · have hop := opG_of (x := .fieldAddr 32 (.tmp 9) 0) (d := some 46) (by kernel_rfl) ho
    obtain ⟨h1, h2⟩ := hop
    exact .inr ⟨(guard_at (j := 8) (d := 39) (b := true) (b' := false) (by kernel_rfl : (arCOps[15]?).map (·.guard) = some (some (8, true))) (by kernel_rfl) ho (fg_tmp 39 (.bool false) hn (by kernel_rfl) rfl)), fg_put h2 rfl⟩
  · have hop := opG_of (x := .load 30 (.tmp 46)) (d := some 47) (by kernel_rfl) ho
    obtain ⟨h1, h2⟩ := hop
    exact .inr ⟨(guard_at (j := 8) (d := 39) (b := true) (b' := false) (by kernel_rfl : (arCOps[16]?).map (·.guard) = some (some (8, true))) (by kernel_rfl) ho (fg_tmp 39 (.bool false) hn (by kernel_rfl) rfl)), fg_put h2 rfl⟩
  · have hop := opG_of (x := .call { callee := .value (.func 32), args := #[.tmp 45, .tmp 47], argTypes := #[30, 30] }) (d := some 48) (by kernel_rfl) ho
    obtain ⟨h1, h2⟩ := hop
    exact .inr ⟨(guard_at (j := 8) (d := 39) (b := true) (b' := false) (by kernel_rfl : (arCOps[17]?).map (·.guard) = some (some (8, true))) (by kernel_rfl) ho (fg_tmp 39 (.bool false) hn (by kernel_rfl) rfl)), fg_put h2 rfl⟩
  · have hop := opG_of (x := .unOp .not 4 (.tmp 48)) (d := some 49) (by kernel_rfl) ho
    obtain ⟨h1, h2⟩ := hop
    exact .inr ⟨(guard_at (j := 8) (d := 39) (b := true) (b' := false) (by kernel_rfl : (arCOps[18]?).map (·.guard) = some (some (8, true))) (by kernel_rfl) ho (fg_tmp 39 (.bool false) hn (by kernel_rfl) rfl)), fg_put h2 rfl⟩
  · have hop := opG_of (x := .pick (.tmp 39) (.tmp 49) (.const (.bool false))) (d := some 50) (by kernel_rfl) ho
    obtain ⟨h1, h2⟩ := hop
    refine .inl ⟨(guard_at (j := 5) (d := 36) (b := false) (b' := false) (by kernel_rfl : (arCOps[19]?).map (·.guard) = some (some (5, false))) (by kernel_rfl) ho (fg_tmp 36 (.bool false) hn (by kernel_rfl) rfl)), ?_⟩
    exact meets_value (v := .bool false) (by have e39 := (fg_val 39 (.bool false) hn (by kernel_rfl) rfl); have e49 := (fg_val 49 (undef) hn (by kernel_rfl) rfl); unfold execOp; simp only [h1, e39, e49]; simp [go_sem, BigFrame.eval_const]) (fg_put h2 rfl)
  · have hop := opG_of (x := .pick (.tmp 36) (.const (.bool true)) (.tmp 50)) (d := some 51) (by kernel_rfl) ho
    obtain ⟨h1, h2⟩ := hop
    refine .inl ⟨free_not (guardG_of (by kernel_rfl) ho), ?_⟩
    exact meets_value (v := .bool false) (by have e36 := (fg_val 36 (.bool false) hn (by kernel_rfl) rfl); have e50 := (fg_val 50 (.bool false) hn (by kernel_rfl) rfl); unfold execOp; simp only [h1, e36, e50]; simp [go_sem, BigFrame.eval_const]) (fg_put h2 rfl)
def arCTabC (c : Chs) (bv wv pv ov : Value) (p0 p1 p2 p3 p4 vv z : Int) (g gv k : Nat) (r0 r1 r2 r3 r4 rv : Int) (b0 o0 n0 c0 : Nat) : List (Nat × Value) := [(1, .slice (some ⟨b0, o0, none⟩) n0 c0), (2, .pointer (some ⟨g, 0, none⟩)), (8, .int .i64 (k : Int)), (9, .pointer (some ⟨gv, 0, none⟩)), (31, .agg #[bv, wv, pv, .int .i64 c.over, .int .i64 c.done, .int .i64 c.need, ov]), (32, .pointer (some ⟨gv, 0, none⟩)), (33, .agg #[.int .i64 p0, .int .i64 p1, .int .i64 p2, .int .i64 p3, .int .i64 p4]), (34, .int .i64 z), (35, .bool false), (36, .bool false), (37, .int .i64 (k : Int)), (38, .bool true), (39, .bool true), (40, .slice (some ⟨b0, o0, none⟩) n0 c0), (41, .int .i64 (k : Int)), (42, .int .i64 ((k - 1 : Nat) : Int)), (43, .pointer (some ⟨b0, o0 + (k - 1) * 6, none⟩)), (44, .pointer (some ⟨b0, o0 + (k - 1) * 6, none⟩)), (45, .agg #[.int .i64 r0, .int .i64 r1, .int .i64 r2, .int .i64 r3, .int .i64 r4]), (46, .pointer (some ⟨gv, 0, none⟩)), (47, .agg #[.int .i64 p0, .int .i64 p1, .int .i64 p2, .int .i64 p3, .int .i64 p4]), (48, .bool false), (49, .bool true), (50, .bool true), (51, .bool true)]
def arCMaskC (c : Chs) (bv wv pv ov : Value) (p0 p1 p2 p3 p4 vv z : Int) (g gv k : Nat) (r0 r1 r2 r3 r4 rv : Int) (b0 o0 n0 c0 : Nat) : List (Option Value) := none :: none :: none :: none :: none :: none :: none :: none :: none :: none :: none :: none :: none :: none :: none :: none :: none :: none :: none :: none :: none :: none :: none :: none :: none :: none :: none :: none :: none :: none :: none :: some (.agg #[bv, wv, pv, .int .i64 c.over, .int .i64 c.done, .int .i64 c.need, ov]) :: some (.pointer (some ⟨gv, 0, none⟩)) :: some (.agg #[.int .i64 p0, .int .i64 p1, .int .i64 p2, .int .i64 p3, .int .i64 p4]) :: some (.int .i64 z) :: some (.bool false) :: some (.bool false) :: some (.int .i64 (k : Int)) :: some (.bool true) :: some (.bool true) :: some (.slice (some ⟨b0, o0, none⟩) n0 c0) :: some (.int .i64 (k : Int)) :: some (.int .i64 ((k - 1 : Nat) : Int)) :: some (.pointer (some ⟨b0, o0 + (k - 1) * 6, none⟩)) :: some (.pointer (some ⟨b0, o0 + (k - 1) * 6, none⟩)) :: some (.agg #[.int .i64 r0, .int .i64 r1, .int .i64 r2, .int .i64 r3, .int .i64 r4]) :: some (.pointer (some ⟨gv, 0, none⟩)) :: some (.agg #[.int .i64 p0, .int .i64 p1, .int .i64 p2, .int .i64 p3, .int .i64 p4]) :: some (.bool false) :: some (.bool true) :: some (.bool true) :: some (.bool true) :: none :: none :: none :: none :: none :: none :: none :: none :: none :: none :: none :: none :: none :: none :: none :: none :: none :: none :: none :: none :: none :: none :: none :: none :: none :: none :: none :: none :: []
set_option maxRecDepth 100000 in
set_option maxHeartbeats 4000000 in
theorem arC_freeC (c : Chs) (bv wv pv ov : Value) (p0 p1 p2 p3 p4 vv z : Int) (gv k : Nat) (r0 r1 r2 r3 r4 rv : Int) (b0 o0 n0 c0 : Nat) (w : World) (kc : ∀ W, Below w.heap.size w W → Calls Tryz.prog 31 #[.agg #[bv, wv, pv, .int .i64 c.over, .int .i64 c.done, .int .i64 c.need, ov], .agg #[.int .i64 p0, .int .i64 p1, .int .i64 p2, .int .i64 p3, .int .i64 p4]] W fun e W' => e = .returned (.int .i64 z) ∧ Below W.heap.size W W') (kq : ∀ W, Calls Tryz.prog 32 #[.agg #[.int .i64 r0, .int .i64 r1, .int .i64 r2, .int .i64 r3, .int .i64 r4], .agg #[.int .i64 p0, .int .i64 p1, .int .i64 p2, .int .i64 p3, .int .i64 p4]] W fun e W' => e = .returned (.bool false) ∧ Below W.heap.size W W') (hz : z = 0) (hk : 0 < k) (hkn : k ≤ n0) (hn0 : n0 ≤ 1000000000000) (hb0 : b0 < w.heap.size) (hprev : w.cell? ⟨b0, o0 + (k - 1) * 6, none⟩ = some (.int .i64 r0) ∧ w.cell? ⟨b0, o0 + (k - 1) * 6 + 1, none⟩ = some (.int .i64 r1) ∧ w.cell? ⟨b0, o0 + (k - 1) * 6 + 2, none⟩ = some (.int .i64 r2) ∧ w.cell? ⟨b0, o0 + (k - 1) * 6 + 3, none⟩ = some (.int .i64 r3) ∧ w.cell? ⟨b0, o0 + (k - 1) * 6 + 4, none⟩ = some (.int .i64 r4) ∧ w.cell? ⟨b0, o0 + (k - 1) * 6 + 5, none⟩ = some (.int .i64 rv)) :
    FreeG Tryz.prog arCOps (tabV (arCTabC c bv wv pv ov p0 p1 p2 p3 p4 vv z w.heap.size gv k r0 r1 r2 r3 r4 rv b0 o0 n0 c0)) (fun W => AcRC w W c bv wv pv ov ∧ Blk W gv 32 #[.int .i64 p0, .int .i64 p1, .int .i64 p2, .int .i64 p3, .int .i64 p4, .int .i64 vv]) (fun i => arCNeeds.getD i []) [1, 2, 8, 9] 80 := by
  refine ⟨backG_of (by kernel_rfl), dstG_of (by kernel_rfl), needG_of (by kernel_rfl), fun d w1 w2 v h _ => h, fun W W' h hb => ⟨h.1.below hb, h.2.below hb h.2.lt⟩, ?_⟩
  intro i o ho a W hG hn
  have hlt : i < 21 := by rw [← arC_size]; exact (Array.getElem?_eq_some_iff.1 ho).1
  have hs1 : IntKind.i64.wrap ((k : Int) - 1) = ((k - 1 : Nat) : Int) := by rw [IntWalk.i64_in _ (by omega)]; omega
  have hs2 : k - 1 < n0 := by omega
  have hs3 : (0 : Int) < (k : Int) := by omega
  have hcase : i = 0 ∨ i = 1 ∨ i = 2 ∨ i = 3 ∨ i = 4 ∨ i = 5 ∨ i = 6 ∨ i = 7 ∨ i = 8 ∨ i = 9 ∨ i = 10 ∨ i = 11 ∨ i = 12 ∨ i = 13 ∨ i = 14 ∨ i = 15 ∨ i = 16 ∨ i = 17 ∨ i = 18 ∨ i = 19 ∨ i = 20 := by omega
  rcases hcase with rfl | rfl | rfl | rfl | rfl | rfl | rfl | rfl | rfl | rfl | rfl | rfl | rfl | rfl | rfl | rfl | rfl | rfl | rfl | rfl | rfl
  · have hop := opG_of (x := .load 28 (.tmp 2)) (d := some 31) (by kernel_rfl) ho
    obtain ⟨h1, h2⟩ := hop
    refine .inl ⟨free_not (guardG_of (by kernel_rfl) ho), ?_⟩
    exact meets_load h1 (fg_val 2 (.pointer (some ⟨w.heap.size, 0, none⟩)) hn (by kernel_rfl) rfl) (load_chsZ hG.1.box) (fg_put h2 rfl)
  · have hop := opG_of (x := .fieldAddr 32 (.tmp 9) 0) (d := some 32) (by kernel_rfl) ho
    obtain ⟨h1, h2⟩ := hop
    refine .inl ⟨free_not (guardG_of (by kernel_rfl) ho), ?_⟩
    exact meets_field h1 (fg_val 9 (.pointer (some ⟨gv, 0, none⟩)) hn (by kernel_rfl) rfl) (by kernel_rfl : (Instr.fieldAt 32 (.pointer (some ⟨gv, 0, none⟩)) 0).run Tryz.prog W = .ok (.pointer (some ⟨gv, 0, none⟩)) W) (fg_put h2 rfl)
  · have hop := opG_of (x := .load 30 (.tmp 32)) (d := some 33) (by kernel_rfl) ho
    obtain ⟨h1, h2⟩ := hop
    refine .inl ⟨free_not (guardG_of (by kernel_rfl) ho), ?_⟩
    exact meets_load h1 (fg_val 32 (.pointer (some ⟨gv, 0, none⟩)) hn (by kernel_rfl) rfl) (blk_cst hG.2) (fg_put h2 rfl)
  · have hop := opG_of (x := .call { callee := .value (.func 31), args := #[.tmp 31, .tmp 33], argTypes := #[28, 30] }) (d := some 34) (by kernel_rfl) ho
    obtain ⟨h1, h2⟩ := hop
    refine .inl ⟨free_not (guardG_of (by kernel_rfl) ho), ?_⟩
    refine meets_call (args := #[.agg #[bv, wv, pv, .int .i64 c.over, .int .i64 c.done, .int .i64 c.need, ov], .agg #[.int .i64 p0, .int .i64 p1, .int .i64 p2, .int .i64 p3, .int .i64 p4]]) h1 rfl rfl (by have e31 := (fg_val 31 (.agg #[bv, wv, pv, .int .i64 c.over, .int .i64 c.done, .int .i64 c.need, ov]) hn (by kernel_rfl) rfl); have e33 := (fg_val 33 (.agg #[.int .i64 p0, .int .i64 p1, .int .i64 p2, .int .i64 p3, .int .i64 p4]) hn (by kernel_rfl) rfl); simp [e31, e33]) Tryz.func31 (by kernel_rfl) (by kernel_rfl) fun d hd => ?_
    refine (kc W hG.1.bel).mono ?_
    rintro e W' ⟨rfl, hb⟩
    exact ⟨_, rfl, hb, (fg_put h2 rfl d hd)⟩
  · have hop := opG_of (x := .binOp .neq 36 (.tmp 34) (.const (.int .i64 0)) 36) (d := some 35) (by kernel_rfl) ho
    obtain ⟨h1, h2⟩ := hop
    refine .inl ⟨free_not (guardG_of (by kernel_rfl) ho), ?_⟩
    exact meets_value (v := .bool false) (by have e34 := (fg_val 34 (.int .i64 z) hn (by kernel_rfl) rfl); unfold execOp; simp only [h1, e34]; simp [go_sem, BigFrame.eval_const, hz]) (fg_put h2 rfl)
  · have hop := opG_of (x := .move (.tmp 35)) (d := some 36) (by kernel_rfl) ho
    obtain ⟨h1, h2⟩ := hop
    refine .inl ⟨free_not (guardG_of (by kernel_rfl) ho), ?_⟩
    exact meets_move (.inl h1) fun d hd => by rw [h2] at hd; obtain rfl := Option.some.inj hd; exact (fg_val 35 (.bool false) hn (by kernel_rfl) rfl)
  · have hop := opG_of (x := .move (.tmp 8)) (d := some 37) (by kernel_rfl) ho
    obtain ⟨h1, h2⟩ := hop
    refine .inl ⟨(guard_at (j := 5) (d := 36) (b := false) (b' := false) (by kernel_rfl : (arCOps[6]?).map (·.guard) = some (some (5, false))) (by kernel_rfl) ho (fg_tmp 36 (.bool false) hn (by kernel_rfl) rfl)), ?_⟩
    exact meets_move (.inl h1) fun d hd => by rw [h2] at hd; obtain rfl := Option.some.inj hd; exact (fg_val 8 (.int .i64 (k : Int)) hn (by kernel_rfl) rfl)
  · have hop := opG_of (x := .binOp .gtr 3 (.tmp 37) (.const (.int .i64 0)) 3) (d := some 38) (by kernel_rfl) ho
    obtain ⟨h1, h2⟩ := hop
    refine .inl ⟨(guard_at (j := 5) (d := 36) (b := false) (b' := false) (by kernel_rfl : (arCOps[7]?).map (·.guard) = some (some (5, false))) (by kernel_rfl) ho (fg_tmp 36 (.bool false) hn (by kernel_rfl) rfl)), ?_⟩
    exact meets_value (v := .bool true) (by have e37 := (fg_val 37 (.int .i64 (k : Int)) hn (by kernel_rfl) rfl); unfold execOp; simp only [h1, e37]; simp [go_sem, BigFrame.eval_const, hs3, hk]) (fg_put h2 rfl)
  · have hop := opG_of (x := .move (.tmp 38)) (d := some 39) (by kernel_rfl) ho
    obtain ⟨h1, h2⟩ := hop
    refine .inl ⟨(guard_at (j := 5) (d := 36) (b := false) (b' := false) (by kernel_rfl : (arCOps[8]?).map (·.guard) = some (some (5, false))) (by kernel_rfl) ho (fg_tmp 36 (.bool false) hn (by kernel_rfl) rfl)), ?_⟩
    exact meets_move (.inl h1) fun d hd => by rw [h2] at hd; obtain rfl := Option.some.inj hd; exact (fg_val 38 (.bool true) hn (by kernel_rfl) rfl)
  · have hop := opG_of (x := .move (.tmp 1)) (d := some 40) (by kernel_rfl) ho
    obtain ⟨h1, h2⟩ := hop
    refine .inl ⟨(guard_at (j := 8) (d := 39) (b := true) (b' := true) (by kernel_rfl : (arCOps[9]?).map (·.guard) = some (some (8, true))) (by kernel_rfl) ho (fg_tmp 39 (.bool true) hn (by kernel_rfl) rfl)), ?_⟩
    exact meets_move (.inl h1) fun d hd => by rw [h2] at hd; obtain rfl := Option.some.inj hd; exact (fg_val 1 (.slice (some ⟨b0, o0, none⟩) n0 c0) hn (by kernel_rfl) rfl)
  · have hop := opG_of (x := .move (.tmp 8)) (d := some 41) (by kernel_rfl) ho
    obtain ⟨h1, h2⟩ := hop
    refine .inl ⟨(guard_at (j := 8) (d := 39) (b := true) (b' := true) (by kernel_rfl : (arCOps[10]?).map (·.guard) = some (some (8, true))) (by kernel_rfl) ho (fg_tmp 39 (.bool true) hn (by kernel_rfl) rfl)), ?_⟩
    exact meets_move (.inl h1) fun d hd => by rw [h2] at hd; obtain rfl := Option.some.inj hd; exact (fg_val 8 (.int .i64 (k : Int)) hn (by kernel_rfl) rfl)
  · have hop := opG_of (x := .binOp .sub 3 (.tmp 41) (.const (.int .i64 1)) 3) (d := some 42) (by kernel_rfl) ho
    obtain ⟨h1, h2⟩ := hop
    refine .inl ⟨(guard_at (j := 8) (d := 39) (b := true) (b' := true) (by kernel_rfl : (arCOps[11]?).map (·.guard) = some (some (8, true))) (by kernel_rfl) ho (fg_tmp 39 (.bool true) hn (by kernel_rfl) rfl)), ?_⟩
    exact meets_value (v := .int .i64 ((k - 1 : Nat) : Int)) (by have e41 := (fg_val 41 (.int .i64 (k : Int)) hn (by kernel_rfl) rfl); unfold execOp; simp only [h1, e41]; simp [go_sem, BigFrame.eval_const, hs1]) (fg_put h2 rfl)
  · have hop := opG_of (x := .indexAddr 35 (.tmp 40) (.tmp 42)) (d := some 43) (by kernel_rfl) ho
    obtain ⟨h1, h2⟩ := hop
    refine .inl ⟨(guard_at (j := 8) (d := 39) (b := true) (b' := true) (by kernel_rfl : (arCOps[12]?).map (·.guard) = some (some (8, true))) (by kernel_rfl) ho (fg_tmp 39 (.bool true) hn (by kernel_rfl) rfl)), ?_⟩
    exact meets_value (v := .pointer (some ⟨b0, o0 + (k - 1) * 6, none⟩)) (by have e40 := (fg_val 40 (.slice (some ⟨b0, o0, none⟩) n0 c0) hn (by kernel_rfl) rfl); have e42 := (fg_val 42 (.int .i64 ((k - 1 : Nat) : Int)) hn (by kernel_rfl) rfl); unfold execOp; simp only [h1, e40, e42]; simp [go_sem, BigFrame.eval_const, hs2]) (fg_put h2 rfl)
  · have hop := opG_of (x := .fieldAddr 32 (.tmp 43) 0) (d := some 44) (by kernel_rfl) ho
    obtain ⟨h1, h2⟩ := hop
    refine .inl ⟨(guard_at (j := 8) (d := 39) (b := true) (b' := true) (by kernel_rfl : (arCOps[13]?).map (·.guard) = some (some (8, true))) (by kernel_rfl) ho (fg_tmp 39 (.bool true) hn (by kernel_rfl) rfl)), ?_⟩
    exact meets_field h1 (fg_val 43 (.pointer (some ⟨b0, o0 + (k - 1) * 6, none⟩)) hn (by kernel_rfl) rfl) (by kernel_rfl : (Instr.fieldAt 32 (.pointer (some ⟨b0, o0 + (k - 1) * 6, none⟩)) 0).run Tryz.prog W = .ok (.pointer (some ⟨b0, o0 + (k - 1) * 6, none⟩)) W) (fg_put h2 rfl)
  · have hop := opG_of (x := .load 30 (.tmp 44)) (d := some 45) (by kernel_rfl) ho
    obtain ⟨h1, h2⟩ := hop
    refine .inl ⟨(guard_at (j := 8) (d := 39) (b := true) (b' := true) (by kernel_rfl : (arCOps[14]?).map (·.guard) = some (some (8, true))) (by kernel_rfl) ho (fg_tmp 39 (.bool true) hn (by kernel_rfl) rfl)), ?_⟩
    exact meets_load h1 (fg_val 44 (.pointer (some ⟨b0, o0 + (k - 1) * 6, none⟩)) hn (by kernel_rfl) rfl) (six_cst (sixC_below hG.1.bel hb0 hprev)) (fg_put h2 rfl)
  · have hop := opG_of (x := .fieldAddr 32 (.tmp 9) 0) (d := some 46) (by kernel_rfl) ho
    obtain ⟨h1, h2⟩ := hop
    refine .inl ⟨(guard_at (j := 8) (d := 39) (b := true) (b' := true) (by kernel_rfl : (arCOps[15]?).map (·.guard) = some (some (8, true))) (by kernel_rfl) ho (fg_tmp 39 (.bool true) hn (by kernel_rfl) rfl)), ?_⟩
    exact meets_field h1 (fg_val 9 (.pointer (some ⟨gv, 0, none⟩)) hn (by kernel_rfl) rfl) (by kernel_rfl : (Instr.fieldAt 32 (.pointer (some ⟨gv, 0, none⟩)) 0).run Tryz.prog W = .ok (.pointer (some ⟨gv, 0, none⟩)) W) (fg_put h2 rfl)
  · have hop := opG_of (x := .load 30 (.tmp 46)) (d := some 47) (by kernel_rfl) ho
    obtain ⟨h1, h2⟩ := hop
    refine .inl ⟨(guard_at (j := 8) (d := 39) (b := true) (b' := true) (by kernel_rfl : (arCOps[16]?).map (·.guard) = some (some (8, true))) (by kernel_rfl) ho (fg_tmp 39 (.bool true) hn (by kernel_rfl) rfl)), ?_⟩
    exact meets_load h1 (fg_val 46 (.pointer (some ⟨gv, 0, none⟩)) hn (by kernel_rfl) rfl) (blk_cst hG.2) (fg_put h2 rfl)
  · have hop := opG_of (x := .call { callee := .value (.func 32), args := #[.tmp 45, .tmp 47], argTypes := #[30, 30] }) (d := some 48) (by kernel_rfl) ho
    obtain ⟨h1, h2⟩ := hop
    refine .inl ⟨(guard_at (j := 8) (d := 39) (b := true) (b' := true) (by kernel_rfl : (arCOps[17]?).map (·.guard) = some (some (8, true))) (by kernel_rfl) ho (fg_tmp 39 (.bool true) hn (by kernel_rfl) rfl)), ?_⟩
    refine meets_call (args := #[.agg #[.int .i64 r0, .int .i64 r1, .int .i64 r2, .int .i64 r3, .int .i64 r4], .agg #[.int .i64 p0, .int .i64 p1, .int .i64 p2, .int .i64 p3, .int .i64 p4]]) h1 rfl rfl (by have e45 := (fg_val 45 (.agg #[.int .i64 r0, .int .i64 r1, .int .i64 r2, .int .i64 r3, .int .i64 r4]) hn (by kernel_rfl) rfl); have e47 := (fg_val 47 (.agg #[.int .i64 p0, .int .i64 p1, .int .i64 p2, .int .i64 p3, .int .i64 p4]) hn (by kernel_rfl) rfl); simp [e45, e47]) Tryz.func32 (by kernel_rfl) (by kernel_rfl) fun d hd => ?_
    refine (kq W).mono ?_
    rintro e W' ⟨rfl, hb⟩
    exact ⟨_, rfl, hb, (fg_put h2 rfl d hd)⟩
  · have hop := opG_of (x := .unOp .not 4 (.tmp 48)) (d := some 49) (by kernel_rfl) ho
    obtain ⟨h1, h2⟩ := hop
    refine .inl ⟨(guard_at (j := 8) (d := 39) (b := true) (b' := true) (by kernel_rfl : (arCOps[18]?).map (·.guard) = some (some (8, true))) (by kernel_rfl) ho (fg_tmp 39 (.bool true) hn (by kernel_rfl) rfl)), ?_⟩
    exact meets_value (v := .bool true) (by have e48 := (fg_val 48 (.bool false) hn (by kernel_rfl) rfl); unfold execOp; simp only [h1, e48]; simp [go_sem, BigFrame.eval_const]) (fg_put h2 rfl)
  · have hop := opG_of (x := .pick (.tmp 39) (.tmp 49) (.const (.bool false))) (d := some 50) (by kernel_rfl) ho
    obtain ⟨h1, h2⟩ := hop
    refine .inl ⟨(guard_at (j := 5) (d := 36) (b := false) (b' := false) (by kernel_rfl : (arCOps[19]?).map (·.guard) = some (some (5, false))) (by kernel_rfl) ho (fg_tmp 36 (.bool false) hn (by kernel_rfl) rfl)), ?_⟩
    exact meets_value (v := .bool true) (by have e39 := (fg_val 39 (.bool true) hn (by kernel_rfl) rfl); have e49 := (fg_val 49 (.bool true) hn (by kernel_rfl) rfl); unfold execOp; simp only [h1, e39, e49]; simp [go_sem, BigFrame.eval_const]) (fg_put h2 rfl)
  · have hop := opG_of (x := .pick (.tmp 36) (.const (.bool true)) (.tmp 50)) (d := some 51) (by kernel_rfl) ho
    obtain ⟨h1, h2⟩ := hop
    refine .inl ⟨free_not (guardG_of (by kernel_rfl) ho), ?_⟩
    exact meets_value (v := .bool true) (by have e36 := (fg_val 36 (.bool false) hn (by kernel_rfl) rfl); have e50 := (fg_val 50 (.bool true) hn (by kernel_rfl) rfl); unfold execOp; simp only [h1, e36, e50]; simp [go_sem, BigFrame.eval_const]) (fg_put h2 rfl)
def arCTabD (c : Chs) (bv wv pv ov : Value) (p0 p1 p2 p3 p4 vv z : Int) (g gv k : Nat) (r0 r1 r2 r3 r4 rv : Int) (b0 o0 n0 c0 : Nat) : List (Nat × Value) := [(1, .slice (some ⟨b0, o0, none⟩) n0 c0), (2, .pointer (some ⟨g, 0, none⟩)), (8, .int .i64 (k : Int)), (9, .pointer (some ⟨gv, 0, none⟩)), (31, .agg #[bv, wv, pv, .int .i64 c.over, .int .i64 c.done, .int .i64 c.need, ov]), (32, .pointer (some ⟨gv, 0, none⟩)), (33, .agg #[.int .i64 p0, .int .i64 p1, .int .i64 p2, .int .i64 p3, .int .i64 p4]), (34, .int .i64 z), (35, .bool false), (36, .bool false), (37, .int .i64 (k : Int)), (38, .bool true), (39, .bool true), (40, .slice (some ⟨b0, o0, none⟩) n0 c0), (41, .int .i64 (k : Int)), (42, .int .i64 ((k - 1 : Nat) : Int)), (43, .pointer (some ⟨b0, o0 + (k - 1) * 6, none⟩)), (44, .pointer (some ⟨b0, o0 + (k - 1) * 6, none⟩)), (45, .agg #[.int .i64 r0, .int .i64 r1, .int .i64 r2, .int .i64 r3, .int .i64 r4]), (46, .pointer (some ⟨gv, 0, none⟩)), (47, .agg #[.int .i64 p0, .int .i64 p1, .int .i64 p2, .int .i64 p3, .int .i64 p4]), (48, .bool true), (49, .bool false), (50, .bool false), (51, .bool false)]
def arCMaskD (c : Chs) (bv wv pv ov : Value) (p0 p1 p2 p3 p4 vv z : Int) (g gv k : Nat) (r0 r1 r2 r3 r4 rv : Int) (b0 o0 n0 c0 : Nat) : List (Option Value) := none :: none :: none :: none :: none :: none :: none :: none :: none :: none :: none :: none :: none :: none :: none :: none :: none :: none :: none :: none :: none :: none :: none :: none :: none :: none :: none :: none :: none :: none :: none :: some (.agg #[bv, wv, pv, .int .i64 c.over, .int .i64 c.done, .int .i64 c.need, ov]) :: some (.pointer (some ⟨gv, 0, none⟩)) :: some (.agg #[.int .i64 p0, .int .i64 p1, .int .i64 p2, .int .i64 p3, .int .i64 p4]) :: some (.int .i64 z) :: some (.bool false) :: some (.bool false) :: some (.int .i64 (k : Int)) :: some (.bool true) :: some (.bool true) :: some (.slice (some ⟨b0, o0, none⟩) n0 c0) :: some (.int .i64 (k : Int)) :: some (.int .i64 ((k - 1 : Nat) : Int)) :: some (.pointer (some ⟨b0, o0 + (k - 1) * 6, none⟩)) :: some (.pointer (some ⟨b0, o0 + (k - 1) * 6, none⟩)) :: some (.agg #[.int .i64 r0, .int .i64 r1, .int .i64 r2, .int .i64 r3, .int .i64 r4]) :: some (.pointer (some ⟨gv, 0, none⟩)) :: some (.agg #[.int .i64 p0, .int .i64 p1, .int .i64 p2, .int .i64 p3, .int .i64 p4]) :: some (.bool true) :: some (.bool false) :: some (.bool false) :: some (.bool false) :: none :: none :: none :: none :: none :: none :: none :: none :: none :: none :: none :: none :: none :: none :: none :: none :: none :: none :: none :: none :: none :: none :: none :: none :: none :: none :: none :: none :: []
set_option maxRecDepth 100000 in
set_option maxHeartbeats 4000000 in
theorem arC_freeD (c : Chs) (bv wv pv ov : Value) (p0 p1 p2 p3 p4 vv z : Int) (gv k : Nat) (r0 r1 r2 r3 r4 rv : Int) (b0 o0 n0 c0 : Nat) (w : World) (kc : ∀ W, Below w.heap.size w W → Calls Tryz.prog 31 #[.agg #[bv, wv, pv, .int .i64 c.over, .int .i64 c.done, .int .i64 c.need, ov], .agg #[.int .i64 p0, .int .i64 p1, .int .i64 p2, .int .i64 p3, .int .i64 p4]] W fun e W' => e = .returned (.int .i64 z) ∧ Below W.heap.size W W') (kq : ∀ W, Calls Tryz.prog 32 #[.agg #[.int .i64 r0, .int .i64 r1, .int .i64 r2, .int .i64 r3, .int .i64 r4], .agg #[.int .i64 p0, .int .i64 p1, .int .i64 p2, .int .i64 p3, .int .i64 p4]] W fun e W' => e = .returned (.bool true) ∧ Below W.heap.size W W') (hz : z = 0) (hk : 0 < k) (hkn : k ≤ n0) (hn0 : n0 ≤ 1000000000000) (hb0 : b0 < w.heap.size) (hprev : w.cell? ⟨b0, o0 + (k - 1) * 6, none⟩ = some (.int .i64 r0) ∧ w.cell? ⟨b0, o0 + (k - 1) * 6 + 1, none⟩ = some (.int .i64 r1) ∧ w.cell? ⟨b0, o0 + (k - 1) * 6 + 2, none⟩ = some (.int .i64 r2) ∧ w.cell? ⟨b0, o0 + (k - 1) * 6 + 3, none⟩ = some (.int .i64 r3) ∧ w.cell? ⟨b0, o0 + (k - 1) * 6 + 4, none⟩ = some (.int .i64 r4) ∧ w.cell? ⟨b0, o0 + (k - 1) * 6 + 5, none⟩ = some (.int .i64 rv)) :
    FreeG Tryz.prog arCOps (tabV (arCTabD c bv wv pv ov p0 p1 p2 p3 p4 vv z w.heap.size gv k r0 r1 r2 r3 r4 rv b0 o0 n0 c0)) (fun W => AcRC w W c bv wv pv ov ∧ Blk W gv 32 #[.int .i64 p0, .int .i64 p1, .int .i64 p2, .int .i64 p3, .int .i64 p4, .int .i64 vv]) (fun i => arCNeeds.getD i []) [1, 2, 8, 9] 80 := by
  refine ⟨backG_of (by kernel_rfl), dstG_of (by kernel_rfl), needG_of (by kernel_rfl), fun d w1 w2 v h _ => h, fun W W' h hb => ⟨h.1.below hb, h.2.below hb h.2.lt⟩, ?_⟩
  intro i o ho a W hG hn
  have hlt : i < 21 := by rw [← arC_size]; exact (Array.getElem?_eq_some_iff.1 ho).1
  have hs1 : IntKind.i64.wrap ((k : Int) - 1) = ((k - 1 : Nat) : Int) := by rw [IntWalk.i64_in _ (by omega)]; omega
  have hs2 : k - 1 < n0 := by omega
  have hs3 : (0 : Int) < (k : Int) := by omega
  have hcase : i = 0 ∨ i = 1 ∨ i = 2 ∨ i = 3 ∨ i = 4 ∨ i = 5 ∨ i = 6 ∨ i = 7 ∨ i = 8 ∨ i = 9 ∨ i = 10 ∨ i = 11 ∨ i = 12 ∨ i = 13 ∨ i = 14 ∨ i = 15 ∨ i = 16 ∨ i = 17 ∨ i = 18 ∨ i = 19 ∨ i = 20 := by omega
  rcases hcase with rfl | rfl | rfl | rfl | rfl | rfl | rfl | rfl | rfl | rfl | rfl | rfl | rfl | rfl | rfl | rfl | rfl | rfl | rfl | rfl | rfl
  · have hop := opG_of (x := .load 28 (.tmp 2)) (d := some 31) (by kernel_rfl) ho
    obtain ⟨h1, h2⟩ := hop
    refine .inl ⟨free_not (guardG_of (by kernel_rfl) ho), ?_⟩
    exact meets_load h1 (fg_val 2 (.pointer (some ⟨w.heap.size, 0, none⟩)) hn (by kernel_rfl) rfl) (load_chsZ hG.1.box) (fg_put h2 rfl)
  · have hop := opG_of (x := .fieldAddr 32 (.tmp 9) 0) (d := some 32) (by kernel_rfl) ho
    obtain ⟨h1, h2⟩ := hop
    refine .inl ⟨free_not (guardG_of (by kernel_rfl) ho), ?_⟩
    exact meets_field h1 (fg_val 9 (.pointer (some ⟨gv, 0, none⟩)) hn (by kernel_rfl) rfl) (by kernel_rfl : (Instr.fieldAt 32 (.pointer (some ⟨gv, 0, none⟩)) 0).run Tryz.prog W = .ok (.pointer (some ⟨gv, 0, none⟩)) W) (fg_put h2 rfl)
  · have hop := opG_of (x := .load 30 (.tmp 32)) (d := some 33) (by kernel_rfl) ho
    obtain ⟨h1, h2⟩ := hop
    refine .inl ⟨free_not (guardG_of (by kernel_rfl) ho), ?_⟩
    exact meets_load h1 (fg_val 32 (.pointer (some ⟨gv, 0, none⟩)) hn (by kernel_rfl) rfl) (blk_cst hG.2) (fg_put h2 rfl)
  · have hop := opG_of (x := .call { callee := .value (.func 31), args := #[.tmp 31, .tmp 33], argTypes := #[28, 30] }) (d := some 34) (by kernel_rfl) ho
    obtain ⟨h1, h2⟩ := hop
    refine .inl ⟨free_not (guardG_of (by kernel_rfl) ho), ?_⟩
    refine meets_call (args := #[.agg #[bv, wv, pv, .int .i64 c.over, .int .i64 c.done, .int .i64 c.need, ov], .agg #[.int .i64 p0, .int .i64 p1, .int .i64 p2, .int .i64 p3, .int .i64 p4]]) h1 rfl rfl (by have e31 := (fg_val 31 (.agg #[bv, wv, pv, .int .i64 c.over, .int .i64 c.done, .int .i64 c.need, ov]) hn (by kernel_rfl) rfl); have e33 := (fg_val 33 (.agg #[.int .i64 p0, .int .i64 p1, .int .i64 p2, .int .i64 p3, .int .i64 p4]) hn (by kernel_rfl) rfl); simp [e31, e33]) Tryz.func31 (by kernel_rfl) (by kernel_rfl) fun d hd => ?_
    refine (kc W hG.1.bel).mono ?_
    rintro e W' ⟨rfl, hb⟩
    exact ⟨_, rfl, hb, (fg_put h2 rfl d hd)⟩
  · have hop := opG_of (x := .binOp .neq 36 (.tmp 34) (.const (.int .i64 0)) 36) (d := some 35) (by kernel_rfl) ho
    obtain ⟨h1, h2⟩ := hop
    refine .inl ⟨free_not (guardG_of (by kernel_rfl) ho), ?_⟩
    exact meets_value (v := .bool false) (by have e34 := (fg_val 34 (.int .i64 z) hn (by kernel_rfl) rfl); unfold execOp; simp only [h1, e34]; simp [go_sem, BigFrame.eval_const, hz]) (fg_put h2 rfl)
  · have hop := opG_of (x := .move (.tmp 35)) (d := some 36) (by kernel_rfl) ho
    obtain ⟨h1, h2⟩ := hop
    refine .inl ⟨free_not (guardG_of (by kernel_rfl) ho), ?_⟩
    exact meets_move (.inl h1) fun d hd => by rw [h2] at hd; obtain rfl := Option.some.inj hd; exact (fg_val 35 (.bool false) hn (by kernel_rfl) rfl)
  · have hop := opG_of (x := .move (.tmp 8)) (d := some 37) (by kernel_rfl) ho
    obtain ⟨h1, h2⟩ := hop
    refine .inl ⟨(guard_at (j := 5) (d := 36) (b := false) (b' := false) (by kernel_rfl : (arCOps[6]?).map (·.guard) = some (some (5, false))) (by kernel_rfl) ho (fg_tmp 36 (.bool false) hn (by kernel_rfl) rfl)), ?_⟩
    exact meets_move (.inl h1) fun d hd => by rw [h2] at hd; obtain rfl := Option.some.inj hd; exact (fg_val 8 (.int .i64 (k : Int)) hn (by kernel_rfl) rfl)
  · have hop := opG_of (x := .binOp .gtr 3 (.tmp 37) (.const (.int .i64 0)) 3) (d := some 38) (by kernel_rfl) ho
    obtain ⟨h1, h2⟩ := hop
    refine .inl ⟨(guard_at (j := 5) (d := 36) (b := false) (b' := false) (by kernel_rfl : (arCOps[7]?).map (·.guard) = some (some (5, false))) (by kernel_rfl) ho (fg_tmp 36 (.bool false) hn (by kernel_rfl) rfl)), ?_⟩
    exact meets_value (v := .bool true) (by have e37 := (fg_val 37 (.int .i64 (k : Int)) hn (by kernel_rfl) rfl); unfold execOp; simp only [h1, e37]; simp [go_sem, BigFrame.eval_const, hs3, hk]) (fg_put h2 rfl)
  · have hop := opG_of (x := .move (.tmp 38)) (d := some 39) (by kernel_rfl) ho
    obtain ⟨h1, h2⟩ := hop
    refine .inl ⟨(guard_at (j := 5) (d := 36) (b := false) (b' := false) (by kernel_rfl : (arCOps[8]?).map (·.guard) = some (some (5, false))) (by kernel_rfl) ho (fg_tmp 36 (.bool false) hn (by kernel_rfl) rfl)), ?_⟩
    exact meets_move (.inl h1) fun d hd => by rw [h2] at hd; obtain rfl := Option.some.inj hd; exact (fg_val 38 (.bool true) hn (by kernel_rfl) rfl)
  · have hop := opG_of (x := .move (.tmp 1)) (d := some 40) (by kernel_rfl) ho
    obtain ⟨h1, h2⟩ := hop
    refine .inl ⟨(guard_at (j := 8) (d := 39) (b := true) (b' := true) (by kernel_rfl : (arCOps[9]?).map (·.guard) = some (some (8, true))) (by kernel_rfl) ho (fg_tmp 39 (.bool true) hn (by kernel_rfl) rfl)), ?_⟩
    exact meets_move (.inl h1) fun d hd => by rw [h2] at hd; obtain rfl := Option.some.inj hd; exact (fg_val 1 (.slice (some ⟨b0, o0, none⟩) n0 c0) hn (by kernel_rfl) rfl)
  · have hop := opG_of (x := .move (.tmp 8)) (d := some 41) (by kernel_rfl) ho
    obtain ⟨h1, h2⟩ := hop
    refine .inl ⟨(guard_at (j := 8) (d := 39) (b := true) (b' := true) (by kernel_rfl : (arCOps[10]?).map (·.guard) = some (some (8, true))) (by kernel_rfl) ho (fg_tmp 39 (.bool true) hn (by kernel_rfl) rfl)), ?_⟩
    exact meets_move (.inl h1) fun d hd => by rw [h2] at hd; obtain rfl := Option.some.inj hd; exact (fg_val 8 (.int .i64 (k : Int)) hn (by kernel_rfl) rfl)
  · have hop := opG_of (x := .binOp .sub 3 (.tmp 41) (.const (.int .i64 1)) 3) (d := some 42) (by kernel_rfl) ho
    obtain ⟨h1, h2⟩ := hop
    refine .inl ⟨(guard_at (j := 8) (d := 39) (b := true) (b' := true) (by kernel_rfl : (arCOps[11]?).map (·.guard) = some (some (8, true))) (by kernel_rfl) ho (fg_tmp 39 (.bool true) hn (by kernel_rfl) rfl)), ?_⟩
    exact meets_value (v := .int .i64 ((k - 1 : Nat) : Int)) (by have e41 := (fg_val 41 (.int .i64 (k : Int)) hn (by kernel_rfl) rfl); unfold execOp; simp only [h1, e41]; simp [go_sem, BigFrame.eval_const, hs1]) (fg_put h2 rfl)
  · have hop := opG_of (x := .indexAddr 35 (.tmp 40) (.tmp 42)) (d := some 43) (by kernel_rfl) ho
    obtain ⟨h1, h2⟩ := hop
    refine .inl ⟨(guard_at (j := 8) (d := 39) (b := true) (b' := true) (by kernel_rfl : (arCOps[12]?).map (·.guard) = some (some (8, true))) (by kernel_rfl) ho (fg_tmp 39 (.bool true) hn (by kernel_rfl) rfl)), ?_⟩
    exact meets_value (v := .pointer (some ⟨b0, o0 + (k - 1) * 6, none⟩)) (by have e40 := (fg_val 40 (.slice (some ⟨b0, o0, none⟩) n0 c0) hn (by kernel_rfl) rfl); have e42 := (fg_val 42 (.int .i64 ((k - 1 : Nat) : Int)) hn (by kernel_rfl) rfl); unfold execOp; simp only [h1, e40, e42]; simp [go_sem, BigFrame.eval_const, hs2]) (fg_put h2 rfl)
  · have hop := opG_of (x := .fieldAddr 32 (.tmp 43) 0) (d := some 44) (by kernel_rfl) ho
    obtain ⟨h1, h2⟩ := hop
    refine .inl ⟨(guard_at (j := 8) (d := 39) (b := true) (b' := true) (by kernel_rfl : (arCOps[13]?).map (·.guard) = some (some (8, true))) (by kernel_rfl) ho (fg_tmp 39 (.bool true) hn (by kernel_rfl) rfl)), ?_⟩
    exact meets_field h1 (fg_val 43 (.pointer (some ⟨b0, o0 + (k - 1) * 6, none⟩)) hn (by kernel_rfl) rfl) (by kernel_rfl : (Instr.fieldAt 32 (.pointer (some ⟨b0, o0 + (k - 1) * 6, none⟩)) 0).run Tryz.prog W = .ok (.pointer (some ⟨b0, o0 + (k - 1) * 6, none⟩)) W) (fg_put h2 rfl)
  · have hop := opG_of (x := .load 30 (.tmp 44)) (d := some 45) (by kernel_rfl) ho
    obtain ⟨h1, h2⟩ := hop
    refine .inl ⟨(guard_at (j := 8) (d := 39) (b := true) (b' := true) (by kernel_rfl : (arCOps[14]?).map (·.guard) = some (some (8, true))) (by kernel_rfl) ho (fg_tmp 39 (.bool true) hn (by kernel_rfl) rfl)), ?_⟩
    exact meets_load h1 (fg_val 44 (.pointer (some ⟨b0, o0 + (k - 1) * 6, none⟩)) hn (by kernel_rfl) rfl) (six_cst (sixC_below hG.1.bel hb0 hprev)) (fg_put h2 rfl)
  · have hop := opG_of (x := .fieldAddr 32 (.tmp 9) 0) (d := some 46) (by kernel_rfl) ho
    obtain ⟨h1, h2⟩ := hop
    refine .inl ⟨(guard_at (j := 8) (d := 39) (b := true) (b' := true) (by kernel_rfl : (arCOps[15]?).map (·.guard) = some (some (8, true))) (by kernel_rfl) ho (fg_tmp 39 (.bool true) hn (by kernel_rfl) rfl)), ?_⟩
    exact meets_field h1 (fg_val 9 (.pointer (some ⟨gv, 0, none⟩)) hn (by kernel_rfl) rfl) (by kernel_rfl : (Instr.fieldAt 32 (.pointer (some ⟨gv, 0, none⟩)) 0).run Tryz.prog W = .ok (.pointer (some ⟨gv, 0, none⟩)) W) (fg_put h2 rfl)
  · have hop := opG_of (x := .load 30 (.tmp 46)) (d := some 47) (by kernel_rfl) ho
    obtain ⟨h1, h2⟩ := hop
    refine .inl ⟨(guard_at (j := 8) (d := 39) (b := true) (b' := true) (by kernel_rfl : (arCOps[16]?).map (·.guard) = some (some (8, true))) (by kernel_rfl) ho (fg_tmp 39 (.bool true) hn (by kernel_rfl) rfl)), ?_⟩
    exact meets_load h1 (fg_val 46 (.pointer (some ⟨gv, 0, none⟩)) hn (by kernel_rfl) rfl) (blk_cst hG.2) (fg_put h2 rfl)
  · have hop := opG_of (x := .call { callee := .value (.func 32), args := #[.tmp 45, .tmp 47], argTypes := #[30, 30] }) (d := some 48) (by kernel_rfl) ho
    obtain ⟨h1, h2⟩ := hop
    refine .inl ⟨(guard_at (j := 8) (d := 39) (b := true) (b' := true) (by kernel_rfl : (arCOps[17]?).map (·.guard) = some (some (8, true))) (by kernel_rfl) ho (fg_tmp 39 (.bool true) hn (by kernel_rfl) rfl)), ?_⟩
    refine meets_call (args := #[.agg #[.int .i64 r0, .int .i64 r1, .int .i64 r2, .int .i64 r3, .int .i64 r4], .agg #[.int .i64 p0, .int .i64 p1, .int .i64 p2, .int .i64 p3, .int .i64 p4]]) h1 rfl rfl (by have e45 := (fg_val 45 (.agg #[.int .i64 r0, .int .i64 r1, .int .i64 r2, .int .i64 r3, .int .i64 r4]) hn (by kernel_rfl) rfl); have e47 := (fg_val 47 (.agg #[.int .i64 p0, .int .i64 p1, .int .i64 p2, .int .i64 p3, .int .i64 p4]) hn (by kernel_rfl) rfl); simp [e45, e47]) Tryz.func32 (by kernel_rfl) (by kernel_rfl) fun d hd => ?_
    refine (kq W).mono ?_
    rintro e W' ⟨rfl, hb⟩
    exact ⟨_, rfl, hb, (fg_put h2 rfl d hd)⟩
  · have hop := opG_of (x := .unOp .not 4 (.tmp 48)) (d := some 49) (by kernel_rfl) ho
    obtain ⟨h1, h2⟩ := hop
    refine .inl ⟨(guard_at (j := 8) (d := 39) (b := true) (b' := true) (by kernel_rfl : (arCOps[18]?).map (·.guard) = some (some (8, true))) (by kernel_rfl) ho (fg_tmp 39 (.bool true) hn (by kernel_rfl) rfl)), ?_⟩
    exact meets_value (v := .bool false) (by have e48 := (fg_val 48 (.bool true) hn (by kernel_rfl) rfl); unfold execOp; simp only [h1, e48]; simp [go_sem, BigFrame.eval_const]) (fg_put h2 rfl)
  · have hop := opG_of (x := .pick (.tmp 39) (.tmp 49) (.const (.bool false))) (d := some 50) (by kernel_rfl) ho
    obtain ⟨h1, h2⟩ := hop
    refine .inl ⟨(guard_at (j := 5) (d := 36) (b := false) (b' := false) (by kernel_rfl : (arCOps[19]?).map (·.guard) = some (some (5, false))) (by kernel_rfl) ho (fg_tmp 36 (.bool false) hn (by kernel_rfl) rfl)), ?_⟩
    exact meets_value (v := .bool false) (by have e39 := (fg_val 39 (.bool true) hn (by kernel_rfl) rfl); have e49 := (fg_val 49 (.bool false) hn (by kernel_rfl) rfl); unfold execOp; simp only [h1, e39, e49]; simp [go_sem, BigFrame.eval_const]) (fg_put h2 rfl)
  · have hop := opG_of (x := .pick (.tmp 36) (.const (.bool true)) (.tmp 50)) (d := some 51) (by kernel_rfl) ho
    obtain ⟨h1, h2⟩ := hop
    refine .inl ⟨free_not (guardG_of (by kernel_rfl) ho), ?_⟩
    exact meets_value (v := .bool false) (by have e36 := (fg_val 36 (.bool false) hn (by kernel_rfl) rfl); have e50 := (fg_val 50 (.bool false) hn (by kernel_rfl) rfl); unfold execOp; simp only [h1, e36, e50]; simp [go_sem, BigFrame.eval_const]) (fg_put h2 rfl)
set_option maxRecDepth 100000 in
set_option maxHeartbeats 8000000 in
theorem r44_Accept (c : Chs) (bv wv pv ov v : Value) (l : List Cve) (w : World) (h : ChAt w (· < w.heap.size) bv wv pv ov c) (hl : Sl 6 elCv w (· < w.heap.size) v l) (hn : l.length ≤ 1000000000000) (hw : TabWC l) :
    Calls Tryz.prog 11 #[chV c bv wv pv ov, v] w fun e w' => e = .returned (.int .i64 (acceptC c l)) ∧ Below w.heap.size w w' := by
  have k1 := fun W (hW : Below w.heap.size w W) => r44_Start c _ _ _ _ W (h.below hW)
  have kchk := fun (k : Nat) (hk : k < l.length) W (hW : Below w.heap.size w W) => r44_checkState c l[k].st _ _ _ _ W (h.below hW)
  have ken0 := fun (hc : OkC c) (x : Cve) (hx : OkS c x.st) (gs b N : Nat) (s : Cst) (D : DataW Unit) (hml : MapLC D (lookC l)) W (hW : AcMC w W gs b N D s c bv wv pv ov) => r44_proved c hc x hx bv wv pv ov (lookC l) W (h.below hW.r.bel) b N D hW.vals hml
  have kent0 : ∀ (hc : OkC c) (k : Nat) (hk : k < l.length) (h1 : stateC c l[k].st = 0), keyOf Tryz.prog 30 (stV l[k].st) = some (keyS l[k].st) := fun hc k hk h1 => key_of ((stateC_ok.1 h1).smol hc)
  unfold chV at k1 kchk ken0 ⊢
  obtain ⟨A, ca, rfl, hc1, hc2⟩ := h.mdl.bat.shape
  obtain ⟨A1, ca1, rfl, hc3, hc4⟩ := h.mdl.bow.shape
  obtain ⟨A2, ca2, rfl, hc5, hc6⟩ := h.bow.shape
  obtain ⟨A3, ca3, rfl, hc7, hc8⟩ := h.ord.shape
  obtain ⟨A4, ca4, rfl, hc9, hc10⟩ := hl.shape
  have HX := Lib.hid (AcRC.new w c (.slice A c.mdl.bats.length ca) (.slice A1 c.mdl.bows.length ca1) (.slice A2 c.bows.length ca2) (.slice A3 c.ord.length ca3))
  have HL := Lib.hid hl
  obtain ⟨z, hz⟩ : ∃ z, z = acceptC c l := ⟨_, rfl⟩
  rw [← hz]
  have hbad := fun h0 => hz.trans (acceptC_bad (c := c) (l := l) h0)
  have hform := fun h0 (hf : ¬ FormC c l) => hz.trans (acceptC_form h0 hf)
  have hnone := fun h0 (hf : FormC c l) h2 => hz.trans (acceptC_none h0 hf h2)
  have hent := fun h0 (hf : FormC c l) h2 => hz.trans (acceptC_ent h0 hf h2)
  have hok0 := fun h0 => startC_ok (c := c) h0
  obtain ⟨⟨s, u⟩, hsu⟩ : ∃ x, x = startC c := ⟨_, rfl⟩
  simp only [← hsu] at k1 hbad hform hnone hent hok0
  have tok0 : True := trivial
  by_cases h0 : u = 0
  case neg =>
    have HZ := Lib.hid (hbad h0)
    have eu : (u != 0) = true := by simp [h0]
    obtain ⟨s0, s1, s2, s3, s4⟩ := s
    unfold stV at k1
    dsimp only at k1
    have K1 := Lib.hid k1
    clear kchk ken0 hz h0 k1 hsu h hl hbad hform hnone hent hok0 hw kent0
    go_enter Tryz.func11, Tryz.ntmps11
    go_wp2_with (clear tok0; go_at_call 24; refine (K1.out _ HX.out.bel).mono ?_; rintro e w2 ⟨rfl, hb2⟩; have HX2 := Lib.hid (HX.out.below hb2); clear hb2; have tok1 : True := trivial)
    go_ret
    exact ⟨ret_i HZ.out.symm, HX2.out.bel.trans ((Below.alloc (Below.refl _ _) (Nat.le_refl _) _).mono HX2.out.bel.size)⟩
  obtain ⟨_, hc, hs0⟩ := hok0 h0
  have eu : (u != 0) = false := by simp [h0]
  have HF4 := Lib.hid (hform h0)
  have HN6 := Lib.hid (hnone h0)
  have HEN := Lib.hid (hent h0)
  have KCHK := Lib.hid kchk
  have KEN0 := Lib.hid (fun x hx => ken0 hc x hx)
  have KENT := Lib.hid (kent0 hc)
  have HMP := Lib.hid (fun (D : DataW Unit) (k : Nat) (h1 : MapLC D (lookC (l.take k))) (h2 : FormToC c l (k + 1)) (hk : k < l.length) => MapLC.put hc h1 h2 hk)
  have HTW := Lib.hid (fun (k : Nat) (hk : k < l.length) => hw _ (List.getElem_mem hk))
  have HFOK := Lib.hid (fun (hf : FormC c l) => formC_ok hf)
  have HKS0 : Hid (Smol s) := Lib.hid (hs0.smol hc)
  have hkey0 := key_of (hs0.smol hc)
  obtain ⟨ks0, hks0⟩ : ∃ x, x = keyS s := ⟨_, rfl⟩
  rw [← hks0] at hkey0
  have HKS : Hid (ks0 = keyS s) := Lib.hid hks0
  clear hks0
  have hmm := @run_makeMap Tryz.prog
  clear kchk ken0 hz h0 hsu h hl hbad hform hnone hent hok0 hs0 hc hw kent0
  have HKF := Lib.hid hkey0
  obtain ⟨lk, hlk⟩ : ∃ lk, lk = lookC l := ⟨_, rfl⟩
  have hlk0 : Hid (lk = lookC l) := Lib.hid hlk
  rw [← hlk] at HN6 HEN 
  obtain ⟨s0, s1, s2, s3, s4⟩ := s
  unfold stV at k1 HKF
  dsimp only at k1 HN6
  have K1 := Lib.hid k1
  clear k1 hlk hkey0
  go_enter Tryz.func11, Tryz.ntmps11
  go_wp2_with (clear tok0; go_at_call 24; refine (K1.out _ HX.out.bel).mono ?_; rintro e w2 ⟨rfl, hb2⟩; have HX2 := Lib.hid (HX.out.below hb2); have HM2 := Lib.hid (AcMC.new (AcC.new HX2.out ⟨s0, s1, s2, s3, s4⟩) (by simp)); clear hb2; have tok1 : True := trivial)
  go_loopw [26] (fun i wr => ∃ (k : Nat) (D : DataW Unit), k ≤ l.length ∧ i = .int .i64 k ∧ Hid (AcMC w wr w2.heap.size (w2.heap.size + 1) k D ⟨s0, s1, s2, s3, s4⟩ c (.slice A c.mdl.bats.length ca) (.slice A1 c.mdl.bows.length ca1) (.slice A2 c.bows.length ca2) (.slice A3 c.ord.length ca3)) ∧ Hid (FormToC c l k) ∧ Hid (MapLC D (lookC (l.take k)))) (fun i _ => l.length - (intOf i).toNat)
  case atStart => exact ⟨0, .map [], Nat.zero_le _, rfl, HM2, Lib.hid (fun i hi hk => by omega), Lib.hid (by rw [List.take_zero]; exact MapLC.none)⟩
  case round =>
    clear HX2 HM2
    obtain ⟨k, D, hk, rfl, HS, HFT, HML⟩ := hrel
    obtain ⟨x0, x1, x2, x3, x4, x5, x6, g0, g1, g2, g3, g4⟩ := HS.out.cells
    have hl1 := HS.out.r.box.lt
    have hl2 := HS.out.r.st.lt
    by_cases hlt : k < l.length
    · obtain ⟨b0, o0, rfl, hbl, yy⟩ := cv_at HL.out (k := k) hlt
      have yy := sixC_below HS.out.r.bel hbl yy
      have kC := KCHK.out k hlt
      have kE := KENT.out k hlt
      have hmp := fun h1 => HMP.out D k HML.out h1 hlt
      have hvb := HTW.out k hlt
      have hnx := fun h1 h2 => formC_step HFT.out hlt h1 h2
      have hbd1 : stateC c l[k].st ≠ 0 → z = 4 := fun h1 => HF4.out fun hf => h1 (hf k hlt).1
      have hbd2 : ∀ h0 : 0 < k, ¬ cmpS (l[k - 1]'(by omega)).st l[k].st < 0 → z = 4 := fun h0 h1 => HF4.out fun hf => h1 ((hf k hlt).2 h0)
      have hpv : ∀ h0 : 0 < k, ∃ b1 o1, (some (⟨b0, o0, none⟩ : Addr)) = some ⟨b1, o1, none⟩ ∧ b1 < w.heap.size ∧ _ := fun h0 => cv_at HL.out (k := k - 1) (by omega)
      have hbl2 : b0 < wr.heap.size := Nat.lt_of_lt_of_le hbl HS.out.r.bel.size
      obtain ⟨y, hy⟩ : ∃ y, y = stateC c l[k].st := ⟨_, rfl⟩
      simp only [← hy] at kC hnx hbd1 kE
      obtain ⟨⟨⟨p0, p1, p2, p3, p4⟩, vv⟩, hp⟩ : ∃ x, x = l[k]'hlt := ⟨_, rfl⟩
      simp only [← hp] at yy kC hnx hbd2 kE hmp hvb
      obtain ⟨kst, hkst⟩ : ∃ x, x = keyS ⟨p0, p1, p2, p3, p4⟩ := ⟨_, rfl⟩
      simp only [← hkst] at kE hmp
      have HME := Lib.hid (HS.out.alloc (.cells #[.int .i64 p0, .int .i64 p1, .int .i64 p2, .int .i64 p3, .int .i64 p4, .int .i64 vv] 32))
      unfold stV at kE
      have HVB := Lib.hid hvb
      have HMP2 := Lib.hid hmp
      have KE := Lib.hid kE
      clear kE hmp hvb hkst HML
      unfold stV at kC
      dsimp only at yy kC hnx hbd2
      have HSE := Lib.hid (HS.out.r.alloc (.cells #[.int .i64 p0, .int .i64 p1, .int .i64 p2, .int .i64 p3, .int .i64 p4, .int .i64 vv] 32))
      have HSR := Lib.hid HSE.out.toAcRC
      have HBE := Lib.hid (Blk.new wr 32 #[.int .i64 p0, .int .i64 p1, .int .i64 p2, .int .i64 p3, .int .i64 p4, .int .i64 vv])
      obtain ⟨y0, y1, y2, y3, y4, y5⟩ := yy
      have KC := Lib.hid kC
      have HNX := Lib.hid hnx
      have HBD1 := Lib.hid hbd1
      have HBD2 := Lib.hid hbd2
      have HPV := Lib.hid hpv
      clear kC hnx hbd1 hbd2 hpv hp hy HFT
      by_cases hy0 : y = 0
      case neg =>
        have HZ := Lib.hid (HBD1.out hy0)
        have HY := Lib.hid hy0
        clear hy0
        go_wp2
        refine wp_region_freeF (dl := [31, 32, 33, 34, 35, 36, 37, 38, 39, 40, 41, 42, 43, 44, 45, 46, 47, 48, 49, 50, 51]) (mask := arCMaskA c (.slice A c.mdl.bats.length ca) (.slice A1 c.mdl.bows.length ca1) (.slice A2 c.bows.length ca2) (.slice A3 c.ord.length ca3) (.slice (some ⟨b0, o0, none⟩) l.length ca4) p0 p1 p2 p3 p4 vv y w.heap.size wr.heap.size k) (T := _ :: _ :: _ :: _ :: _ :: _ :: _ :: _ :: _ :: _ :: _ :: _ :: _ :: _ :: _ :: _ :: _ :: _ :: _ :: _ :: _ :: _ :: _ :: _ :: _ :: _ :: _ :: _ :: _ :: _ :: _ :: _ :: _ :: _ :: _ :: _ :: _ :: _ :: _ :: _ :: _ :: _ :: _ :: _ :: _ :: _ :: _ :: _ :: _ :: _ :: _ :: _ :: _ :: _ :: _ :: _ :: _ :: _ :: _ :: _ :: _ :: _ :: _ :: _ :: _ :: _ :: _ :: _ :: _ :: _ :: _ :: _ :: _ :: _ :: _ :: _ :: _ :: _ :: _ :: _ :: []) (by kernel_rfl : _ = arCOps) (by kernel_rfl) (arC_freeA c (.slice A c.mdl.bats.length ca) (.slice A1 c.mdl.bows.length ca1) (.slice A2 c.bows.length ca2) (.slice A3 c.ord.length ca3) (.slice (some ⟨b0, o0, none⟩) l.length ca4) p0 p1 p2 p3 p4 vv y wr.heap.size k w KC.out HY.out) rfl (by kernel_rfl) (by kernel_rfl) ⟨HSR.out, HBE.out⟩ (fun d hd => by simp only [List.mem_cons, List.not_mem_nil, or_false] at hd; rcases hd with rfl | rfl | rfl | rfl <;> rfl) rfl ?_
        intro wx hgx hbx
        have HGX := Lib.hid hgx
        clear hgx hbx
        go_wp2
        go_ret
        exact ⟨ret_i HZ.out.symm, HGX.out.1.bel⟩
      have HY := Lib.hid hy0
      have HKEY := Lib.hid (KE.out hy0)
      clear hy0
      by_cases hk0 : k = 0
      · have HK0 := Lib.hid hk0
        have HFT2 := Lib.hid (HNX.out HY.out (fun h => by omega))
        have HML2 := Lib.hid (HMP2.out HFT2.out)
        clear hk0
        go_wp2
        refine wp_region_freeF (dl := [31, 32, 33, 34, 35, 36, 37, 38, 39, 40, 41, 42, 43, 44, 45, 46, 47, 48, 49, 50, 51]) (mask := arCMaskB c (.slice A c.mdl.bats.length ca) (.slice A1 c.mdl.bows.length ca1) (.slice A2 c.bows.length ca2) (.slice A3 c.ord.length ca3) (.slice (some ⟨b0, o0, none⟩) l.length ca4) p0 p1 p2 p3 p4 vv y w.heap.size wr.heap.size k) (T := _ :: _ :: _ :: _ :: _ :: _ :: _ :: _ :: _ :: _ :: _ :: _ :: _ :: _ :: _ :: _ :: _ :: _ :: _ :: _ :: _ :: _ :: _ :: _ :: _ :: _ :: _ :: _ :: _ :: _ :: _ :: _ :: _ :: _ :: _ :: _ :: _ :: _ :: _ :: _ :: _ :: _ :: _ :: _ :: _ :: _ :: _ :: _ :: _ :: _ :: _ :: _ :: _ :: _ :: _ :: _ :: _ :: _ :: _ :: _ :: _ :: _ :: _ :: _ :: _ :: _ :: _ :: _ :: _ :: _ :: _ :: _ :: _ :: _ :: _ :: _ :: _ :: _ :: _ :: _ :: []) (by kernel_rfl : _ = arCOps) (by kernel_rfl) (arC_freeB c (.slice A c.mdl.bats.length ca) (.slice A1 c.mdl.bows.length ca1) (.slice A2 c.bows.length ca2) (.slice A3 c.ord.length ca3) (.slice (some ⟨b0, o0, none⟩) l.length ca4) p0 p1 p2 p3 p4 vv y wr.heap.size k w KC.out HY.out HK0.out) rfl (by kernel_rfl) (by kernel_rfl) ⟨HSR.out, HBE.out⟩ (fun d hd => by simp only [List.mem_cons, List.not_mem_nil, or_false] at hd; rcases hd with rfl | rfl | rfl | rfl <;> rfl) rfl ?_
        intro wx hgx hbx
        have HMX := Lib.hid (HME.out.below hbx)
        have HVX := Lib.hid HMX.out.vals
        have HBX := Lib.hid hgx.2
        have u0 : wx.cell? ⟨wr.heap.size, 0, none⟩ = some (.int .i64 p0) := HBX.out.cell 0
        have u1 : wx.cell? ⟨wr.heap.size, 1, none⟩ = some (.int .i64 p1) := HBX.out.cell 1
        have u2 : wx.cell? ⟨wr.heap.size, 2, none⟩ = some (.int .i64 p2) := HBX.out.cell 2
        have u3 : wx.cell? ⟨wr.heap.size, 3, none⟩ = some (.int .i64 p3) := HBX.out.cell 3
        have u4 : wx.cell? ⟨wr.heap.size, 4, none⟩ = some (.int .i64 p4) := HBX.out.cell 4
        have u5 : wx.cell? ⟨wr.heap.size, 5, none⟩ = some (.int .i64 vv) := HBX.out.cell 5
        clear hgx hbx
        go_wp2_with (at_mapUpdate; refine wpList_mapUpdate_own _ rfl _ _ _ 67 rfl 30 2 law44 Tryz.underlying67 _ (w2.heap.size + 1) k D rfl HVX.out (by have hkl := hlt; unfold maxLen; omega) _ _ _ rfl rfl HKEY.out _ [] (plainElem_int Tryz.underlying2 (WalkArith.wf_i64 (by have h9 := HVB.out; omega))) ?_; intro w9 hown9 hgrow9; have HG9 := Lib.hid hgrow9; have HO9 := Lib.hid hown9; clear hgrow9 hown9)
        go_roundw
        case rel => exact ⟨k + 1, _, by omega, by go_num, Lib.hid (HMX.out.into HG9.out HO9.out), HFT2, HML2⟩
        case measure => simp [intOf]; omega
      · have hkp : 0 < k := by omega
        obtain ⟨b1, o1, he1, hbl1, rr⟩ := HPV.out hkp
        obtain ⟨rfl, rfl⟩ : b0 = b1 ∧ o0 = o1 := by injection he1 with h9; injection h9 with h8 h7; exact ⟨h8, h7⟩
        have hb2 := HBD2.out hkp
        have hn2 := fun (h1 : cmpS (l[k - 1]'(by omega)).st ⟨p0, p1, p2, p3, p4⟩ < 0) => HNX.out HY.out (fun _ => h1)
        have kq := fun W => r44_Less (l[k - 1]'(by omega)).st ⟨p0, p1, p2, p3, p4⟩ W
        unfold lessS at kq
        obtain ⟨q, hq⟩ : ∃ q, q = cmpS (l[k - 1]'(by omega)).st ⟨p0, p1, p2, p3, p4⟩ := ⟨_, rfl⟩
        simp only [← hq] at hb2 hn2 kq
        obtain ⟨⟨⟨r0, r1, r2, r3, r4⟩, rv⟩, hr⟩ : ∃ x, x = l[k - 1]'(by omega) := ⟨_, rfl⟩
        simp only [← hr] at rr kq
        unfold stV at kq
        dsimp only at rr kq
        have HRR := Lib.hid rr
        have HB2 := Lib.hid hb2
        have HN2 := Lib.hid hn2
        have HKP := Lib.hid hkp
        clear he1 rr hb2 hn2 hq hr hk0
        by_cases hq0 : q < 0
        · have HFT2 := Lib.hid (HN2.out hq0)
          have HML2 := Lib.hid (HMP2.out HFT2.out)
          rw [decide_eq_true hq0] at kq
          have KQ := Lib.hid kq
          clear hq0 kq
          go_wp2
          refine wp_region_freeF (dl := [31, 32, 33, 34, 35, 36, 37, 38, 39, 40, 41, 42, 43, 44, 45, 46, 47, 48, 49, 50, 51]) (mask := arCMaskD c (.slice A c.mdl.bats.length ca) (.slice A1 c.mdl.bows.length ca1) (.slice A2 c.bows.length ca2) (.slice A3 c.ord.length ca3) p0 p1 p2 p3 p4 vv y w.heap.size wr.heap.size k r0 r1 r2 r3 r4 rv b0 o0 l.length ca4) (T := _ :: _ :: _ :: _ :: _ :: _ :: _ :: _ :: _ :: _ :: _ :: _ :: _ :: _ :: _ :: _ :: _ :: _ :: _ :: _ :: _ :: _ :: _ :: _ :: _ :: _ :: _ :: _ :: _ :: _ :: _ :: _ :: _ :: _ :: _ :: _ :: _ :: _ :: _ :: _ :: _ :: _ :: _ :: _ :: _ :: _ :: _ :: _ :: _ :: _ :: _ :: _ :: _ :: _ :: _ :: _ :: _ :: _ :: _ :: _ :: _ :: _ :: _ :: _ :: _ :: _ :: _ :: _ :: _ :: _ :: _ :: _ :: _ :: _ :: _ :: _ :: _ :: _ :: _ :: _ :: []) (by kernel_rfl : _ = arCOps) (by kernel_rfl) (arC_freeD c (.slice A c.mdl.bats.length ca) (.slice A1 c.mdl.bows.length ca1) (.slice A2 c.bows.length ca2) (.slice A3 c.ord.length ca3) p0 p1 p2 p3 p4 vv y wr.heap.size k r0 r1 r2 r3 r4 rv b0 o0 l.length ca4 w KC.out KQ.out HY.out HKP.out (by omega) hn hbl HRR.out) rfl (by kernel_rfl) (by kernel_rfl) ⟨HSR.out, HBE.out⟩ (fun d hd => by simp only [List.mem_cons, List.not_mem_nil, or_false] at hd; rcases hd with rfl | rfl | rfl | rfl <;> rfl) rfl ?_
          intro wx hgx hbx
          have HMX := Lib.hid (HME.out.below hbx)
          have HVX := Lib.hid HMX.out.vals
          have HBX := Lib.hid hgx.2
          have u0 : wx.cell? ⟨wr.heap.size, 0, none⟩ = some (.int .i64 p0) := HBX.out.cell 0
          have u1 : wx.cell? ⟨wr.heap.size, 1, none⟩ = some (.int .i64 p1) := HBX.out.cell 1
          have u2 : wx.cell? ⟨wr.heap.size, 2, none⟩ = some (.int .i64 p2) := HBX.out.cell 2
          have u3 : wx.cell? ⟨wr.heap.size, 3, none⟩ = some (.int .i64 p3) := HBX.out.cell 3
          have u4 : wx.cell? ⟨wr.heap.size, 4, none⟩ = some (.int .i64 p4) := HBX.out.cell 4
          have u5 : wx.cell? ⟨wr.heap.size, 5, none⟩ = some (.int .i64 vv) := HBX.out.cell 5
          clear hgx hbx
          go_wp2_with (at_mapUpdate; refine wpList_mapUpdate_own _ rfl _ _ _ 67 rfl 30 2 law44 Tryz.underlying67 _ (w2.heap.size + 1) k D rfl HVX.out (by have hkl := hlt; unfold maxLen; omega) _ _ _ rfl rfl HKEY.out _ [] (plainElem_int Tryz.underlying2 (WalkArith.wf_i64 (by have h9 := HVB.out; omega))) ?_; intro w9 hown9 hgrow9; have HG9 := Lib.hid hgrow9; have HO9 := Lib.hid hown9; clear hgrow9 hown9)
          go_roundw
          case rel => exact ⟨k + 1, _, by omega, by go_num, Lib.hid (HMX.out.into HG9.out HO9.out), HFT2, HML2⟩
          case measure => simp [intOf]; omega
        · have HZ := Lib.hid (HB2.out hq0)
          rw [decide_eq_false hq0] at kq
          have KQ := Lib.hid kq
          clear hq0 kq
          go_wp2
          refine wp_region_freeF (dl := [31, 32, 33, 34, 35, 36, 37, 38, 39, 40, 41, 42, 43, 44, 45, 46, 47, 48, 49, 50, 51]) (mask := arCMaskC c (.slice A c.mdl.bats.length ca) (.slice A1 c.mdl.bows.length ca1) (.slice A2 c.bows.length ca2) (.slice A3 c.ord.length ca3) p0 p1 p2 p3 p4 vv y w.heap.size wr.heap.size k r0 r1 r2 r3 r4 rv b0 o0 l.length ca4) (T := _ :: _ :: _ :: _ :: _ :: _ :: _ :: _ :: _ :: _ :: _ :: _ :: _ :: _ :: _ :: _ :: _ :: _ :: _ :: _ :: _ :: _ :: _ :: _ :: _ :: _ :: _ :: _ :: _ :: _ :: _ :: _ :: _ :: _ :: _ :: _ :: _ :: _ :: _ :: _ :: _ :: _ :: _ :: _ :: _ :: _ :: _ :: _ :: _ :: _ :: _ :: _ :: _ :: _ :: _ :: _ :: _ :: _ :: _ :: _ :: _ :: _ :: _ :: _ :: _ :: _ :: _ :: _ :: _ :: _ :: _ :: _ :: _ :: _ :: _ :: _ :: _ :: _ :: _ :: _ :: []) (by kernel_rfl : _ = arCOps) (by kernel_rfl) (arC_freeC c (.slice A c.mdl.bats.length ca) (.slice A1 c.mdl.bows.length ca1) (.slice A2 c.bows.length ca2) (.slice A3 c.ord.length ca3) p0 p1 p2 p3 p4 vv y wr.heap.size k r0 r1 r2 r3 r4 rv b0 o0 l.length ca4 w KC.out KQ.out HY.out HKP.out (by omega) hn hbl HRR.out) rfl (by kernel_rfl) (by kernel_rfl) ⟨HSR.out, HBE.out⟩ (fun d hd => by simp only [List.mem_cons, List.not_mem_nil, or_false] at hd; rcases hd with rfl | rfl | rfl | rfl <;> rfl) rfl ?_
          intro wx hgx hbx
          have HGX := Lib.hid hgx
          clear hgx hbx
          go_wp2
          go_ret
          exact ⟨ret_i HZ.out.symm, HGX.out.1.bel⟩
    · obtain rfl : k = l.length := by omega
      have hf := formC_all HFT.out
      have hn6 := HN6.out hf
      have hen := HEN.out hf
      have hml := HML.out
      rw [List.take_length] at hml
      have hok := HFOK.out hf
      have kva := fun (k : Nat) (hk : k < l.length) W (hW : AcMC w W w2.heap.size (w2.heap.size + 1) l.length D ⟨s0, s1, s2, s3, s4⟩ c (.slice A c.mdl.bats.length ca) (.slice A1 c.mdl.bows.length ca1) (.slice A2 c.bows.length ca2) (.slice A3 c.ord.length ca3)) => KEN0.out l[k] (hok k hk) w2.heap.size (w2.heap.size + 1) l.length ⟨s0, s1, s2, s3, s4⟩ D hml W hW
      rw [← hlk0.out] at hml
      have hhas := hml.has _ HKS0.out
      have hvl := hml.val _ HKS0.out
      rw [← HKS.out] at hhas hvl
      simp only [← hlk0.out] at kva
      obtain ⟨⟨rv, ok⟩, hrv⟩ : ∃ r, r = lk ⟨s0, s1, s2, s3, s4⟩ := ⟨_, rfl⟩
      simp only [← hrv] at hn6 hen hhas hvl
      have KVA := Lib.hid kva
      obtain ⟨N, hN⟩ : ∃ N, N = l.length := ⟨_, rfl⟩
      have HVS := Lib.hid HS.out.vals
      clear hml hok kva hf HFT HML HN6 HEN HF4 HFOK KCHK KENT HMP HTW HKS HKS0 hlk0 KEN0 hrv hN
      have tok2 : True := trivial
      cases ok
      · have HZ := Lib.hid (hn6 rfl)
        have hq2 := fun (W : World) => hhas; clear hq2
        clear hn6 hen hvl
        go_wp2_with (at_lookup; refine wpList_lookup_own_ok_int _ rfl _ _ 67 rfl 30 2 .i64 law44 Tryz.underlying67 Tryz.underlying2 (zero_i64 _) (w2.heap.size + 1) l.length D rfl HVS.out _ _ rfl HKF.out ?_; intro cc hat hwc; clear hat hwc)
        go_ret
        exact ⟨ret_i HZ.out.symm, HS.out.r.bel⟩
      · have HE : Hid (z = entC c lk (l.drop 0)) := hen rfl
        clear hn6 hen hvl
        go_wp2_with (at_lookup; refine wpList_lookup_own_ok_int _ rfl _ _ 67 rfl 30 2 .i64 law44 Tryz.underlying67 Tryz.underlying2 (zero_i64 _) (w2.heap.size + 1) l.length D rfl HVS.out _ _ rfl HKF.out ?_; intro cc hat hwc; clear hat hwc)
        obtain ⟨wo, hwo⟩ : ∃ wo : World, wo = wr := ⟨_, rfl⟩
        subst hwo
        go_loopw [68] (fun i wr => ∃ k : Nat, k ≤ l.length ∧ i = .int .i64 k ∧ Hid (AcMC w wr w2.heap.size (w2.heap.size + 1) l.length D ⟨s0, s1, s2, s3, s4⟩ c (.slice A c.mdl.bats.length ca) (.slice A1 c.mdl.bows.length ca1) (.slice A2 c.bows.length ca2) (.slice A3 c.ord.length ca3)) ∧ Hid (z = entC c lk (l.drop k))) (fun i _ => l.length - (intOf i).toNat)
        case atStart => exact ⟨0, Nat.zero_le _, rfl, HS, HE⟩
        case round =>
          clear x0 x1 x2 x3 x4 x5 x6 g0 g1 g2 g3 g4 HE HS HVS hl1 hl2
          obtain ⟨k, hk, rfl, HS, hzz⟩ := hrel
          obtain ⟨x0, x1, x2, x3, x4, x5, x6, g0, g1, g2, g3, g4⟩ := HS.out.cells
          have hl1 := HS.out.r.box.lt
          have hl2 := HS.out.r.st.lt
          by_cases hlt : k < l.length
          · obtain ⟨b0, o0, rfl, hbl, yy⟩ := cv_at HL.out (k := k) hlt
            have yy := sixC_below HS.out.r.bel hbl yy
            have kV := KVA.out k hlt
            have hst := hzz.out
            rw [entC_at hlt] at hst
            obtain ⟨er, her⟩ : ∃ r, r = entE c lk l[k] := ⟨_, rfl⟩
            simp only [← her] at kV hst
            obtain ⟨⟨⟨p0, p1, p2, p3, p4⟩, vv⟩, hp⟩ : ∃ x, x = l[k]'hlt := ⟨_, rfl⟩
            simp only [← hp] at yy kV hst
            try dsimp only at yy kV
            have HSE := Lib.hid (HS.out.alloc (.cells #[.int .i64 p0, .int .i64 p1, .int .i64 p2, .int .i64 p3, .int .i64 p4, .int .i64 vv] 32))
            have HBE := Lib.hid (Blk.new wr 32 #[.int .i64 p0, .int .i64 p1, .int .i64 p2, .int .i64 p3, .int .i64 p4, .int .i64 vv])
            obtain ⟨y0, y1, y2, y3, y4, y5⟩ := yy
            have KV := Lib.hid kV
            clear kV her hp hzz
            have tok5 : True := trivial
            by_cases he0 : er = 0
            · rw [if_neg (by simpa using he0)] at hst
              have HZ := Lib.hid hst
              have e5 : (er != 0) = false := by simp [he0]
              clear hst he0
              go_wp2_with (clear tok5; go_at_call 33; refine (KV.out _ HSE.out).mono ?_; rintro e w6 ⟨rfl, hb6⟩; have HS6 := Lib.hid (HSE.out.below hb6); clear x0 x1 x2 x3 x4 x5 x6 g0 g1 g2 g3 g4 hl1 hl2; obtain ⟨x0, x1, x2, x3, x4, x5, x6, g0, g1, g2, g3, g4⟩ := HS6.out.cells; clear hb6; have tok6 : True := trivial)
              go_roundw
              case rel => exact ⟨k + 1, by omega, by go_num, HS6, HZ⟩
              case measure => simp [intOf]; omega
            · rw [if_pos he0] at hst
              have HZ := Lib.hid hst
              have e5 : (er != 0) = true := by simp [he0]
              clear hst he0
              go_wp2_with (clear tok5; go_at_call 33; refine (KV.out _ HSE.out).mono ?_; rintro e w6 ⟨rfl, hb6⟩; have HS6 := Lib.hid (HSE.out.below hb6); clear x0 x1 x2 x3 x4 x5 x6 g0 g1 g2 g3 g4 hl1 hl2; obtain ⟨x0, x1, x2, x3, x4, x5, x6, g0, g1, g2, g3, g4⟩ := HS6.out.cells; clear hb6; have tok6 : True := trivial)
              go_ret
              exact ⟨ret_i HZ.out.symm, HS6.out.r.bel⟩
          · obtain rfl : k = l.length := by omega
            have hz2 := hzz.out
            rw [List.drop_of_length_le (Nat.le_refl _), entC] at hz2
            have HZ := Lib.hid hz2
            clear hzz hz2
            go_wp2
            go_ret
            exact ⟨ret_i HZ.out.symm, HS.out.r.bel⟩
end Go.Proofs.YtdlmmbfnmnglaaaGreatDoor

namespace Go.Proofs.YtdlmmbfnmnglaaaGreatDoor
open Go.RowKit Go.Maps

def leC (x y : Cve) : Bool := !(lessS y.st x.st)
theorem leC_iff {x y : Cve} : leC x y = true ↔ ¬ cmpS y.st x.st < 0 := by unfold leC lessS; simp
theorem leC_trans (x y z : Cve) (h1 : leC x y = true) (h2 : leC y z = true) : leC x z = true := by
  rw [leC_iff, lessS_iff] at *
  omega
theorem leC_total (x y : Cve) : (leC x y || leC y x) = true := by
  rw [Bool.or_eq_true, leC_iff, leC_iff, lessS_iff, lessS_iff]
  omega
theorem cmpS_irr (s : Cst) : ¬ cmpS s s < 0 := by rw [cmpS_eq.2 rfl]; omega
theorem strictC_pair {l : List Cve} : StrictC l ↔ l.Pairwise fun x y => cmpS x.st y.st < 0 := by
  rw [List.pairwise_iff_getElem]; exact Iff.rfl
theorem strictC_of {l : List Cve} (h : l.Pairwise fun x y => leC x y = true) (hn : l.Pairwise fun x y => x.st ≠ y.st) : StrictC l := by
  rw [strictC_pair]
  refine (h.and hn).imp fun {x y} ⟨h1, h2⟩ => ?_
  rw [leC_iff] at h1
  rcases cmpS_total h2 with h3 | h3
  · exact h3
  · exact absurd h3 h1
theorem strictC_one : ∀ {a b : List Cve}, (a.Pairwise fun x y => cmpS x.st y.st < 0) → (b.Pairwise fun x y => cmpS x.st y.st < 0) → (∀ e, e ∈ a ↔ e ∈ b) → a = b
  | [], [], _, _, _ => rfl
  | [], y :: b, _, _, h => by have := (h y).2 (by simp); cases this
  | x :: a, [], _, _, h => by have := (h x).1 (by simp); cases this
  | x :: a, y :: b, h1, h2, h => by
    rw [List.pairwise_cons] at h1 h2
    have hxy : x = y := by
      have k1 := (h x).1 (by simp)
      have k2 := (h y).2 (by simp)
      rcases List.mem_cons.1 k1 with k1 | k1
      · exact k1
      rcases List.mem_cons.1 k2 with k2 | k2
      · exact k2.symm
      exact absurd (cmpS_trans (h2.1 x k1) (h1.1 y k2)) (cmpS_irr _)
    subst hxy
    rw [strictC_one h1.2 h2.2 fun e => ⟨fun he => ?_, fun he => ?_⟩]
    · rcases List.mem_cons.1 ((h e).1 (List.mem_cons_of_mem _ he)) with k | k
      · subst k; exact absurd (h1.1 e he) (cmpS_irr _)
      · exact k
    · rcases List.mem_cons.1 ((h e).2 (List.mem_cons_of_mem _ he)) with k | k
      · subst k; exact absurd (h2.1 e he) (cmpS_irr _)
      · exact k
/-- The table of a chase. -/
def TabIsC (c : Chs) (r : Cst) (l : List Cve) : Prop := StrictC l ∧ ∀ e, e ∈ l ↔ (ReachC c r e.st ∧ e.val = valS c e.st)
theorem TabIsC.one {c : Chs} {r : Cst} {a b : List Cve} (h : TabIsC c r a) (k : TabIsC c r b) : a = b := strictC_one (strictC_pair.1 h.1) (strictC_pair.1 k.1) fun e => (h.2 e).trans (k.2 e).symm
theorem nextsC_ok {c : Chs} (hc : OkC c) {s x : Cst} (hs : OkS c s) (hx : x ∈ nextsC c s) : OkS c x := by
  by_cases h1 : stC c s = 1
  · rw [nextsC_run h1] at hx
    obtain ⟨o, ho, rfl⟩ := List.mem_map.1 hx
    obtain ⟨_, _, _, _, _, _, _, _, _, _, _, _, _, _, _, hd⟩ := mvC_at hc hs h1
    exact (stepC_ok hc hs h1 ((checkD_ok hd).each o ho).r0).1
  · rw [nextsC_end h1] at hx; cases hx
theorem ReachC.ok {c : Chs} (hc : OkC c) {r s : Cst} (hr : OkS c r) (h : ReachC c r s) : OkS c s := h (OkS c) hr fun s x hs hx => nextsC_ok hc hs hx
theorem valS_48 {c : Chs} (hc : OkC c) {s : Cst} (hs : OkS c s) : 0 ≤ valS c s ∧ valS c s ≤ 281474976710656 := by
  have h1 := valS_bd hc hs
  have h2 := (pow16_le (left_le hc hs)).2
  omega
theorem TabIsC.w {c : Chs} (hc : OkC c) {r : Cst} (hr : OkS c r) {l : List Cve} (h : TabIsC c r l) : TabWC l := fun x hx => by
  obtain ⟨h1, h2⟩ := (h.2 x).1 hx
  have := valS_48 hc (h1.ok hc hr)
  exact ⟨by omega, by omega⟩
theorem TabIsC.look {c : Chs} {r : Cst} {l : List Cve} (h : TabIsC c r l) {t : Cst} (ht : ReachC c r t) : lookC l t = (valS c t, true) := by
  have hm := (h.2 ⟨t, valS c t⟩).2 ⟨ht, rfl⟩
  cases hb : (lookC l t).2
  · unfold lookC at hb
    cases hf : l.find? (fun x => (cmpS x.st t == 0)) with
    | some x => rw [hf] at hb; cases hb
    | none =>
      have := List.find?_eq_none.1 hf _ hm
      exact absurd (by rw [beq_iff_eq]; exact cmpS_eq.2 rfl) this
  · obtain ⟨x, hx, e, e2⟩ := lookC_mem hb
    rw [e2, ((h.2 x).1 hx).2, e]
theorem wrapC_in {n : Int} (h : -9223372036854775808 ≤ n ∧ n < 9223372036854775808) : wrap64 n = n := by unfold wrap64; omega
theorem runLC_exact {g : Cst → Int} {lk : Cst → Int × Bool} {f : Otc → Cst} : ∀ (l : List Otc) (v : Int) (m : Nat), l.length ≤ m → m ≤ 16 → (∀ o ∈ l, lk (f o) = (g (f o), true)) → (∀ o ∈ l, 0 ≤ o.wt * g (f o) ∧ o.wt * g (f o) ≤ 281474976710656) → 0 ≤ v → v ≤ 281474976710656 * (16 - m : Nat) → runLC lk f l v = (v + sumI (l.map fun o => o.wt * g (f o)), true)
  | [], v, m, _, _, _, _, _, _ => by rw [runLC]; simp [sumI]
  | o :: l, v, m, hm, h16, hk, hb, h0, h1 => by
    have hx := hk o (by simp)
    have hbx := hb o (by simp)
    cases m with
    | zero => simp at hm
    | succ m =>
      have h2 : 281474976710656 * ((16 - (m + 1) : Nat) : Int) + 281474976710656 = 281474976710656 * ((16 - m : Nat) : Int) := by
        have : 16 - m = (16 - (m + 1)) + 1 := by omega
        rw [this]; push_cast; omega
      have h3 : ((16 - (m + 1) : Nat) : Int) ≤ 16 := by omega
      rw [runLC, hx, if_pos rfl]
      dsimp only
      rw [wrapC_in (n := o.wt * g (f o)) (by omega), wrapC_in (n := v + o.wt * g (f o)) (by omega), runLC_exact l _ m (by simpa using hm) (by omega) (fun z hz => hk z (by simp [hz])) (fun z hz => hb z (by simp [hz])) (by omega) (by omega)]
      rw [List.map_cons, sumI_cons, Int.add_assoc]
theorem TabIsC.val {c : Chs} (hc : OkC c) {r : Cst} (hr : OkS c r) {l : List Cve} (h : TabIsC c r l) {s : Cst} (hs : ReachC c r s) : valLC c (lookC l) s = (valS c s, true) := by
  have hok := hs.ok hc hr
  unfold valLC
  by_cases h1 : stC c s = 1
  · rw [if_pos h1]
    obtain ⟨_, _, _, _, _, _, _, _, _, _, _, _, _, _, _, hd⟩ := mvC_at hc hok h1
    have hd2 := checkD_ok hd
    have hnx : ∀ o ∈ mvC c s, stepC c s o ∈ nextsC c s := fun o ho => by rw [nextsC_run h1]; exact List.mem_map.2 ⟨o, ho, rfl⟩
    rw [runLC_exact (g := valS c) _ 0 16 hd2.len.2 (Nat.le_refl _) (fun o ho => h.look (hs.next _ (hnx o ho))) (fun o ho => ?_) (Int.le_refl _) (by decide), valS_run hc hok h1, Int.zero_add]
    obtain ⟨_, _, n, hn, hn2⟩ := left_run hok h1
    have h12 := left_le hc hok
    have hl := left_step hc hok h1 (o := o) (hd2.each o ho).r0
    have hv := valS_bd hc (nextsC_ok hc hok (hnx o ho))
    rw [show leftC c (stepC c s o) = n by omega] at hv
    have hp : pow16 n ≤ 17592186044416 := by
      have h2 := (pow16_le (n := n + 1) (by omega)).2
      rw [pow16] at h2; omega
    have w1 := (hd2.each o ho).w1
    have w2 := (hd2.each o ho).w16
    refine ⟨Int.mul_nonneg (by omega) hv.1, ?_⟩
    have := Int.mul_le_mul w2 (Int.le_trans hv.2 hp) hv.1 (by omega)
    omega
  · rw [if_neg h1]
/-- What has been collected out of a map, in any order: each key that has come, once. -/
structure CollC (D : DataW Unit) (left : Lit → Bool) (l : List Cve) : Prop where
  has : ∀ e ∈ l, Maps.has D (keyS e.st) = true ∧ left (keyS e.st) = false ∧ Smol e.st ∧ D.atKey (keyS e.st) (.lit (.int .i64 0)) = .lit (.int .i64 e.val)
  all : ∀ s, Smol s → Maps.has D (keyS s) = true → left (keyS s) = false → ∃ e ∈ l, e.st = s
  one : l.Pairwise fun x y => x.st ≠ y.st
theorem CollC.start (D : DataW Unit) : CollC D (Maps.has D) [] := ⟨fun e he => (by cases he), fun s _ h1 h2 => (by rw [h1] at h2; cases h2), List.Pairwise.nil⟩
theorem CollC.step {D : DataW Unit} {left : Lit → Bool} {l : List Cve} (h : CollC D left l) {e : Cve} (h1 : Maps.has D (keyS e.st) = true) (h2 : left (keyS e.st) = true) (h3 : Smol e.st) (h4 : D.atKey (keyS e.st) (.lit (.int .i64 0)) = .lit (.int .i64 e.val)) :
    CollC D (fun z => left z && !z.sameKey (keyS e.st)) (l ++ [e]) := by
  refine ⟨fun x hx => ?_, fun s hs hh hl => ?_, ?_⟩
  · rcases List.mem_append.1 hx with hx | hx
    · obtain ⟨k1, k2, k3, k4⟩ := h.has x hx
      exact ⟨k1, by rw [k2]; rfl, k3, k4⟩
    · simp at hx; subst hx
      exact ⟨h1, by rw [WideAt.sameKey_self (key_lit _)]; simp, h3, h4⟩
  · cases hc : left (keyS s)
    · obtain ⟨x, hx, e2⟩ := h.all s hs hh hc
      exact ⟨x, List.mem_append.2 (.inl hx), e2⟩
    · rw [hc] at hl
      by_cases e2 : e.st = s
      · exact ⟨e, by simp, e2⟩
      · exfalso
        have : (keyS s).sameKey (keyS e.st) = false := Go.Maps.sameKey_ne fun e3 => e2 (key_inj h3 hs e3.symm)
        rw [this] at hl; cases hl
  · rw [List.pairwise_append]
    refine ⟨h.one, List.pairwise_singleton _ _, fun x hx y hy => ?_⟩
    simp at hy; subst hy
    intro e2
    obtain ⟨_, k2, _, _⟩ := h.has x hx
    rw [e2, h2] at k2; cases k2
/-- Sorted, it is the table. -/
theorem coll_tabC {c : Chs} (hc : OkC c) {r : Cst} (hr : OkS c r) {D : DataW Unit} {left : Lit → Bool} {l l' : List Cve} (h : CollC D left l) (hl : ∀ kl, left kl = false) (hk : Known c r D) (hop : Maps.has D (keyS r) = true)
    (hp : l'.Perm l) (hs : l'.Pairwise fun x y => leC x y = true) : TabIsC c r l' := by
  refine ⟨strictC_of hs ((hp.pairwise_iff fun {x y} h => fun e => h e.symm).2 h.one), fun e => ?_⟩
  rw [hp.mem_iff]
  constructor
  · intro he
    obtain ⟨k1, _, k3, k4⟩ := h.has e he
    obtain ⟨s, e1, e2, e3⟩ := hk.sub _ k1
    have := key_inj k3 (e2.smol hc) e1
    subst this
    refine ⟨e3, ?_⟩
    have := (hk.val _ e2 k1).symm.trans k4
    injection this with this
    injection this with _ this
    exact this.symm
  · rintro ⟨h1, h2⟩
    have hh : OkS c e.st ∧ Maps.has D (keyS e.st) = true := h1 (fun s => OkS c s ∧ Maps.has D (keyS s) = true) ⟨hr, hop⟩ fun s x hs hx => ⟨nextsC_ok hc hs.1 hx, hk.clo s hs.1 hs.2 _ hx⟩
    obtain ⟨x, hx, e2⟩ := h.all e.st (hh.1.smol hc) hh.2 (hl _)
    obtain ⟨k1, _, _, k4⟩ := h.has x hx
    rw [e2, hk.val _ hh.1 hh.2] at k4
    injection k4 with k4
    injection k4 with _ k4
    obtain ⟨xs, xv⟩ := x
    obtain ⟨es, ev⟩ := e
    dsimp only at e2 k4 h2 hx
    rw [e2, ← k4, ← h2] at hx
    exact hx
end Go.Proofs.YtdlmmbfnmnglaaaGreatDoor

namespace Go.Proofs.YtdlmmbfnmnglaaaGreatDoor
open Go.RowKit

theorem list_ex {α β : Type} : ∀ {l : List α} {p : Nat → α → β → Prop}, (∀ i a, l[i]? = some a → ∃ c, p i a c) → ∃ cs : List β, cs.length = l.length ∧ ∀ i a, l[i]? = some a → ∃ c, cs[i]? = some c ∧ p i a c
  | [], _, _ => ⟨[], rfl, fun i a h => by simp at h⟩
  | x :: l, p, h => by
    obtain ⟨c, hc⟩ := h 0 x rfl
    obtain ⟨cs, h1, h2⟩ := list_ex (l := l) (p := fun i => p (i + 1)) fun i a hi => h (i + 1) a (by simpa using hi)
    refine ⟨c :: cs, by simp [h1], fun i a hi => ?_⟩
    cases i with
    | zero => simp at hi; subst hi; exact ⟨c, rfl, hc⟩
    | succ i => simpa using h2 i a (by simpa using hi)
theorem flat_lenF {css : List (List Value)} {size : Nat} (h : ∀ cs ∈ css, cs.length = size) : css.flatten.length = css.length * size := by
  induction css with
  | nil => simp
  | cons c css ih => rw [List.flatten_cons, List.length_append, h c (by simp), ih fun cs hc => h cs (by simp [hc]), List.length_cons, Nat.add_mul]; omega
theorem wpList_append_sls {P : Program} (w : World) {ops : Array Oper} {rest : List Oper} {o : Oper} {a : Act} {Q : Exit → Act → World → Prop} (hgd : o.guard = none) (s x : Operand) (t : TypeId)
    (ho : o.op = .call { callee := .builtin .append, args := #[s, x], argTypes := #[t, t] })
    {e : TypeId} {size bytes : Nat} (hE : ElemOf P t e size bytes) {α : Type} {R : World → (Nat → Prop) → List Value → α → Prop} (hR : Good R)
    (hfree : ∀ (w : World) (F G : Nat → Prop) (cs : List Value) (a : α), R w F cs a → R w G cs a) (hone : ∀ (w : World) (F : Nat → Prop) (cs : List Value) (a : α), R w F cs a → ∀ u ∈ cs, u.oneCell' = true)
    (base : Nat) (v : Value) (l : List α) (hs : a.eval s = v) (hown : OwnSl size R e base w v l)
    (F : Nat → Prop) (ad : Addr) (c : Nat) (l2 : List α) (hx : a.eval x = .slice (some ad) l2.length c) (hsl : Sl size R w F (.slice (some ad) l2.length c) l2)
    (h63 : l.length + l2.length ≤ maxLen) (hbytes : (l.length + l2.length) * bytes ≤ 140737488355328) (hbase : base ≤ w.heap.size)
    (h : ∀ v' w', OwnSl size R e base w' v' (l ++ l2) → w.grownBy w' v.ownBlock → (v'.ownBlock = v.ownBlock ∨ v'.ownBlock = some w.heap.size) → wpList P ops Q rest (a.put o.dst v') w') : wpList P ops Q (o :: rest) a w := by
  obtain ⟨i, z, e1, e2, e3, e4, e5, e6, e7⟩ := hE
  obtain ⟨css, hlen, ho', hsz, hel'⟩ := hown
  have hcs : ∃ css2 : List (List Value), css2.length = l2.length ∧ ∀ i a, l2[i]? = some a → ∃ cs, css2[i]? = some cs ∧ (cs.length = size ∧ (∀ j u, cs[j]? = some u → w.cell? (ad.add (i * size + j)) = some u) ∧ R w F cs a) := by
    obtain ⟨A, c', hv, _, _, hA⟩ := hsl
    injection hv with hv1 hv2 hv3
    subst hv1
    refine list_ex fun i a hi => ?_
    obtain ⟨b, off, hAe, _, hcell⟩ := hA (by have := (List.getElem?_eq_some_iff.1 hi).1; omega)
    obtain rfl := Option.some.inj hAe
    obtain ⟨cs, k1, k2, k3⟩ := hcell i a hi
    refine ⟨cs, k1, fun j u hj => ?_, k3⟩
    have := k2 j u hj
    rw [Addr.add_lit, ← Nat.add_assoc]; exact this
  obtain ⟨css2, hl2, hc2⟩ := hcs
  have hsz2 : ∀ cs ∈ css2, cs.length = size := fun cs hcs => by
    obtain ⟨i, hi, rfl⟩ := List.getElem_of_mem hcs
    obtain ⟨cs', k1, k2, _⟩ := hc2 i l2[i] (List.getElem?_eq_getElem (by omega))
    rw [List.getElem?_eq_getElem hi] at k1
    rw [Option.some.inj k1]; exact k2
  have hnl : css2.flatten.length = l2.length * size := by rw [flat_lenF hsz2, hl2]
  have hsize : 0 < size := e7
  have hget : ∀ (j : Nat) (u : Value), css2.flatten[j]? = some u → ∃ (i : Nat) (r : Nat) (a : α) (cs : List Value), j = i * size + r ∧ l2[i]? = some a ∧ css2[i]? = some cs ∧ cs[r]? = some u := fun j u hj => by
    have hjl := (List.getElem?_eq_some_iff.1 hj).1
    rw [hnl] at hjl
    have hi : j / size < l2.length := Nat.div_lt_of_lt_mul (by rw [Nat.mul_comm]; exact hjl)
    obtain ⟨cs, k1, k2, _⟩ := hc2 (j / size) l2[j / size] (List.getElem?_eq_getElem hi)
    have hr : j % size < cs.length := by rw [k2]; exact Nat.mod_lt _ hsize
    have hdm : j = j / size * size + j % size := by rw [Nat.mul_comm]; exact (Nat.div_add_mod j size).symm
    have hf := flatten_get hsz2 k1 (List.getElem?_eq_getElem hr)
    rw [← hdm, hj] at hf
    exact ⟨j / size, j % size, _, cs, hdm, List.getElem?_eq_getElem hi, k1, by rw [List.getElem?_eq_getElem hr]; exact hf.symm⟩
  obtain ⟨v', w', hr, h2, h3, _, h4⟩ := run_append_own_at (P := P) w base t o.type e i z size bytes e1 e2 e3 e4 e5 e6 e7 v l.length css.flatten ho' ad l2.length c css2.flatten hnl (fun j u hj => by
      obtain ⟨i, r, a, cs, rfl, k1, k2, k3⟩ := hget j u hj
      obtain ⟨cs', g1, _, g2, _⟩ := hc2 i a k1
      rw [k2] at g1; obtain rfl := Option.some.inj g1
      exact g2 r u k3) (fun u hu => by
      obtain ⟨j, hj, rfl⟩ := List.getElem_of_mem hu
      obtain ⟨i, r, a, cs, _, k1, k2, k3⟩ := hget j _ (List.getElem?_eq_getElem hj)
      obtain ⟨cs', g1, _, _, g3⟩ := hc2 i a k1
      rw [k2] at g1; obtain rfl := Option.some.inj g1
      exact hone _ _ _ _ g3 _ (List.mem_of_getElem? k3)) h63 hbytes hbase
  refine wpList_plain hgd fun K hK => ?_
  unfold Oper.wp execOp
  simp only [ho, resolve, invoke, builtin, Sem.run_bind, Sem.run_pure, Result.andThen_ok, List.map_toArray, List.map_cons, List.map_nil, hs, hx, hr]
  refine hK _ _ (h v' w' ⟨css ++ css2, by simp [hlen, hl2], by rw [List.flatten_append, List.length_append]; exact h2, fun cs hc => ?_, fun i a cs h5 h6 => ?_⟩ h3 h4)
  · rcases List.mem_append.1 hc with hc | hc
    · exact hsz cs hc
    · exact hsz2 cs hc
  · by_cases hi : i < l.length
    · rw [List.getElem?_append_left hi] at h5
      rw [List.getElem?_append_left (by omega)] at h6
      exact hR.keep (hel' i a cs h5 h6) (fun b hb => hb.elim) fun b hb => hb.elim
    · rw [List.getElem?_append_right (by omega)] at h5
      rw [List.getElem?_append_right (by omega), hlen] at h6
      obtain ⟨cs', g1, _, _, g3⟩ := hc2 (i - l.length) a h5
      rw [h6] at g1; obtain rfl := Option.some.inj g1
      exact hR.keep (hfree _ _ NoG _ _ g3) (fun b hb => hb.elim) fun b hb => hb.elim
end Go.Proofs.YtdlmmbfnmnglaaaGreatDoor

namespace Go.Proofs.YtdlmmbfnmnglaaaGreatDoor
open Go.RowKit Go.Maps

theorem E_cv : ElemOf Tryz.prog 35 32 6 48 := ElemOf.mk (z := .agg #[.int .i64 0, .int .i64 0, .int .i64 0, .int .i64 0, .int .i64 0, .int .i64 0]) Tryz.underlying35 (by kernel_rfl) rfl (by decide)
theorem elCv_free (w : World) (F G : Nat → Prop) (cs : List Value) (a : Cve) (h : elCv w F cs a) : elCv w G cs a := h
theorem elCv_one (w : World) (F : Nat → Prop) (cs : List Value) (a : Cve) (h : elCv w F cs a) : ∀ u ∈ cs, u.oneCell' = true := by
  have h : cs = _ := h
  subst h
  exact oneCells rfl
theorem Sl.dropC {α : Type} {size : Nat} {R : World → (Nat → Prop) → List Value → α → Prop} {w : World} {F : Nat → Prop} {b o n c k : Nat} {l : List α} (h : Sl size R w F (.slice (some ⟨b, o, none⟩) n c) l) (hk : k ≤ l.length) : Sl size R w F (.slice (some ⟨b, o + k * size, none⟩) (l.length - k) (c - k)) (l.drop k) := by
  obtain ⟨A, c', hv, h1, h2, h3⟩ := h
  injection hv with hv1 hv2 hv3
  subst hv1 hv3
  refine ⟨_, c - k, by rw [List.length_drop], by rw [List.length_drop]; omega, by omega, fun h0 => ?_⟩
  rw [List.length_drop] at h0
  obtain ⟨b', o', e1, e2, e3⟩ := h3 (by omega)
  have e1 := Option.some.inj e1
  injection e1 with e4 e5
  subst e4 e5
  refine ⟨b, o + k * size, rfl, e2, fun i a hi => ?_⟩
  rw [List.getElem?_drop] at hi
  obtain ⟨cs, g1, g2, g3⟩ := e3 (k + i) a hi
  refine ⟨cs, g1, fun j u hj => ?_, g3⟩
  have := g2 j u hj
  rw [show o + k * size + i * size + j = o + (k + i) * size + j by rw [Nat.add_mul]; omega]
  exact this
theorem base2C {B : Nat} {W : World} (h : B ≤ W.heap.size) (o : Obj) : B ≤ (W.alloc o).heap.size := by simp; omega
/-- The first entry of a row. -/
theorem cv_head {w : World} {F : Nat → Prop} {A : Option Addr} {n c : Nat} {x : Cve} {l : List Cve} (h : Sl 6 elCv w F (.slice A n c) (x :: l)) :
    ∃ b o, A = some ⟨b, o, none⟩ ∧ F b ∧ w.cell? ⟨b, o, none⟩ = some (.int .i64 x.st.ball) ∧ w.cell? ⟨b, o + 1, none⟩ = some (.int .i64 x.st.need) ∧ w.cell? ⟨b, o + 2, none⟩ = some (.int .i64 x.st.str) ∧ w.cell? ⟨b, o + 3, none⟩ = some (.int .i64 x.st.par) ∧ w.cell? ⟨b, o + 4, none⟩ = some (.int .i64 x.st.nxt) ∧ w.cell? ⟨b, o + 5, none⟩ = some (.int .i64 x.val) := by
  obtain ⟨b, o, e, f, yy⟩ := cv_at h (k := 0) (by simp)
  simp only [Nat.zero_mul, Nat.add_zero, List.getElem_cons_zero] at yy
  exact ⟨b, o, e, f, yy⟩
theorem tailCv {w : World} {F : Nat → Prop} {b o n c : Nat} {x : Cve} {l : List Cve} (h : Sl 6 elCv w F (.slice (some ⟨b, o, none⟩) n c) (x :: l)) : Sl 6 elCv w F (.slice (some ⟨b, if c = 1 then o else o + 6, none⟩) l.length (c - 1)) l := by
  by_cases hc : c = 1
  · obtain ⟨A, c', hv, h1, h2, _⟩ := h
    injection hv with _ _ hv3
    subst hv3
    have hl : l.length = 0 := by simp at h1; omega
    exact ⟨_, c - 1, rfl, by omega, by omega, fun h0 => by omega⟩
  · rw [if_neg hc]
    have := h.dropC (k := 1) (by simp)
    simpa using this
theorem own_baseC {W : World} {v : Value} {l : List Cve} {B B' : Nat} (hB : B ≤ B') (h : OwnSl 6 elCv 32 B' W v l) : OwnSl 6 elCv 32 B W v l := by
  obtain ⟨css, h1, ⟨k1, k2⟩, h3, h4⟩ := h
  refine ⟨css, h1, ⟨k1, ?_⟩, h3, h4⟩
  rcases k2 with k2 | ⟨g, cap, cur, e1, e2, e3⟩
  · exact .inl k2
  · exact .inr ⟨g, cap, cur, e1, Nat.le_trans hB e2, e3⟩
/-- What merge hands back. -/
def MrgPostC (w : World) (v : Value) (l : List Cve) (e : Ending) (w' : World) : Prop :=
  ∃ A n c l', e = .returned (.slice A n c) ∧ Below w.heap.size w w' ∧ l'.Perm l ∧ (l'.Pairwise fun x y => leC x y = true) ∧ ((l' = l ∧ .slice A n c = v) ∨ OwnSl 6 elCv 32 w.heap.size w' (.slice A n c) l')
theorem MrgPostC.sl {w w' : World} {v : Value} {l : List Cve} {e : Ending} (h : MrgPostC w v l e w') {F : Nat → Prop} (hl : Sl 6 elCv w F v l) (hF : ∀ b, F b → b < w.heap.size) : ∃ A c l', e = .returned (.slice A l'.length c) ∧ Below w.heap.size w w' ∧ l'.Perm l ∧ (l'.Pairwise fun x y => leC x y = true) ∧ l'.length = l.length ∧ Sl 6 elCv w' (· < w'.heap.size) (.slice A l'.length c) l' := by
  obtain ⟨A, n, c, l', rfl, hb, hp, hs, hv⟩ := h
  have hsl : Sl 6 elCv w' (· < w'.heap.size) (.slice A n c) l' := by
    rcases hv with ⟨rfl, rfl⟩ | hv
    · exact hl.keep elCv_good (Same.below hb hF) fun b h => Nat.lt_of_lt_of_le (hF b h) hb.size
    · exact (OwnSl.sl elCv_good hv).keep elCv_good (Same.refl _ _) fun b h => h.2
  obtain ⟨A', c', e1, _, _⟩ := hsl.shape
  injection e1 with e2 e3 e4
  subst e3
  exact ⟨A, c, l', rfl, hb, hp, hs, hp.length_eq, hsl⟩
/-- The merging of two rows under way. -/
structure MgC (w wS W : World) (la lb out : List Cve) (va vb vo : Value) (Z : List Cve) : Prop where
  base : Below w.heap.size w wS
  bel : Below wS.heap.size wS W
  a : Sl 6 elCv wS (· < wS.heap.size) va la
  b : Sl 6 elCv wS (· < wS.heap.size) vb lb
  o : OwnSl 6 elCv 32 wS.heap.size W vo out
  eq : out ++ List.merge la lb leC = Z
section
variable {w wS W W' : World} {la lb out Z : List Cve} {va vb vo v' : Value} {x : Cve}
theorem MgC.below (h : MgC w wS W la lb out va vb vo Z) (hb : Below W.heap.size W W') : MgC w wS W' la lb out va vb vo Z := ⟨h.base, h.bel.trans (hb.mono h.bel.size), h.a, h.b, h.o.below elCv_good hb, h.eq⟩
theorem MgC.app_a {v2 : Value} (h : MgC w wS W (x :: la) lb out va vb vo Z) (hle : lb ≠ [] → ∀ y t, lb = y :: t → leC x y = true) (ho : OwnSl 6 elCv 32 wS.heap.size W' v' (out ++ [x])) (hg : W.grownBy W' vo.ownBlock) (h2 : Sl 6 elCv wS (· < wS.heap.size) v2 la) : MgC w wS W' la lb (out ++ [x]) v2 vb v' Z := by
  refine ⟨h.base, below_own h.bel h.o hg (Nat.le_refl _) h.bel.size, h2, h.b, ho, ?_⟩
  rw [← h.eq]
  cases lb with
  | nil => simp
  | cons y t => rw [List.cons_merge_cons_pos _ _ _ (hle (by simp) y t rfl)]; simp
theorem MgC.app_b {v2 : Value} {y : Cve} (h : MgC w wS W (x :: la) (y :: lb) out va vb vo Z) (hle : ¬ leC x y = true) (ho : OwnSl 6 elCv 32 wS.heap.size W' v' (out ++ [y])) (hg : W.grownBy W' vo.ownBlock) (h2 : Sl 6 elCv wS (· < wS.heap.size) v2 lb) : MgC w wS W' (x :: la) lb (out ++ [y]) va v2 v' Z := by
  refine ⟨h.base, below_own h.bel h.o hg (Nat.le_refl _) h.bel.size, h.a, h2, ho, ?_⟩
  rw [← h.eq, List.cons_merge_cons_neg _ _ _ hle]; simp
end
def lenVC : Value → Nat
  | .slice _ n _ => n
  | _ => 0
theorem half_ltC {n : Nat} (h : 2 ≤ n) : n / 2 < n ∧ n - n / 2 < n ∧ 0 < n / 2 := by omega
set_option maxRecDepth 100000 in
set_option maxHeartbeats 8000000 in
theorem r44_merge_at (m : Nat) (ih : ∀ k, k < m → ∀ (l : List Cve), l.length = k → ∀ (v : Value) (F : Nat → Prop) (w : World), Sl 6 elCv w F v l → (∀ b, F b → b < w.heap.size) → l.length ≤ 1000000000000 → Calls Tryz.prog 67 #[v] w (MrgPostC w v l)) (l : List Cve) (hm : l.length = m) (v : Value) (F : Nat → Prop) (w : World) (h : Sl 6 elCv w F v l) (hF : ∀ b, F b → b < w.heap.size) (hn : l.length ≤ 1000000000000) :
    Calls Tryz.prog 67 #[v] w (MrgPostC w v l) := by
  by_cases h2 : l.length < 2
  · have hsort : l.Pairwise fun x y => leC x y = true := by
      match l, h2 with
      | [], _ => exact List.Pairwise.nil
      | [x], _ => exact List.pairwise_singleton _ _
    have HS := Lib.hid hsort
    obtain ⟨A, c, rfl, hc, hc2⟩ := h.shape
    have e1 : ((l.length : Int) < 2) := by omega
    clear hsort ih h hF
    go_enter Tryz.func67, Tryz.ntmps67
    go_wp2
    go_ret
    exact ⟨A, _, c, l, rfl, Below.refl _ _, List.Perm.refl _, HS.out, .inl ⟨rfl, rfl⟩⟩
  · obtain ⟨hd, hhd⟩ : ∃ hd, hd = l.length / 2 := ⟨_, rfl⟩
    obtain ⟨q1, q2, q3⟩ := half_ltC (n := l.length) (by omega)
    rw [← hhd] at q1 q2 q3
    obtain ⟨A, c, rfl, hc, hc2⟩ := h.shape
    obtain ⟨b, o, rfl, hb, hjunk⟩ := cv_at h (k := 0) (by omega)
    clear hjunk
    have e0 : ¬ ((l.length : Int) < 2) := by omega
    have e1 : ((l.length : Int) / 2) = (hd : Int) := by omega
    have e2 : Int.tdiv (l.length : Int) 2 = (hd : Int) := by rw [Int.tdiv_eq_ediv_of_nonneg (by omega)]; exact e1
    have e3 : IntKind.i64.wrap (hd : Int) = (hd : Int) := IntWalk.i64_in _ (by omega)
    have e4 : IntKind.i64.wrap (Int.tdiv (l.length : Int) 2) = (hd : Int) := by rw [e2]; exact e3
    have sa := h.take (k := hd) (by omega)
    have sb := h.dropC (k := hd) (by omega)
    have lla : (l.take hd).length = hd := by rw [List.length_take]; omega
    have llb : (l.drop hd).length = l.length - hd := List.length_drop
    have kA := fun W (hW : Below w.heap.size w W) => ((ih hd (by omega) (l.take hd) lla _ F W (sa.keep elCv_good (Same.below hW hF) fun _ h => h) (fun b hb => Nat.lt_of_lt_of_le (hF b hb) hW.size) (by omega)).mono fun e w' hp => hp.sl (sa.keep elCv_good (Same.below hW hF) fun _ h => h) (fun b hb => Nat.lt_of_lt_of_le (hF b hb) hW.size))
    have kB := fun W (hW : Below w.heap.size w W) => ((ih (l.length - hd) (by omega) (l.drop hd) llb _ F W (sb.keep elCv_good (Same.below hW hF) fun _ h => h) (fun b hb => Nat.lt_of_lt_of_le (hF b hb) hW.size) (by omega)).mono fun e w' hp => hp.sl (sb.keep elCv_good (Same.below hW hF) fun _ h => h) (fun b hb => Nat.lt_of_lt_of_le (hF b hb) hW.size))
    have hfin : ∀ (la lb : List Cve), la.Perm (l.take hd) → lb.Perm (l.drop hd) → (la.Pairwise fun x y => leC x y = true) → (lb.Pairwise fun x y => leC x y = true) → (List.merge la lb leC).Perm l ∧ ((List.merge la lb leC).Pairwise fun x y => leC x y = true) := fun la lb p1 p2 s1 s2 =>
      ⟨List.Perm.trans (List.merge_perm_append leC) ((p1.append p2).trans (by rw [List.take_append_drop])), List.pairwise_merge leC_trans leC_total _ _ s1 s2⟩
    rw [lla] at kA
    rw [llb] at kB
    have KA := Lib.hid kA
    have KB := Lib.hid kB
    have HFIN := Lib.hid hfin
    have HBc := Lib.hid (Below.drew (Below.refl w.heap.size w))
    have tokA : True := trivial
    have tokB : True := trivial
    have i1 : (0 : Int) ≤ (hd : Int) := by omega
    have i2 : (hd : Int) ≤ (l.length : Int) := by omega
    have i3 : (hd : Int) ≤ (c : Int) := by omega
    have i4 : (l.length : Int) ≤ (c : Int) := by omega
    have j1 : hd ≤ l.length := by omega
    have j2 : hd ≤ c := by omega
    have hl2 : 2 ≤ l.length := by omega
    clear kA kB hfin ih h hF sa sb lla llb hhd h2 hm
    go_enter Tryz.func67, Tryz.ntmps67
    go_wp2
    go_region_held3 (fun w' => True) (trivial) (first
      | (clear tokA; go_at_call 67; with_reducible refine (KA.out _ HBc.out).mono ?_; rintro e wa ⟨Aa, ca, la, rfl, hba, hpa, hsa, hna, hva⟩; have HBn := Lib.hid (HBc.out.trans (hba.mono HBc.out.size)); clear HBc; have HBc := HBn; clear HBn; have HBA := Lib.hid hba; have HPA := Lib.hid (And.intro hpa hsa); have HNA := Lib.hid hna; have HVA := Lib.hid hva; clear hba hpa hsa hna hva)
      | (clear tokB; go_at_call 67; with_reducible refine (KB.out _ HBc.out).mono ?_; rintro e wb ⟨Ab, cb, lb, rfl, hbb, hpb, hsb, hnb, hvb⟩; have HBn := Lib.hid (HBc.out.trans (hbb.mono HBc.out.size)); clear HBc; have HBc := HBn; clear HBn; have HBB := Lib.hid hbb; have HPB := Lib.hid (And.intro hpb hsb); have HNB := Lib.hid hnb; have HVB := Lib.hid hvb; clear hbb hpb hsb hnb hvb))
    · obtain ⟨Z, hZ⟩ : ∃ Z, Z = List.merge la lb leC := ⟨_, rfl⟩
      have hZZ := HFIN.out la lb HPA.out.1 HPB.out.1 HPA.out.2 HPB.out.2
      rw [← hZ] at hZZ
      have hna2 : la.length = hd := HNA.out
      have hnb2 : lb.length = l.length - hd := HNB.out
      have HZZ := Lib.hid hZZ
      obtain ⟨ba, oa, rfl, hj1, hj2⟩ := cv_at HVA.out (k := 0) (by omega)
      clear hj1 hj2
      obtain ⟨bb, ob, rfl, hj1, hj2⟩ := cv_at HVB.out (k := 0) (by omega)
      clear hj1 hj2
      have HM0 := Lib.hid (show MgC w wb wb la lb [] (.slice (some ⟨ba, oa, none⟩) la.length ca) (.slice (some ⟨bb, ob, none⟩) lb.length cb) (.slice none 0 0) Z from ⟨HBc.out, Below.refl _ _, HVA.out.keep elCv_good (Same.of_below HBB.out) fun b hb => Nat.lt_of_lt_of_le hb HBB.out.size, HVB.out, OwnSl.nil _, by rw [hZ]; rfl⟩)
      have hsum : 0 + la.length + lb.length = l.length := by omega
      have hpos : 0 < la.length ∧ 0 < lb.length := by omega
      clear hZ hZZ hna2 hnb2 KA KB HFIN HPA HPB HNA HNB HVA HVB HBA HBB i1 i2 i3 i4 j1 j2 e0 e1 e2 e3 e4 q1 q2 q3
      go_wp2
      go_loopw [3, 4, 5] (fun va vb vo wr => ∃ (la lb out : List Cve) (ba oa bb ob : Nat) (Ao : Option Addr) (cca ccb no co : Nat), va = .slice (some ⟨ba, oa, none⟩) la.length cca ∧ vb = .slice (some ⟨bb, ob, none⟩) lb.length ccb ∧ vo = .slice Ao no co ∧ out.length + la.length + lb.length = l.length ∧ Hid (MgC w wb wr la lb out (.slice (some ⟨ba, oa, none⟩) la.length cca) (.slice (some ⟨bb, ob, none⟩) lb.length ccb) (.slice Ao no co) Z)) (fun va vb _ _ => lenVC va + lenVC vb)
      case atStart => exact ⟨la, lb, [], ba, oa, bb, ob, none, ca, cb, 0, 0, rfl, rfl, rfl, by simpa using hsum, HM0⟩
      case round =>
        clear HM0 hsum hpos HBc
        obtain ⟨la, lb, out, ba, oa, bb, ob, Ao, ca, cb, no, co, rfl, rfl, rfl, hsum, HM⟩ := hrel
        obtain ⟨HM, hka, hkb⟩ : Hid (MgC w wb wr la lb out (.slice (some ⟨ba, oa, none⟩) la.length ca) (.slice (some ⟨bb, ob, none⟩) lb.length cb) (.slice Ao no co) Z) ∧ la.length ≤ ca ∧ lb.length ≤ cb := by
          obtain ⟨_, c1, e1, g1, _⟩ := HM.out.a
          obtain ⟨_, c2, e2, g2, _⟩ := HM.out.b
          injection e1 with _ _ e1
          injection e2 with _ _ e2
          subst e1 e2
          exact ⟨HM, g1, g2⟩
        have hroom : (out.length + la.length + lb.length) * 48 ≤ 140737488355328 ∧ out.length + la.length + lb.length ≤ 1000000000000 := by omega
        rcases la with _ | ⟨xa, la⟩
        · have HZZ2 := Lib.hid HZZ.out
          have hr1 : out.length + (([] : List Cve)).length ≤ maxLen ∧ (out.length + (([] : List Cve)).length) * 48 ≤ 140737488355328 := by simp only [maxLen]; omega
          have hr2 : (out ++ ([] : List Cve)).length + (lb).length ≤ maxLen ∧ ((out ++ ([] : List Cve)).length + (lb).length) * 48 ≤ 140737488355328 := by simp only [List.length_append, maxLen]; omega
          have HR1 := Lib.hid hr1
          have HR2 := Lib.hid hr2
          have tok9 : True := trivial
          have g1 : True := trivial
          clear hr1 hr2 hroom hka hkb
          go_wp2_with (first
            | (clear tok9; at_builtin; refine wpList_append_sls _ rfl (.tmp 55) (.tmp 56) _ rfl E_cv elCv_good elCv_free elCv_one _ _ out rfl HM.out.o (· < wb.heap.size) ⟨ba, oa, none⟩ ca ([] : List Cve) rfl (HM.out.a.keep elCv_good (Same.of_below HM.out.bel) fun b h => h) HR1.out.1 HR1.out.2 HM.out.bel.size ?_; intro v6 w6 hown6 hg6 hat6; obtain ⟨o2, ho2⟩ : ∃ o2, o2 = out ++ ([] : List Cve) := ⟨_, rfl⟩; rw [← ho2] at hown6; have HZE := Lib.hid (show o2 ++ lb = Z by rw [ho2, ← HM.out.eq]; simp); have HR3 := Lib.hid (show o2.length + (lb).length ≤ maxLen ∧ (o2.length + (lb).length) * 48 ≤ 140737488355328 by rw [ho2]; exact HR2.out); clear ho2; have HO6 := Lib.hid hown6; have HB6 := Lib.hid (below_own HM.out.bel HM.out.o hg6 (Nat.le_refl _) HM.out.bel.size); obtain ⟨A6, c6, rfl, hc61, hc62⟩ := (hown6.sl elCv_good).shape; clear hown6 hg6 hat6; have tok10 : True := trivial)
            | (clear tok10; at_builtin; refine wpList_append_sls _ rfl (.tmp 57) (.tmp 58) _ rfl E_cv elCv_good elCv_free elCv_one _ _ o2 rfl HO6.out (· < wb.heap.size) ⟨bb, ob, none⟩ cb lb rfl (HM.out.b.keep elCv_good (Same.of_below HB6.out) fun b h => h) HR3.out.1 HR3.out.2 HB6.out.size ?_; intro v7 w7 hown7 hg7 hat7; rw [HZE.out] at hown7; have HO7 := Lib.hid hown7; have HB7 := Lib.hid (below_own HB6.out HO6.out hg7 (Nat.le_refl _) HB6.out.size); obtain ⟨A7, c7, rfl, hc71, hc72⟩ := (hown7.sl elCv_good).shape; clear hown7 hg7 hat7; have tok11 : True := trivial))
          go_ret
          exact ⟨A7, _, c7, Z, rfl, HM.out.base.trans (HB7.out.mono HM.out.base.size), HZZ2.out.1, HZZ2.out.2, .inr (own_baseC HM.out.base.size HO7.out)⟩
        · rcases lb with _ | ⟨xb, lb⟩
          · have HZZ2 := Lib.hid HZZ.out
            have hr1 : out.length + ((xa :: la)).length ≤ maxLen ∧ (out.length + ((xa :: la)).length) * 48 ≤ 140737488355328 := by simp only [maxLen]; omega
            have hr2 : (out ++ (xa :: la)).length + (([] : List Cve)).length ≤ maxLen ∧ ((out ++ (xa :: la)).length + (([] : List Cve)).length) * 48 ≤ 140737488355328 := by simp only [List.length_append, maxLen]; omega
            have HR1 := Lib.hid hr1
            have HR2 := Lib.hid hr2
            have tok9 : True := trivial
            have g1 : (0 : Int) < ((xa :: la).length : Int) := by simp
            clear hr1 hr2 hroom hka hkb
            go_wp2_with (first
              | (clear tok9; at_builtin; refine wpList_append_sls _ rfl (.tmp 55) (.tmp 56) _ rfl E_cv elCv_good elCv_free elCv_one _ _ out rfl HM.out.o (· < wb.heap.size) ⟨ba, oa, none⟩ ca (xa :: la) rfl (HM.out.a.keep elCv_good (Same.of_below HM.out.bel) fun b h => h) HR1.out.1 HR1.out.2 HM.out.bel.size ?_; intro v6 w6 hown6 hg6 hat6; obtain ⟨o2, ho2⟩ : ∃ o2, o2 = out ++ (xa :: la) := ⟨_, rfl⟩; rw [← ho2] at hown6; have HZE := Lib.hid (show o2 ++ ([] : List Cve) = Z by rw [ho2, ← HM.out.eq]; simp); have HR3 := Lib.hid (show o2.length + (([] : List Cve)).length ≤ maxLen ∧ (o2.length + (([] : List Cve)).length) * 48 ≤ 140737488355328 by rw [ho2]; exact HR2.out); clear ho2; have HO6 := Lib.hid hown6; have HB6 := Lib.hid (below_own HM.out.bel HM.out.o hg6 (Nat.le_refl _) HM.out.bel.size); obtain ⟨A6, c6, rfl, hc61, hc62⟩ := (hown6.sl elCv_good).shape; clear hown6 hg6 hat6; have tok10 : True := trivial)
              | (clear tok10; at_builtin; refine wpList_append_sls _ rfl (.tmp 57) (.tmp 58) _ rfl E_cv elCv_good elCv_free elCv_one _ _ o2 rfl HO6.out (· < wb.heap.size) ⟨bb, ob, none⟩ cb ([] : List Cve) rfl (HM.out.b.keep elCv_good (Same.of_below HB6.out) fun b h => h) HR3.out.1 HR3.out.2 HB6.out.size ?_; intro v7 w7 hown7 hg7 hat7; rw [HZE.out] at hown7; have HO7 := Lib.hid hown7; have HB7 := Lib.hid (below_own HB6.out HO6.out hg7 (Nat.le_refl _) HB6.out.size); obtain ⟨A7, c7, rfl, hc71, hc72⟩ := (hown7.sl elCv_good).shape; clear hown7 hg7 hat7; have tok11 : True := trivial))
            go_ret
            exact ⟨A7, _, c7, Z, rfl, HM.out.base.trans (HB7.out.mono HM.out.base.size), HZZ2.out.1, HZZ2.out.2, .inr (own_baseC HM.out.base.size HO7.out)⟩
          · obtain ⟨_, _, ea, hba, ya⟩ := cv_head HM.out.a
            obtain ⟨_, _, eb, hbb, yb⟩ := cv_head HM.out.b
            obtain ⟨rfl, rfl⟩ : ba = _ ∧ oa = _ := by injection ea with h9; injection h9 with h8 h7; exact ⟨h8, h7⟩
            obtain ⟨rfl, rfl⟩ : bb = _ ∧ ob = _ := by injection eb with h9; injection h9 with h8 h7; exact ⟨h8, h7⟩
            have HYA := Lib.hid ya
            have HYB := Lib.hid yb
            have kL := fun W => r44_Less xb.st xa.st W
            have hle : leC xa xb = !(lessS xb.st xa.st) := rfl
            have ta := tailCv HM.out.a
            have tb := tailCv HM.out.b
            obtain ⟨bl, hbl⟩ : ∃ bl, bl = lessS xb.st xa.st := ⟨_, rfl⟩
            rw [← hbl] at hle
            simp only [← hbl] at kL
            have ya := sixC_below HM.out.bel hba ya
            have yb := sixC_below HM.out.bel hbb yb
            obtain ⟨⟨p0, p1, p2, p3, p4⟩, pv⟩ := xa
            obtain ⟨⟨r0, r1, r2, r3, r4⟩, rv⟩ := xb
            unfold stV at kL
            dsimp only at ya yb kL HYA HYB
            have KL := Lib.hid kL
            have HTA := Lib.hid ta
            have HTB := Lib.hid tb
            have HLE := Lib.hid hle
            have HMD := Lib.hid (HM.out.below (Below.drew (Below.refl _ _)))
            have HBA := Lib.hid hba
            have HBB := Lib.hid hbb
            obtain ⟨ya0, ya1, ya2, ya3, ya4, ya5⟩ := ya
            obtain ⟨yb0, yb1, yb2, yb3, yb4, yb5⟩ := yb
            have hlo : out.length + 1 ≤ maxLen ∧ (out.length + 1) * 48 ≤ 140737488355328 := by simp only [List.length_cons] at hroom; simp only [maxLen]; omega
            have HLO := Lib.hid hlo
            have hm1 : (1 : Int) ≤ ((la.length : Int) + 1) := by omega
            have hm2 : (1 : Int) ≤ ((lb.length : Int) + 1) := by omega
            have hm3 : la.length + 1 ≤ ca := by simpa using hka
            have hm4 : lb.length + 1 ≤ cb := by simpa using hkb
            have hm5 : (la.length : Int) + 1 ≤ (ca : Int) := by omega
            have hm6 : (lb.length : Int) + 1 ≤ (cb : Int) := by omega
            clear kL hle hbl ta tb hba hbb HM ea eb hlo hka hkb hroom
            have tok5 : True := trivial
            go_wp2
            go_region_held3 (fun w' => w'.cell? ⟨bb, ob, none⟩ = some (.int .i64 r0) ∧ w'.cell? ⟨bb, ob + 1, none⟩ = some (.int .i64 r1) ∧ w'.cell? ⟨bb, ob + 2, none⟩ = some (.int .i64 r2) ∧ w'.cell? ⟨bb, ob + 3, none⟩ = some (.int .i64 r3) ∧ w'.cell? ⟨bb, ob + 4, none⟩ = some (.int .i64 r4) ∧ w'.cell? ⟨ba, oa, none⟩ = some (.int .i64 p0) ∧ w'.cell? ⟨ba, oa + 1, none⟩ = some (.int .i64 p1) ∧ w'.cell? ⟨ba, oa + 2, none⟩ = some (.int .i64 p2) ∧ w'.cell? ⟨ba, oa + 3, none⟩ = some (.int .i64 p3) ∧ w'.cell? ⟨ba, oa + 4, none⟩ = some (.int .i64 p4)) (first | exact ⟨yb0, yb1, yb2, yb3, yb4, ya0, ya1, ya2, ya3, ya4⟩ | go_keep) (first
              | (clear tok5; go_at_call 32; refine (KL.out _).mono ?_; rintro e w2 ⟨rfl, hb2⟩; have HM2 := Lib.hid (HMD.out.below hb2); clear ya0 ya1 ya2 ya3 ya4 ya5 yb0 yb1 yb2 yb3 yb4 yb5; obtain ⟨ya0, ya1, ya2, ya3, ya4, ya5⟩ := sixC_below HM2.out.bel HBA.out HYA.out; obtain ⟨yb0, yb1, yb2, yb3, yb4, yb5⟩ := sixC_below HM2.out.bel HBB.out HYB.out; clear hb2; have tok6 : True := trivial))
            all_goals cases bl
            · all_goals go_wp2_with (clear tok6; at_builtin; refine wpList_append_sl _ rfl (.tmp 47) (.tmp 51) _ rfl E_cv elCv_good _ _ out rfl (HM2.out.o.alloc elCv_good _) ⟨w2.heap.size, 0, none⟩ 1 [.int .i64 p0, .int .i64 p1, .int .i64 p2, .int .i64 p3, .int .i64 p4, .int .i64 pv] rfl ⟨⟨p0, p1, p2, p3, p4⟩, pv⟩ rfl (cells_new _ _ _ _) (oneCells rfl) rfl HLO.out.1 HLO.out.2 (base2C HM2.out.bel.size _) ?_; intro v6 w6 hown6 hg6 hat6; obtain ⟨A6, c6, rfl, hc61, hc62⟩ := (hown6.sl elCv_good).shape; have HN := Lib.hid ((HM2.out.below (Below.alloc (Below.refl w2.heap.size w2) (Nat.le_refl _) (.cells #[.int .i64 p0, .int .i64 p1, .int .i64 p2, .int .i64 p3, .int .i64 p4, .int .i64 pv] 32))).app_a (fun _ y t e => by injection e with e1 e2; subst e1; rw [HLE.out]; rfl) hown6 hg6 HTA.out); clear hown6 hg6 hat6; have tok7 : True := trivial)
              all_goals go_roundw
              case rel => exact ⟨la, ⟨⟨r0, r1, r2, r3, r4⟩, rv⟩ :: lb, out ++ [⟨⟨p0, p1, p2, p3, p4⟩, pv⟩], ba, if ca = 1 then oa else oa + 6, bb, ob, A6, ca - 1, _, _, _, by by_cases hc9 : ca = 1 <;> simp [hc9], rfl, rfl, by simp at hsum ⊢; omega, by rw [show out.length + 1 = (out ++ [(⟨⟨p0, p1, p2, p3, p4⟩, pv⟩ : Cve)]).length by simp]; exact HN⟩
              case measure => simp [lenVC]
            · all_goals go_wp2_with (clear tok6; at_builtin; refine wpList_append_sl _ rfl (.tmp 39) (.tmp 43) _ rfl E_cv elCv_good _ _ out rfl (HM2.out.o.alloc elCv_good _) ⟨w2.heap.size, 0, none⟩ 1 [.int .i64 r0, .int .i64 r1, .int .i64 r2, .int .i64 r3, .int .i64 r4, .int .i64 rv] rfl ⟨⟨r0, r1, r2, r3, r4⟩, rv⟩ rfl (cells_new _ _ _ _) (oneCells rfl) rfl HLO.out.1 HLO.out.2 (base2C HM2.out.bel.size _) ?_; intro v6 w6 hown6 hg6 hat6; obtain ⟨A6, c6, rfl, hc61, hc62⟩ := (hown6.sl elCv_good).shape; have HN := Lib.hid ((HM2.out.below (Below.alloc (Below.refl w2.heap.size w2) (Nat.le_refl _) (.cells #[.int .i64 r0, .int .i64 r1, .int .i64 r2, .int .i64 r3, .int .i64 r4, .int .i64 rv] 32))).app_b (by rw [HLE.out]; decide) hown6 hg6 HTB.out); clear hown6 hg6 hat6; have tok7 : True := trivial)
              all_goals go_roundw
              case rel => exact ⟨⟨⟨p0, p1, p2, p3, p4⟩, pv⟩ :: la, lb, out ++ [⟨⟨r0, r1, r2, r3, r4⟩, rv⟩], ba, oa, bb, if cb = 1 then ob else ob + 6, A6, _, cb - 1, _, _, rfl, by by_cases hc9 : cb = 1 <;> simp [hc9], rfl, by simp at hsum ⊢; omega, by rw [show out.length + 1 = (out ++ [(⟨⟨r0, r1, r2, r3, r4⟩, rv⟩ : Cve)]).length by simp]; exact HN⟩
              case measure => simp [lenVC]
theorem r44_merge : ∀ (m : Nat) (l : List Cve), l.length = m → ∀ (v : Value) (F : Nat → Prop) (w : World), Sl 6 elCv w F v l → (∀ b, F b → b < w.heap.size) → l.length ≤ 1000000000000 → Calls Tryz.prog 67 #[v] w (MrgPostC w v l) := fun m =>
  Nat.strongRecOn m fun m ih l hm v F w h hF hn => r44_merge_at m ih l hm v F w h hF hn
end Go.Proofs.YtdlmmbfnmnglaaaGreatDoor

namespace Go.Proofs.YtdlmmbfnmnglaaaGreatDoor
open Go.RowKit Go.Maps

/-- Collecting: the map ranged over, the row that is built. -/
structure RgC (w wB W : World) (b r N : Nat) (D : DataW Unit) (left : Lit → Bool) (cnt : Nat) (lc : List Cve) (v : Value) : Prop where
  rg : W.ranges Tryz.prog 30 (plainElem Tryz.prog 2) b r N D left cnt
  coll : CollC D left lc
  own : OwnSl 6 elCv 32 wB.heap.size W v lc
  bel : Below w.heap.size w W
  hr : w.heap.size ≤ r ∧ r < wB.heap.size
  hb : b < wB.heap.size
  sz : wB.heap.size ≤ W.heap.size
  hn : lc.length + cnt ≤ N
section
variable {w wB W W' : World} {b r N cnt cnt' : Nat} {D : DataW Unit} {left left' : Lit → Bool} {lc : List Cve} {v v' : Value} {e : Cve}
theorem RgC.alloc (h : RgC w wB W b r N D left cnt lc v) (o : Obj) : RgC w wB (W.alloc o) b r N D left cnt lc v :=
  ⟨h.rg.alloc o, h.coll, h.own.alloc elCv_good o, h.bel.alloc h.bel.size _, h.hr, h.hb, by simp; have := h.sz; omega, h.hn⟩
theorem RgC.next (h : RgC w wB W b r N D left cnt lc v) (hr' : W'.ranges Tryz.prog 30 (plainElem Tryz.prog 2) b r N D left' cnt') (hg : W.grownBy W' (some r)) (hc : CollC D left' (lc ++ [e])) (hlt : cnt' < cnt) :
    W'.ranges Tryz.prog 30 (plainElem Tryz.prog 2) b r N D left' cnt' ∧ CollC D left' (lc ++ [e]) ∧ OwnSl 6 elCv 32 wB.heap.size W' v lc ∧ Below w.heap.size w W' ∧ wB.heap.size ≤ W'.heap.size ∧ (lc ++ [e]).length + cnt' ≤ N := by
  have h1 := h.hr
  have h2 := h.sz
  refine ⟨hr', hc, h.own.grown elCv_good hg fun k hk e => ?_, h.bel.grown hg h.bel.size fun k hk => by injection hk with hk; omega, Nat.le_trans h.sz hg.size, by have := h.hn; simp; omega⟩
  have h3 := (OwnSl.block h.own k hk).1
  injection e with e
  omega
end
/-- What is collected while an entry is on its way into the row. -/
structure RgPC (w wB W : World) (b r N : Nat) (D : DataW Unit) (left : Lit → Bool) (cnt : Nat) (lc : List Cve) (e : Cve) (v : Value) : Prop where
  rg : W.ranges Tryz.prog 30 (plainElem Tryz.prog 2) b r N D left cnt
  coll : CollC D left (lc ++ [e])
  own : OwnSl 6 elCv 32 wB.heap.size W v lc
  bel : Below w.heap.size w W
  hr : w.heap.size ≤ r ∧ r < wB.heap.size
  hb : b < wB.heap.size
  sz : wB.heap.size ≤ W.heap.size
  hn : (lc ++ [e]).length + cnt ≤ N
section
variable {w wB W W' : World} {b r N cnt : Nat} {D : DataW Unit} {left : Lit → Bool} {lc : List Cve} {v v' : Value} {e : Cve}
theorem RgPC.alloc (h : RgPC w wB W b r N D left cnt lc e v) (o : Obj) : RgPC w wB (W.alloc o) b r N D left cnt lc e v :=
  ⟨h.rg.alloc o, h.coll, h.own.alloc elCv_good o, h.bel.alloc h.bel.size _, h.hr, h.hb, by simp; have := h.sz; omega, h.hn⟩
theorem RgPC.app (h : RgPC w wB W b r N D left cnt lc e v) (ho : OwnSl 6 elCv 32 wB.heap.size W' v' (lc ++ [e])) (hg : W.grownBy W' v.ownBlock) : RgC w wB W' b r N D left cnt (lc ++ [e]) v' := by
  have h1 := h.hr
  have h2 := h.hb
  have h3 := h.sz
  have h4 := h.bel.size
  refine ⟨h.rg.kept hg (fun e => ?_) (fun e => ?_), h.coll, ho, h.bel.grown hg h.bel.size fun k hk => by have := (OwnSl.block h.own k hk).1; omega, h.hr, h.hb, Nat.le_trans h.sz hg.size, h.hn⟩
  · have := (OwnSl.block h.own _ e.symm).1; omega
  · have := (OwnSl.block h.own _ e.symm).1; omega
end
theorem RgC.done {w wB W w' : World} {b r N cnt : Nat} {D : DataW Unit} {left : Lit → Bool} {lc : List Cve} {v : Value} {e : Ending} (h : RgC w wB W b r N D left cnt lc v) (hp : MrgPostC W v lc e w') : ∃ A cp l', e = .returned (.slice A l'.length cp) ∧ Below w.heap.size w w' ∧ l'.Perm lc ∧ (l'.Pairwise fun x y => leC x y = true) ∧ l'.length ≤ N ∧ OwnSl 6 elCv 32 w.heap.size w' (.slice A l'.length cp) l' := by
  obtain ⟨A, n, cp, l', rfl, hb, hpm, hs, hv⟩ := hp
  have hown : OwnSl 6 elCv 32 w.heap.size w' (.slice A n cp) l' := by
    have h1 := h.hr
    rcases hv with ⟨rfl, e2⟩ | hv
    · rw [e2]; exact own_baseC (by omega) (h.own.below elCv_good hb)
    · exact own_baseC h.bel.size hv
  obtain ⟨A', cp', e1, _, _⟩ := (OwnSl.sl elCv_good hown).shape
  injection e1 with e2 e3 e4
  subst e3
  exact ⟨A, cp, l', rfl, h.bel.trans (hb.mono h.bel.size), hpm, hs, by have := hpm.length_eq; have := h.hn; omega, hown⟩
@[go_sem] theorem build_cv (q0 q1 q2 q3 q4 cc : Int) (w : World) : (Instr.build 32 #[(0, .agg #[.int .i64 q0, .int .i64 q1, .int .i64 q2, .int .i64 q3, .int .i64 q4]), (1, .int .i64 cc)]).run Tryz.prog w = .ok (.agg #[.int .i64 q0, .int .i64 q1, .int .i64 q2, .int .i64 q3, .int .i64 q4, .int .i64 cc]) w := run_build w 32 _ _ (by kernel_rfl)
theorem cells_new2C (w : World) (o : Obj) (cs : List Value) (e : TypeId) (z : Nat × Nat) (j : Nat) (u : Value) (h : cs[j]? = some u) : ((w.alloc o).alloc (.cells cs.toArray e z)).cell? (Addr.add ⟨w.heap.size + 1, 0, none⟩ j) = some u := by
  have := cells_new (w.alloc o) cs e z j u h
  rw [World.size_alloc] at this
  exact this
theorem keyS_inv {c : Chs} {r : Cst} (hc : OkC c) {D : DataW Unit} (hk : Known c r D) {v : Value} {kl : Lit} (h1 : keyOf Tryz.prog 30 v = some kl) (h2 : Maps.has D kl = true) : ∃ s, v = stV s ∧ kl = keyS s ∧ OkS c s := by
  obtain ⟨s, rfl, hs, _⟩ := hk.sub kl h2
  have e := keyOf_inj_deep (P := Tryz.prog) (m := Tryz.prog.types.size + 1) (k := 30) (by kernel_rfl) (by kernel_rfl) h1 (key_of (hs.smol hc))
  exact ⟨s, e, rfl, hs⟩
set_option maxRecDepth 100000 in
set_option maxHeartbeats 8000000 in
theorem r44_sorted (c : Chs) (hc : OkC c) (s0 : Cst) (hs0 : OkS c s0) (b : Nat) (D : DataW Unit) (w : World) (hv : Vals w b 36000000000 D) (hk : Known c s0 D) (hh : Maps.has D (keyS s0) = true) :
    Calls Tryz.prog 26 #[.map (some b)] w fun e w' => ∃ A cp l, e = .returned (.slice A l.length cp) ∧ Below w.heap.size w w' ∧ TabIsC c s0 l ∧ l.length ≤ 36000000000 ∧ OwnSl 6 elCv 32 w.heap.size w' (.slice A l.length cp) l := by
  have HINV := Lib.hid (fun (D : DataW Unit) (hk : Known c s0 D) (v : Value) (kl : Lit) (h1 : keyOf Tryz.prog 30 v = some kl) (h2 : Maps.has D kl = true) => keyS_inv hc hk h1 h2)
  have HFIN := Lib.hid (fun (left : Lit → Bool) (l l' : List Cve) (h1 : CollC D left l) (h2 : ∀ kl, left kl = false) (h5 : l'.Perm l) (h6 : l'.Pairwise fun x y => leC x y = true) => coll_tabC hc hs0 h1 h2 hk hh h5 h6)
  have HSM := Lib.hid (fun (s : Cst) (hs : OkS c s) => hs.smol hc)
  have HV := Lib.hid hv
  have HKN := Lib.hid hk
  have HSIZE := Lib.hid hv.size_le
  clear hc hs0 hv hk hh
  go_enter Tryz.func26, Tryz.ntmps26
  go_wp2_with (at_range; refine wpList_range_own _ rfl _ 67 rfl 30 2 law44 Tryz.underlying67 (plainElem Tryz.prog 2) b 36000000000 D rfl HV.out ?_; intro w0 hrg0 hg0 hs0)
  go_frame
  have HR0 := Lib.hid (show RgC w w0 w0 b w.heap.size 36000000000 D (Maps.has D) (Maps.size D) [] (.slice none 0 0) from ⟨hrg0, CollC.start D, OwnSl.nil _, (Below.refl w.heap.size w).grown hg0 (Nat.le_refl _) (fun k hk => by cases hk), ⟨Nat.le_refl _, by omega⟩, by have := hrg0.ne; have := HV.out.lt; omega, Nat.le_refl _, by simp; exact HSIZE.out⟩)
  clear hrg0 hg0
  go_loopw [3] (fun v wr2 => ∃ (lc : List Cve) (left : Lit → Bool) (cnt : Nat) (Ao : Option Addr) (no co : Nat), v = .slice Ao no co ∧ Hid (RgC w w0 wr2 b w.heap.size 36000000000 D left cnt lc (.slice Ao no co))) (fun _ wr2 => wr2.rangeLeft b w.heap.size)
  case atStart => exact ⟨[], _, _, none, 0, 0, rfl, HR0⟩
  case round =>
    clear HR0
    obtain ⟨lc, left, cnt, Ao, no, co, rfl, HR⟩ := hrel
    have hrg := HR.out.rg
    go_wp2_with (at_next; refine wpList_next_ranges _ rfl _ rfl 30 law44 (plainElem Tryz.prog 2) (fun v : Value => v) (Value.int .i64) (fun key kl _ => ⟨key, rfl⟩) (fun v y hv => by obtain ⟨c9, rfl, _⟩ := plainElem_int_inv Tryz.underlying2 hv; exact ⟨c9, rfl⟩) b w.heap.size 36000000000 _ _ _ rfl hrg ?_ ?_)
    · intro hcn hl0
      have hlen : lc.length ≤ 1000000000000 := by have := HR.out.hn; omega
      have KMG := Lib.hid ((r44_merge _ lc rfl (.slice Ao no co) _ wr (OwnSl.sl elCv_good HR.out.own) (fun b h => h.2) hlen).mono fun e w' hp => HR.out.done hp)
      have HL0 := Lib.hid hl0
      clear hcn hl0 hlen hrg
      have tok5 : True := trivial
      go_wp2_with (clear tok5; go_at_call 67; refine KMG.out.mono ?_; rintro e w9 ⟨A9, c9, l9, rfl, hb9, hp9, hs9, hn9, ho9⟩; have HB9 := Lib.hid hb9; have HP9 := Lib.hid (And.intro hp9 hs9); have HN9 := Lib.hid hn9; have HO9 := Lib.hid ho9; clear hb9 hp9 hs9 hn9 ho9; have tok6 : True := trivial)
      go_ret
      exact ⟨A9, c9, l9, rfl, HB9.out, HFIN.out left lc l9 HR.out.coll HL0.out HP9.out.1 HP9.out.2, HN9.out, HO9.out⟩
    · intro x cc kl y1 y2 w1 cnt1 hkey hlk hRv hat hrg1 hlt hg1 hs1 hen
      obtain ⟨c9, e9, e10, hwf⟩ := plainElem_int_inv Tryz.underlying2 hRv
      injection e10 with e11 e12
      subst e11 e12
      injection e9 with _ e9
      subst e9
      have hhas := has_true_of_atKey hat
      obtain ⟨s, rfl, rfl, hs⟩ := HINV.out D HKN.out x kl hkey hhas
      have hP1 := HR.out.next (e := ⟨s, cc⟩) hrg1 hg1 (HR.out.coll.step (e := ⟨s, cc⟩) hhas hlk (HSM.out s hs) (hat _)) hlt
      have HP1 := Lib.hid (show RgPC w w0 w1 b w.heap.size 36000000000 D _ cnt1 lc ⟨s, cc⟩ (.slice Ao no co) from ⟨hP1.1, hP1.2.1, hP1.2.2.1, hP1.2.2.2.1, HR.out.hr, HR.out.hb, hP1.2.2.2.2.1, hP1.2.2.2.2.2⟩)
      have HLT := Lib.hid hlt
      have hroom : lc.length + 1 ≤ maxLen ∧ (lc.length + 1) * 48 ≤ 140737488355328 := by have := HR.out.hn; simp only [maxLen]; omega
      have HROOM := Lib.hid hroom
      clear hkey hlk hRv hat hrg1 hlt hg1 hs1 hwf hhas hs hP1 hroom
      obtain ⟨q0, q1, q2, q3, q4⟩ := s
      unfold stV at hen
      dsimp only at hen
      have HPA := Lib.hid (HP1.out.alloc (.cells #[.int .i64 q0, .int .i64 q1, .int .i64 q2, .int .i64 q3, .int .i64 q4] 30))
      have tok5 : True := trivial
      go_wp2_with (clear tok5; at_builtin; refine wpList_append_sl _ rfl (.tmp 13) (.tmp 17) _ rfl E_cv elCv_good _ _ lc rfl (HPA.out.own.alloc elCv_good _) ⟨w1.heap.size + 1, 0, none⟩ 1 [.int .i64 q0, .int .i64 q1, .int .i64 q2, .int .i64 q3, .int .i64 q4, .int .i64 cc] rfl ⟨⟨q0, q1, q2, q3, q4⟩, cc⟩ rfl (cells_new2C _ _ _ _ _) (oneCells rfl) rfl HROOM.out.1 HROOM.out.2 (base2C HPA.out.sz _) ?_; intro v6 w6 hown6 hg6 hat6; obtain ⟨A6, c6, rfl, hc61, hc62⟩ := (hown6.sl elCv_good).shape; have HN := Lib.hid ((HPA.out.alloc (.cells #[.int .i64 q0, .int .i64 q1, .int .i64 q2, .int .i64 q3, .int .i64 q4, .int .i64 cc] 32)).app hown6 hg6); clear hown6 hg6 hat6; have tok6 : True := trivial)
      go_roundw
      case rel => exact ⟨lc ++ [⟨⟨q0, q1, q2, q3, q4⟩, cc⟩], _, cnt1, A6, _, c6, rfl, by rw [show lc.length + 1 = (lc ++ [(⟨⟨q0, q1, q2, q3, q4⟩, cc⟩ : Cve)]).length by simp]; exact HN⟩
      case measure => rw [HN.out.rg.left_eq, HR.out.rg.left_eq]; exact HLT.out
theorem cntV7 : cntV 6 ≤ 1000000000 := by decide
theorem cntV_mono : ∀ {m n : Nat}, m ≤ n → cntV m ≤ cntV n := fun {m n} h => by
  induction h with
  | refl => exact Nat.le_refl _
  | step _ ih => rw [cntV]; omega
/-- What Table hands back. -/
def TabPostC (c : Chs) (w : World) (e : Ending) (w' : World) : Prop :=
  ((startC c).2 ≠ 0 ∧ e = .returned (.tuple #[.slice none 0 0, .int .i64 (startC c).2]) ∧ Below w.heap.size w w') ∨
  ((startC c).2 = 0 ∧ ∃ A cp l, e = .returned (.tuple #[.slice A l.length cp, .int .i64 0]) ∧ Below w.heap.size w w' ∧ TabIsC c (startC c).1 l ∧ l.length ≤ 36000000000 ∧ OwnSl 6 elCv 32 w.heap.size w' (.slice A l.length cp) l)
set_option maxRecDepth 100000 in
set_option maxHeartbeats 8000000 in
theorem r44_Table (c : Chs) (bv wv pv ov : Value) (w : World) (h : ChAt w (· < w.heap.size) bv wv pv ov c) (h6 : c.bows.length ≤ 6) :
    Calls Tryz.prog 9 #[chV c bv wv pv ov] w (TabPostC c w) := by
  have k1 := fun W (hW : Below w.heap.size w W) => r44_Start c _ _ _ _ W (h.below hW)
  have hok0 := fun h0 => startC_ok (c := c) h0
  unfold TabPostC
  obtain ⟨⟨s, u⟩, hsu⟩ : ∃ x, x = startC c := ⟨_, rfl⟩
  simp only [← hsu] at k1 hok0 ⊢
  have hbig : ∀ s, OkS c s → 0 + cntV (leftC c s) ≤ 2000000000000000000 := fun s hs => by
    have h1 : leftC c s ≤ 6 := by have := hs.ball; unfold leftC; omega
    have h2 := cntV_mono h1
    have h3 := cntV7
    omega
  have kfl := fun (hc : OkC c) (hs : OkS c s) (W : World) (gs b : Nat) (D : DataW Unit) (hD : D = .map []) (hW : AcMC w W gs b 0 D s c bv wv pv ov) => (r44_fill c hc (leftC c s) s rfl hs s (ReachC.start c s) bv wv pv ov (· < w.heap.size) b 0 D W (h.keep (Same.of_below hW.r.bel) fun _ h => h) (fun x hx => ⟨Nat.lt_of_lt_of_le hx hW.r.bel.size, by have := hW.hb; have := hW.r.lt; have : x < w.heap.size := hx; omega⟩) hW.vals (by subst hD; exact Known.none c s) (hbig s hs)).mono (R' := fun e W' => ∃ D', e = .returned (.int .i64 (valS c s)) ∧ AcMC w W' gs b 36000000000 D' s c bv wv pv ov ∧ Known c s D' ∧ Maps.has D' (keyS s) = true) (by
    rintro e W' ⟨rfl, ho, D', a1, a2, a3, a4⟩
    have h1 : leftC c s ≤ 6 := by have := hs.ball; unfold leftC; omega
    have h2 := cntV_mono h1
    have h3 := cntV7
    exact ⟨D', rfl, hW.into ho (a1.mono (by omega)), a2, a4⟩)
  have ksr := fun (hc : OkC c) (hs : OkS c s) => r44_sorted c hc s hs
  unfold chV at k1 kfl ⊢
  obtain ⟨A, ca, rfl, hc1, hc2⟩ := h.mdl.bat.shape
  obtain ⟨A1, ca1, rfl, hc3, hc4⟩ := h.mdl.bow.shape
  obtain ⟨A2, ca2, rfl, hc5, hc6⟩ := h.bow.shape
  obtain ⟨A3, ca3, rfl, hc7, hc8⟩ := h.ord.shape
  have HX := Lib.hid (AcRC.new w c (.slice A c.mdl.bats.length ca) (.slice A1 c.mdl.bows.length ca1) (.slice A2 c.bows.length ca2) (.slice A3 c.ord.length ca3))
  have hmm := @run_makeMap Tryz.prog
  have tok0 : True := trivial
  by_cases h0 : u = 0
  case neg =>
    have H0 := Lib.hid h0
    have eu : (u != 0) = true := by simp [h0]
    obtain ⟨s0, s1, s2, s3, s4⟩ := s
    unfold stV at k1
    dsimp only at k1
    have K1 := Lib.hid k1
    clear h0 k1 hsu h kfl ksr hok0 h6 hbig
    go_enter Tryz.func9, Tryz.ntmps9
    go_wp2_with (clear tok0; go_at_call 24; refine (K1.out _ HX.out.bel).mono ?_; rintro e w2 ⟨rfl, hb2⟩; have HX2 := Lib.hid (HX.out.below hb2); clear hb2; have tok1 : True := trivial)
    go_ret2
    exact .inl ⟨H0.out, rfl, HX2.out.bel.trans ((Below.alloc (Below.refl _ _) (Nat.le_refl _) _).mono HX2.out.bel.size)⟩
  obtain ⟨_, hc, hs⟩ := hok0 h0
  have eu : (u != 0) = false := by simp [h0]
  have H0 := Lib.hid h0
  have KSR := Lib.hid (ksr hc hs)
  have kf := kfl hc hs
  obtain ⟨vv, hvv⟩ : ∃ vv, vv = valS c s := ⟨_, rfl⟩
  rw [← hvv] at kf
  obtain ⟨s0, s1, s2, s3, s4⟩ := s
  unfold stV at k1 kf
  dsimp only at k1 kf
  have K1 := Lib.hid k1
  have KF := Lib.hid kf
  clear h0 k1 hsu h kfl ksr hok0 h6 hbig hc hs kf hvv
  go_enter Tryz.func9, Tryz.ntmps9
  go_wp2_with (first
    | (clear tok0; go_at_call 24; refine (K1.out _ HX.out.bel).mono ?_; rintro e w2 ⟨rfl, hb2⟩; have HX2 := Lib.hid (HX.out.below hb2); have HM2 := Lib.hid (AcMC.new (AcC.new HX2.out ⟨s0, s1, s2, s3, s4⟩) (by simp)); obtain ⟨x0, x1, x2, x3, x4, x5, x6, g0, g1, g2, g3, g4⟩ := HM2.out.cells; clear hb2; have tok1 : True := trivial)
    | (clear tok1; go_at_call 25; refine (KF.out _ _ _ _ rfl HM2.out).mono ?_; rintro e w3 ⟨D3, rfl, hm3, hk3, hh3⟩; have HM3 := Lib.hid hm3; have HK3 := Lib.hid (And.intro hk3 hh3); clear hm3 hk3 hh3 x0 x1 x2 x3 x4 x5 x6 g0 g1 g2 g3 g4; have tok2 : True := trivial)
    | (clear tok2; go_at_call 26; refine (KSR.out _ _ _ HM3.out.vals HK3.out.1 HK3.out.2).mono ?_; rintro e w4 ⟨A4, c4, l4, rfl, hb4, ht4, hn4, ho4⟩; have HB4 := Lib.hid hb4; have HT4 := Lib.hid ht4; have HN4 := Lib.hid hn4; have HO4 := Lib.hid ho4; clear hb4 ht4 hn4 ho4; have tok3 : True := trivial))
  go_ret2
  exact .inr ⟨H0.out, A4, c4, l4, rfl, HM3.out.r.bel.trans (HB4.out.mono HM3.out.r.bel.size), HT4.out, HN4.out, own_baseC HM3.out.r.bel.size HO4.out⟩
end Go.Proofs.YtdlmmbfnmnglaaaGreatDoor

namespace Go.Proofs.YtdlmmbfnmnglaaaGreatDoor
open Go.RowKit Go.Maps

set_option maxRecDepth 100000 in
set_option maxHeartbeats 4000000 in
theorem ch44_Value (c : Chs) (s : Cst) (bv wv pv ov : Value) (w : World) (h : ChAt w (· < w.heap.size) bv wv pv ov c) :
    Calls Tryz.prog 23 #[chV c bv wv pv ov, stV s] w fun e w' => e = .returned (.tuple #[.int .i64 (valueC c s).1, .int .i64 (valueC c s).2]) ∧ Below w.heap.size w w' := by
  unfold chV stV
  obtain ⟨ball, need, str, par, nxt⟩ := s
  obtain ⟨A, ca, rfl, hc1, hc2⟩ := h.mdl.bat.shape
  obtain ⟨A1, ca1, rfl, hc3, hc4⟩ := h.mdl.bow.shape
  obtain ⟨A2, ca2, rfl, hc5, hc6⟩ := h.bow.shape
  obtain ⟨A3, ca3, rfl, hc7, hc8⟩ := h.ord.shape
  have hx := CSB.new w c (.slice A c.mdl.bats.length ca) (.slice A1 c.mdl.bows.length ca1) (.slice A2 c.bows.length ca2) (.slice A3 c.ord.length ca3) ⟨ball, need, str, par, nxt⟩
  have HX := Lib.hid hx
  have HM := Lib.hid h
  obtain ⟨z, hz⟩ : ∃ z, z = valueC c ⟨ball, need, str, par, nxt⟩ := ⟨_, rfl⟩
  rw [← hz]
  unfold valueC at hz
  have k1 := fun W (hW : Below w.heap.size w W) => ch44_CheckState c ⟨ball, need, str, par, nxt⟩ _ _ _ _ W (HM.out.below hW)
  have hok := fun h => (chst_ok (c := c) (s := ⟨ball, need, str, par, nxt⟩) h).2
  have k2 := fun (hc : OkC c) (hs : OkS c ⟨ball, need, str, par, nxt⟩) W (hW : Below w.heap.size w W) => (ch44_solve c hc _ ⟨ball, need, str, par, nxt⟩ rfl hs _ (ReachC.start c _) (.slice A c.mdl.bats.length ca) (.slice A1 c.mdl.bows.length ca1) (.slice A2 c.bows.length ca2) (.slice A3 c.ord.length ca3) (· < w.heap.size) W.heap.size 0 (.map []) (W.alloc (.map #[] 0)) (h.keep (Same.of_below (hW.alloc hW.size _)) fun b hb => hb) (fun x hx => ⟨by have := hW.size; simp; omega, by have := hW.size; omega⟩) (World.ownsMap_made W _ _ _) (Known.none c _) (by rw [Nat.zero_add]; exact Nat.le_trans (cntV_le _ (left_le hc hs)) (by decide))).mono (R' := fun e w' => e = .returned (.int .i64 (valS c ⟨ball, need, str, par, nxt⟩)) ∧ Below w.heap.size w w') fun e w' h => ⟨h.1, (hW.alloc hW.size _).trans (h.2.1.below hW.size (by have := hW.size; simp; omega))⟩
  unfold chV stV at k1 k2
  dsimp only at k1 k2
  obtain ⟨u, hu⟩ : ∃ u, u = chstC c ⟨ball, need, str, par, nxt⟩ := ⟨_, rfl⟩
  obtain ⟨v, hv⟩ : ∃ v, v = valS c ⟨ball, need, str, par, nxt⟩ := ⟨_, rfl⟩
  rw [← hu] at k1 hz hok
  rw [← hv] at k2 hz
  have K1 := Lib.hid k1
  have tok0 : True := trivial
  have hmm := @run_makeMap Tryz.prog
  clear k1 hu hv h hx
  by_cases h0 : u = 0
  · rw [if_neg (by omega)] at hz
    have HZ := Lib.hid hz
    have K2 := Lib.hid (k2 (hok h0).1 (hok h0).2)
    have eu : (u != 0) = false := by simp [h0]
    clear hz h0 hok k2
    go_enter Tryz.func23, Tryz.ntmps23
    go_wp2_with (first
      | (clear tok0; go_at_call 61; refine (K1.out _ HX.out.bel).mono ?_; rintro e w2 ⟨rfl, hb2⟩; have HX2 := Lib.hid (HX.out.below hb2); obtain ⟨x0, x1, x2, x3, x4, x5, x6, y0, y1, y2, y3, y4⟩ := HX2.out.cells; dsimp only at y0 y1 y2 y3 y4; clear hb2; have tok1 : True := trivial)
      | (clear tok1; go_at_call 49; refine (K2.out _ HX2.out.bel).mono ?_; rintro e w3 ⟨rfl, hb3⟩; have HB3 := Lib.hid hb3; clear hb3; have tok2 : True := trivial))
    go_ret2
    exact ⟨by rw [HZ.out] <;> rfl, HB3.out⟩
  · rw [if_pos h0] at hz
    have HZ := Lib.hid hz
    have eu : (u != 0) = true := by simp [h0]
    clear hz h0 hok k2
    go_enter Tryz.func23, Tryz.ntmps23
    go_wp2_with (clear tok0; go_at_call 61; refine (K1.out _ HX.out.bel).mono ?_; rintro e w2 ⟨rfl, hb2⟩; have HX2 := Lib.hid (HX.out.below hb2); obtain ⟨x0, x1, x2, x3, x4, x5, x6, y0, y1, y2, y3, y4⟩ := HX2.out.cells; dsimp only at y0 y1 y2 y3 y4; clear hb2; have tok1 : True := trivial)
    go_ret2
    exact ⟨by rw [HZ.out] <;> rfl, HX2.out.bel⟩
def bigC (c : Chs) : Bool := decide (30 < c.mdl.bats.length) || decide (30 < c.mdl.bows.length) || decide (6 < c.ord.length) || decide (6 < c.bows.length) || decide (24 < c.need)
def smallC (c : Chs) : Bool := !bigC c && c.mdl.bats.all (fun b => decide (b.dist.length ≤ 100))
theorem small44_drop {l : List Bat} {k : Nat} (hk : k < l.length) : (l.drop k).all (fun b => decide (b.dist.length ≤ 100)) = (decide (l[k].dist.length ≤ 100) && (l.drop (k + 1)).all (fun b => decide (b.dist.length ≤ 100))) := by
  rw [drop_get hk, List.all_cons]
theorem big_ways (c : Chs) : (bigC c = true ∧ (30 < (c.mdl.bats.length : Int) ∨ (¬ 30 < (c.mdl.bats.length : Int) ∧ 30 < (c.mdl.bows.length : Int)) ∨ (¬ 30 < (c.mdl.bats.length : Int) ∧ ¬ 30 < (c.mdl.bows.length : Int) ∧ 6 < (c.ord.length : Int)) ∨ (¬ 30 < (c.mdl.bats.length : Int) ∧ ¬ 30 < (c.mdl.bows.length : Int) ∧ ¬ 6 < (c.ord.length : Int) ∧ 6 < (c.bows.length : Int)) ∨ (¬ 30 < (c.mdl.bats.length : Int) ∧ ¬ 30 < (c.mdl.bows.length : Int) ∧ ¬ 6 < (c.ord.length : Int) ∧ ¬ 6 < (c.bows.length : Int) ∧ 24 < c.need))) ∨
    (bigC c = false ∧ ¬ 30 < (c.mdl.bats.length : Int) ∧ ¬ 30 < (c.mdl.bows.length : Int) ∧ ¬ 6 < (c.ord.length : Int) ∧ ¬ 6 < (c.bows.length : Int) ∧ ¬ 24 < c.need) := by
  cases h : bigC c
  · refine .inr ⟨rfl, ?_⟩
    unfold bigC at h
    simp only [Bool.or_eq_false_iff, decide_eq_false_iff_not] at h
    omega
  · refine .inl ⟨rfl, ?_⟩
    unfold bigC at h
    simp only [Bool.or_eq_true, decide_eq_true_eq] at h
    omega
set_option maxRecDepth 100000 in
set_option maxHeartbeats 2000000 in
theorem law44_Small (c : Chs) (bv wv pv ov : Value) (w : World) (h : ChAt w (· < w.heap.size) bv wv pv ov c) :
    Calls Tryz.prog 8 #[chV c bv wv pv ov] w fun e w' => e = .returned (.bool (smallC c)) ∧ Below w.heap.size w w' := by
  unfold chV
  obtain ⟨z, hz⟩ : ∃ z, z = smallC c := ⟨_, rfl⟩
  rw [← hz]
  unfold smallC at hz
  obtain ⟨A, ca, rfl, hc1, hc2⟩ := h.mdl.bat.shape
  obtain ⟨A1, ca1, rfl, hc3, hc4⟩ := h.mdl.bow.shape
  obtain ⟨A2, ca2, rfl, hc5, hc6⟩ := h.bow.shape
  obtain ⟨A3, ca3, rfl, hc7, hc8⟩ := h.ord.shape
  have HX := Lib.hid (ChB.new w c (.slice A c.mdl.bats.length ca) (.slice A1 c.mdl.bows.length ca1) (.slice A2 c.bows.length ca2) (.slice A3 c.ord.length ca3))
  have HL := Lib.hid h.mdl.bat
  have hw := big_ways c
  clear h
  rcases hw with ⟨hb, hw⟩ | ⟨hb, g1, g2, g3, g4, g5⟩
  · rw [hb, Bool.not_true, Bool.false_and] at hz
    have HZ := Lib.hid hz
    clear hz hb HL
    rcases hw with g1 | ⟨g1, g2⟩ | ⟨g1, g2, g3⟩ | ⟨g1, g2, g3, g4⟩ | ⟨g1, g2, g3, g4, g5⟩
    all_goals
      go_enter Tryz.func8, Tryz.ntmps8
      go_wp2
      go_ret
      exact ⟨ret_b HZ.out.symm, HX.out.bel⟩
  · rw [hb, Bool.not_false, Bool.true_and] at hz
    have HZ : Hid (z = (c.mdl.bats.drop 0).all (fun b => decide (b.dist.length ≤ 100))) := hz
    clear hz hb
    go_enter Tryz.func8, Tryz.ntmps8
    go_wp2
    go_loopw [38] (fun i wr => ∃ k : Nat, k ≤ c.mdl.bats.length ∧ i = .int .i64 k ∧ Hid (ChB w wr w.heap.size c (.slice A c.mdl.bats.length ca) (.slice A1 c.mdl.bows.length ca1) (.slice A2 c.bows.length ca2) (.slice A3 c.ord.length ca3)) ∧ Hid (z = (c.mdl.bats.drop k).all (fun b => decide (b.dist.length ≤ 100)))) (fun i _ => c.mdl.bats.length - (intOf i).toNat)
    case atStart => exact ⟨0, Nat.zero_le _, rfl, HX, HZ⟩
    case round =>
      clear HX HZ
      obtain ⟨k, hk, rfl, HW, hzz⟩ := hrel
      by_cases hlt : k < c.mdl.bats.length
      · obtain ⟨b0, o, v, rfl, hbl, yy0, yy1, hv, hpl⟩ := bat_at HL.out hlt
        have y0 := (HW.out.bel.cell (p := ⟨b0, o + k * 2, none⟩) hbl).trans yy0
        have y1 := (HW.out.bel.cell (p := ⟨b0, o + k * 2 + 1, none⟩) hbl).trans yy1
        have hz2 := hzz.out
        rw [small44_drop hlt] at hz2
        obtain ⟨A9, c9, hve, _, _⟩ := hv.shape
        obtain ⟨p, hp⟩ : ∃ b, b = c.mdl.bats[k] := ⟨_, rfl⟩
        rw [← hp] at y0 hz2 hve
        obtain ⟨n2, hn2⟩ : ∃ n, n = p.dist.length := ⟨_, rfl⟩
        obtain ⟨pn, hpn⟩ : ∃ n, n = p.name := ⟨_, rfl⟩
        rw [← hn2] at hve hz2
        rw [← hpn] at y0
        subst hve
        have HA := Lib.hid (HW.out.alloc (.cells #[.string (S pn), .slice A9 n2 c9] 60))
        clear hzz hp hn2 hpn yy0 yy1 hv hpl
        by_cases hs : n2 ≤ 100
        · rw [decide_eq_true hs, Bool.true_and] at hz2
          have HZZ := Lib.hid hz2
          have g9 : ¬ (100 : Int) < (n2 : Int) := by omega
          clear hz2 hs
          go_wp2
          go_roundw
          case rel => exact ⟨k + 1, by omega, by go_num, HA, HZZ⟩
          case measure => simp [intOf]; omega
        · rw [decide_eq_false hs, Bool.false_and] at hz2
          have HZZ := Lib.hid hz2
          have g9 : (100 : Int) < (n2 : Int) := by omega
          clear hz2 hs
          go_wp2
          go_ret
          exact ⟨ret_b HZZ.out.symm, HA.out.bel⟩
      · obtain rfl : k = c.mdl.bats.length := by omega
        have hz2 := hzz.out
        rw [List.drop_of_length_le (Nat.le_refl _), List.all_nil] at hz2
        have HZZ := Lib.hid hz2
        clear hz2 hzz
        go_wp2
        go_ret
        exact ⟨ret_b HZZ.out.symm, HW.out.bel⟩
end Go.Proofs.YtdlmmbfnmnglaaaGreatDoor

namespace Go.Proofs.YtdlmmbfnmnglaaaGreatDoor
open Go.RowKit

theorem itoa_dig3 (n : Nat) (h : n < 10) : Lib.itoa (n : Int) = [UInt8.ofNat (48 + n)] := by
  unfold Lib.itoa
  rw [if_neg (by omega), Int.toNat_natCast, Lib.decDigits, dif_pos h]
theorem otcW_dig3 (r t : Nat) (b : Bool) (hr : r < 10) (ht : t < 10) : otcW ⟨(r : Int), b, (t : Int)⟩ = UInt8.ofNat (48 + r) :: ((if b = true then [87] else []) ++ [58, UInt8.ofNat (48 + t)]) := by
  unfold otcW
  simp only
  rw [itoa_dig3 r hr, itoa_dig3 t ht]
  simp
def exmM1 : List UInt8 := [48, 58, 56, 32, 49, 58, 52, 32, 52, 58, 52]
def exmM1d : List Otc := [⟨0, false, 8⟩, ⟨1, false, 4⟩, ⟨4, false, 4⟩]
theorem exmM1_text : textC exmM1d = (exmM1, 0) := by
  have h0 : checkD exmM1d = 0 := by kernel_rfl
  have e0 := otcW_dig3 0 8 false (by omega) (by omega)
  have e1 := otcW_dig3 1 4 false (by omega) (by omega)
  have e2 := otcW_dig3 4 4 false (by omega) (by omega)
  unfold textC
  rw [if_neg (fun k => k h0)]
  show (Lib.join [otcW ⟨((0 : Nat) : Int), false, ((8 : Nat) : Int)⟩, otcW ⟨((1 : Nat) : Int), false, ((4 : Nat) : Int)⟩, otcW ⟨((4 : Nat) : Int), false, ((4 : Nat) : Int)⟩] [32], (0 : Int)) = _
  rw [e0, e1, e2]
  kernel_rfl
theorem exmM1_parse : parseC exmM1 = (exmM1d, 0) := by
  have h1 : (pieces 32 exmM1).all pieceOk = true := by kernel_rfl
  have h2 : (pieces 32 exmM1).map pieceO = exmM1d := by kernel_rfl
  unfold parseC
  rw [h1, if_neg (by simp), h2, exmM1_text, if_neg (by simp)]
end Go.Proofs.YtdlmmbfnmnglaaaGreatDoor

namespace Go.Proofs.YtdlmmbfnmnglaaaGreatDoor
open Go.RowKit

theorem bats_lit (W : World) (v : Value) (d : List Otc) (x y : List UInt8) (hv : Sl 3 elOtc W (· < W.heap.size) v d) (hx : x.length ≤ maxLen) (hy : y.length ≤ maxLen) :
    Sl 2 elBat (W.alloc (.cells #[.string (S x), v, .string (S y), v] 60)) (· < (W.alloc (.cells #[.string (S x), v, .string (S y), v] 60)).heap.size) (.slice (some ⟨W.heap.size, 0, none⟩) 2 2) [⟨x, d⟩, ⟨y, d⟩] := by
  have hk := Blk.new W 60 #[.string (S x), v, .string (S y), v]
  have hb : Below W.heap.size W (W.alloc (.cells #[.string (S x), v, .string (S y), v] 60)) := Below.alloc (Below.refl _ _) (Nat.le_refl _) _
  have hv2 := hv.keep (G := (· < (W.alloc (.cells #[.string (S x), v, .string (S y), v] 60)).heap.size)) elOtc_good (Same.of_below hb) fun b h => Nat.lt_of_lt_of_le h hb.size
  refine ⟨_, 2, rfl, Nat.le_refl _, by decide, fun h0 => ⟨W.heap.size, 0, rfl, by simp, fun i a hi => ?_⟩⟩
  have hlt := (List.getElem?_eq_some_iff.1 hi).1
  have hc : i = 0 ∨ i = 1 := by simp at hlt; omega
  rcases hc with rfl | rfl
  · simp at hi; subst hi
    refine ⟨[.string (S x), v], rfl, fun j u hu => ?_, ⟨_, rfl, hv2⟩, hx⟩
    have hj : j = 0 ∨ j = 1 := by have := (List.getElem?_eq_some_iff.1 hu).1; simp at this; omega
    rcases hj with rfl | rfl
    · simp at hu; subst hu; exact hk.cell 0
    · simp at hu; subst hu; exact hk.cell 1
  · simp at hi; subst hi
    refine ⟨[.string (S y), v], rfl, fun j u hu => ?_, ⟨_, rfl, hv2⟩, hy⟩
    have hj : j = 0 ∨ j = 1 := by have := (List.getElem?_eq_some_iff.1 hu).1; simp at this; omega
    rcases hj with rfl | rfl
    · simp at hu; subst hu; exact hk.cell 2
    · simp at hu; subst hu; exact hk.cell 3
theorem bows_lit (W : World) (x : List UInt8) (n : Int) (hx : x.length ≤ maxLen) :
    Sl 2 elBow (W.alloc (.cells #[.string (S x), .int .i64 n] 62)) (· < (W.alloc (.cells #[.string (S x), .int .i64 n] 62)).heap.size) (.slice (some ⟨W.heap.size, 0, none⟩) 1 1) [⟨x, n⟩] := by
  have hk := Blk.new W 62 #[.string (S x), .int .i64 n]
  refine ⟨_, 1, rfl, Nat.le_refl _, by decide, fun h0 => ⟨W.heap.size, 0, rfl, by simp, fun i a hi => ?_⟩⟩
  have hlt := (List.getElem?_eq_some_iff.1 hi).1
  obtain rfl : i = 0 := by simp at hlt; omega
  simp at hi; subst hi
  refine ⟨[.string (S x), .int .i64 n], rfl, fun j u hu => ?_, rfl, hx⟩
  have hj : j = 0 ∨ j = 1 := by have := (List.getElem?_eq_some_iff.1 hu).1; simp at this; omega
  rcases hj with rfl | rfl
  · simp at hu; subst hu; exact hk.cell 0
  · simp at hu; subst hu; exact hk.cell 1
theorem ints_one (W : World) (a : Int) (e : TypeId) : Sl 1 elInt (W.alloc (.cells #[.int .i64 a] e)) (· < (W.alloc (.cells #[.int .i64 a] e)).heap.size) (.slice (some ⟨W.heap.size, 0, none⟩) 1 1) [a] := by
  have hk := Blk.new W e #[.int .i64 a]
  refine ⟨_, 1, rfl, Nat.le_refl _, by decide, fun h0 => ⟨W.heap.size, 0, rfl, by simp, fun i b hi => ?_⟩⟩
  have hlt := (List.getElem?_eq_some_iff.1 hi).1
  obtain rfl : i = 0 := by simp at hlt; omega
  simp at hi; subst hi
  refine ⟨[.int .i64 a], rfl, fun j u hu => ?_, rfl⟩
  obtain rfl : j = 0 := by have := (List.getElem?_eq_some_iff.1 hu).1; simp at this; omega
  simp at hu; subst hu; exact hk.cell 0
theorem ints_two (W : World) (a b : Int) (e : TypeId) : Sl 1 elInt (W.alloc (.cells #[.int .i64 a, .int .i64 b] e)) (· < (W.alloc (.cells #[.int .i64 a, .int .i64 b] e)).heap.size) (.slice (some ⟨W.heap.size, 0, none⟩) 2 2) [a, b] := by
  have hk := Blk.new W e #[.int .i64 a, .int .i64 b]
  refine ⟨_, 2, rfl, Nat.le_refl _, by decide, fun h0 => ⟨W.heap.size, 0, rfl, by simp, fun i x hi => ?_⟩⟩
  have hlt := (List.getElem?_eq_some_iff.1 hi).1
  have hc : i = 0 ∨ i = 1 := by simp at hlt; omega
  rcases hc with rfl | rfl
  · simp at hi; subst hi
    refine ⟨[.int .i64 a], rfl, fun j u hu => ?_, rfl⟩
    obtain rfl : j = 0 := by have := (List.getElem?_eq_some_iff.1 hu).1; simp at this; omega
    simp at hu; subst hu; exact hk.cell 0
  · simp at hi; subst hi
    refine ⟨[.int .i64 b], rfl, fun j u hu => ?_, rfl⟩
    obtain rfl : j = 0 := by have := (List.getElem?_eq_some_iff.1 hu).1; simp at this; omega
    simp at hu; subst hu; exact hk.cell 1
def chM : Mdl := ⟨[⟨[65], exmM1d⟩, ⟨[66], exmM1d⟩], [⟨[67], 0⟩]⟩
def ch1 : Chs := ⟨chM, [0], 6, 0, 2, [0, 1]⟩
def ch2 : Chs := ⟨chM, [0, 0], 6, 0, 2, [0, 1]⟩
theorem ch1_start : startC ch1 = (⟨0, 2, 0, 1, 2⟩, 0) := by kernel_rfl
theorem ch1_value : valueC ch1 ⟨0, 2, 0, 1, 2⟩ = (4, 0) := by kernel_rfl
theorem ch2_value : valueC ch2 ⟨0, 2, 0, 1, 2⟩ = (128, 0) := by kernel_rfl
/-- The world in which the first chase is laid. -/
def awW (w1 : World) (v : Value) : World :=
  (((((w1.alloc (.cells #[.string (S [65]), v, .string (S [66]), v] 60)).alloc (.cells #[.string (S [67]), .int .i64 0] 62)).alloc (.cells #[.slice (some ⟨w1.heap.size, 0, none⟩) 2 2, .slice (some ⟨w1.heap.size + 1, 0, none⟩) 1 1] 25)).alloc (.cells #[.int .i64 0] 3)).alloc (.cells #[.int .i64 0, .int .i64 1] 3)).alloc
    (.cells #[.slice (some ⟨w1.heap.size, 0, none⟩) 2 2, .slice (some ⟨w1.heap.size + 1, 0, none⟩) 1 1, .slice (some ⟨w1.heap.size + 1 + 1 + 1, 0, none⟩) 1 1, .int .i64 6, .int .i64 0, .int .i64 2, .slice (some ⟨w1.heap.size + 1 + 1 + 1 + 1, 0, none⟩) 2 2] 28)
/-- The first chase laid, in a world that has gone on. -/
structure AwI (w1 W : World) : Prop where
  bel : Below w1.heap.size w1 W
  ch : ChAt W (· < w1.heap.size + 1 + 1 + 1 + 1 + 1) (.slice (some ⟨w1.heap.size, 0, none⟩) 2 2) (.slice (some ⟨w1.heap.size + 1, 0, none⟩) 1 1) (.slice (some ⟨w1.heap.size + 1 + 1 + 1, 0, none⟩) 1 1) (.slice (some ⟨w1.heap.size + 1 + 1 + 1 + 1, 0, none⟩) 2 2) ch1
  blk : Blk W (w1.heap.size + 1 + 1 + 1 + 1 + 1) 28 #[.slice (some ⟨w1.heap.size, 0, none⟩) 2 2, .slice (some ⟨w1.heap.size + 1, 0, none⟩) 1 1, .slice (some ⟨w1.heap.size + 1 + 1 + 1, 0, none⟩) 1 1, .int .i64 6, .int .i64 0, .int .i64 2, .slice (some ⟨w1.heap.size + 1 + 1 + 1 + 1, 0, none⟩) 2 2]
theorem AwI.below {w1 W W' : World} (h : AwI w1 W) (hb : Below W.heap.size W W') : AwI w1 W' :=
  ⟨h.bel.trans (hb.mono h.bel.size), h.ch.keep (Same.below hb fun b hb => Nat.lt_trans hb h.blk.lt) fun b hb => hb, h.blk.below hb h.blk.lt⟩
theorem AwI.in {w1 W : World} (h : AwI w1 W) : ChAt W (· < W.heap.size) (.slice (some ⟨w1.heap.size, 0, none⟩) 2 2) (.slice (some ⟨w1.heap.size + 1, 0, none⟩) 1 1) (.slice (some ⟨w1.heap.size + 1 + 1 + 1, 0, none⟩) 1 1) (.slice (some ⟨w1.heap.size + 1 + 1 + 1 + 1, 0, none⟩) 2 2) ch1 := h.ch.keep (Same.refl _ _) fun b hb => Nat.lt_trans hb h.blk.lt
theorem AwI.cells {w1 W : World} (h : AwI w1 W) (k : Nat) (u : Value) (hk : #[Value.slice (some ⟨w1.heap.size, 0, none⟩) 2 2, .slice (some ⟨w1.heap.size + 1, 0, none⟩) 1 1, .slice (some ⟨w1.heap.size + 1 + 1 + 1, 0, none⟩) 1 1, .int .i64 6, .int .i64 0, .int .i64 2, .slice (some ⟨w1.heap.size + 1 + 1 + 1 + 1, 0, none⟩) 2 2][k]? = some u) : W.cell? ⟨w1.heap.size + 1 + 1 + 1 + 1 + 1, k, none⟩ = some u := (h.blk.cell k).trans hk
theorem Sl.up {α : Type} {size : Nat} {R : World → (Nat → Prop) → List Value → α → Prop} (hR : Good R) {W W' : World} {n m : Nat} {v : Value} {l : List α} (h : Sl size R W (· < W.heap.size) v l) (hb : Below W.heap.size W W') (hn : W.heap.size ≤ m) : Sl size R W' (· < m) v l :=
  h.keep hR (Same.of_below hb) fun b hb => Nat.lt_of_lt_of_le hb hn
theorem aw_start (w1 : World) (A : Option Addr) (c1 : Nat) (h : Sl 3 elOtc w1 (· < w1.heap.size) (.slice A 3 c1) exmM1d) : AwI w1 (awW w1 (.slice A 3 c1)) := by
  unfold awW
  have s1 := bats_lit w1 (.slice A 3 c1) exmM1d [65] [66] h (by decide) (by decide)
  obtain ⟨W1, hW1⟩ : ∃ W, W = w1.alloc (.cells #[.string (S [65]), .slice A 3 c1, .string (S [66]), .slice A 3 c1] 60) := ⟨_, rfl⟩
  have z1 : W1.heap.size = w1.heap.size + 1 := by rw [hW1]; simp
  have b1 : Below w1.heap.size w1 W1 := by rw [hW1]; exact Below.alloc (Below.refl _ _) (Nat.le_refl _) _
  rw [← hW1] at s1 ⊢
  have s2 := bows_lit W1 [67] 0 (by decide)
  rw [z1] at s2
  obtain ⟨W2, hW2⟩ : ∃ W, W = W1.alloc (.cells #[.string (S [67]), .int .i64 0] 62) := ⟨_, rfl⟩
  have z2 : W2.heap.size = w1.heap.size + 1 + 1 := by rw [hW2]; simp [z1]
  have b2 : Below W1.heap.size W1 W2 := by rw [hW2]; exact Below.alloc (Below.refl _ _) (Nat.le_refl _) _
  rw [← hW2] at s2 ⊢
  obtain ⟨W3, hW3⟩ : ∃ W, W = W2.alloc (.cells #[.slice (some ⟨w1.heap.size, 0, none⟩) 2 2, .slice (some ⟨w1.heap.size + 1, 0, none⟩) 1 1] 25) := ⟨_, rfl⟩
  have z3 : W3.heap.size = w1.heap.size + 1 + 1 + 1 := by rw [hW3]; simp [z2]
  have b3 : Below W2.heap.size W2 W3 := by rw [hW3]; exact Below.alloc (Below.refl _ _) (Nat.le_refl _) _
  rw [← hW3]
  have s4 := ints_one W3 0 3
  rw [z3] at s4
  obtain ⟨W4, hW4⟩ : ∃ W, W = W3.alloc (.cells #[.int .i64 0] 3) := ⟨_, rfl⟩
  have z4 : W4.heap.size = w1.heap.size + 1 + 1 + 1 + 1 := by rw [hW4]; simp [z3]
  have b4 : Below W3.heap.size W3 W4 := by rw [hW4]; exact Below.alloc (Below.refl _ _) (Nat.le_refl _) _
  rw [← hW4] at s4 ⊢
  have s5 := ints_two W4 0 1 3
  rw [z4] at s5
  obtain ⟨W5, hW5⟩ : ∃ W, W = W4.alloc (.cells #[.int .i64 0, .int .i64 1] 3) := ⟨_, rfl⟩
  have z5 : W5.heap.size = w1.heap.size + 1 + 1 + 1 + 1 + 1 := by rw [hW5]; simp [z4]
  have b5 : Below W4.heap.size W4 W5 := by rw [hW5]; exact Below.alloc (Below.refl _ _) (Nat.le_refl _) _
  rw [← hW5] at s5 ⊢
  have k6 := Blk.new W5 28 #[.slice (some ⟨w1.heap.size, 0, none⟩) 2 2, .slice (some ⟨w1.heap.size + 1, 0, none⟩) 1 1, .slice (some ⟨w1.heap.size + 1 + 1 + 1, 0, none⟩) 1 1, .int .i64 6, .int .i64 0, .int .i64 2, .slice (some ⟨w1.heap.size + 1 + 1 + 1 + 1, 0, none⟩) 2 2]
  rw [z5] at k6
  have b6 : Below W5.heap.size W5 (W5.alloc (.cells #[.slice (some ⟨w1.heap.size, 0, none⟩) 2 2, .slice (some ⟨w1.heap.size + 1, 0, none⟩) 1 1, .slice (some ⟨w1.heap.size + 1 + 1 + 1, 0, none⟩) 1 1, .int .i64 6, .int .i64 0, .int .i64 2, .slice (some ⟨w1.heap.size + 1 + 1 + 1 + 1, 0, none⟩) 2 2] 28)) := Below.alloc (Below.refl _ _) (Nat.le_refl _) _
  have c5 := b6
  have c4 := b5.trans (c5.mono b5.size)
  have c3 := b4.trans (c4.mono b4.size)
  have c2 := b3.trans (c3.mono b3.size)
  have c1 := b2.trans (c2.mono b2.size)
  exact ⟨b1.trans (c1.mono b1.size), ⟨⟨Sl.up elBat_good s1 c1 (by omega) (n := 0), Sl.up elBow_good s2 c2 (by omega) (n := 0)⟩, Sl.up elInt_good s4 c4 (by omega) (n := 0), Sl.up elInt_good s5 c5 (by omega) (n := 0)⟩, k6⟩
/-- The second chase: the bowlers are stored anew. -/
theorem aw_second {w1 W : World} (h : AwI w1 W) (u : Value) (hu : u = .slice (some ⟨W.heap.size, 0, none⟩) 2 2) :
    Below w1.heap.size w1 ((W.setCell ⟨w1.heap.size + 1 + 1 + 1 + 1 + 1, 2, none⟩ u).alloc (.cells #[.int .i64 0, .int .i64 0] 3)) ∧
    ChAt ((W.setCell ⟨w1.heap.size + 1 + 1 + 1 + 1 + 1, 2, none⟩ u).alloc (.cells #[.int .i64 0, .int .i64 0] 3)) (· < ((W.setCell ⟨w1.heap.size + 1 + 1 + 1 + 1 + 1, 2, none⟩ u).alloc (.cells #[.int .i64 0, .int .i64 0] 3)).heap.size) (.slice (some ⟨w1.heap.size, 0, none⟩) 2 2) (.slice (some ⟨w1.heap.size + 1, 0, none⟩) 1 1) u (.slice (some ⟨w1.heap.size + 1 + 1 + 1 + 1, 0, none⟩) 2 2) ch2 := by
  obtain ⟨W2, hW2⟩ : ∃ X, X = W.setCell ⟨w1.heap.size + 1 + 1 + 1 + 1 + 1, 2, none⟩ u := ⟨_, rfl⟩
  have hb : Below (w1.heap.size + 1 + 1 + 1 + 1 + 1) W W2 := by rw [hW2]; refine Below.setCell (Below.refl _ _) ?_ _; exact Nat.le_refl _
  have hz : W2.heap.size = W.heap.size := by rw [hW2]; simp
  rw [← hW2]
  have hba : Below W2.heap.size W2 (W2.alloc (.cells #[.int .i64 0, .int .i64 0] 3)) := Below.alloc (Below.refl _ _) (Nat.le_refl _) _
  have s5 := ints_two W2 0 0 3
  rw [hz, ← hu] at s5
  have hlt := h.blk.lt
  have hsz : W2.heap.size ≤ (W2.alloc (.cells #[.int .i64 0, .int .i64 0] 3)).heap.size := hba.size
  have hall : Below (w1.heap.size + 1 + 1 + 1 + 1 + 1) W (W2.alloc (.cells #[.int .i64 0, .int .i64 0] 3)) := hb.alloc (by omega) _
  have hc := h.ch.keep (G := (· < (W2.alloc (.cells #[.int .i64 0, .int .i64 0] 3)).heap.size)) (Same.below hall fun b hb => hb) fun b hb => Nat.lt_of_lt_of_le (Nat.lt_trans hb hlt) (by omega)
  exact ⟨h.bel.trans (hall.mono (by omega)), ⟨hc.mdl, s5, hc.ord⟩⟩
set_option maxRecDepth 100000 in
set_option maxHeartbeats 2000000 in
theorem law44_awake (w : World) (hg : GlobN w) : Calls Tryz.prog 7 #[] w fun e w' => e = .returned (.bool true) ∧ Below w.heap.size w w' := by
  have k1 : Calls Tryz.prog 21 #[.string ⟨#[48, 58, 56, 32, 49, 58, 52, 32, 52, 58, 52]⟩] w fun e W' => ∃ A c, e = .returned (.tuple #[.slice A 3 c, .int .i64 0]) ∧ Sl 3 elOtc W' (· < W'.heap.size) (.slice A 3 c) exmM1d ∧ Below w.heap.size w W' := by
    refine (ch_Parse (S exmM1) w hg (by decide)).mono ?_
    rintro e W' ⟨v, rfl, hs, hb⟩
    rw [S_data, exmM1_parse] at hs ⊢
    obtain ⟨A, c, rfl, _⟩ := hs.shape
    exact ⟨A, c, rfl, hs.keep elOtc_good (Same.refl _ _) fun _ h => h.2, hb⟩
  have k2 : ∀ (w1 W : World), AwI w1 W → Calls Tryz.prog 22 #[.agg #[.slice (some ⟨w1.heap.size, 0, none⟩) 2 2, .slice (some ⟨w1.heap.size + 1, 0, none⟩) 1 1, .slice (some ⟨w1.heap.size + 1 + 1 + 1, 0, none⟩) 1 1, .int .i64 6, .int .i64 0, .int .i64 2, .slice (some ⟨w1.heap.size + 1 + 1 + 1 + 1, 0, none⟩) 2 2]] W fun e W' => e = .returned (.tuple #[.agg #[.int .i64 0, .int .i64 2, .int .i64 0, .int .i64 1, .int .i64 2], .int .i64 0]) ∧ Below W.heap.size W W' := fun w1 W h => by
    have := ch44_Start ch1 _ _ _ _ W h.in
    rw [ch1_start] at this
    exact this
  have k3 : ∀ (w1 W : World), AwI w1 W → Calls Tryz.prog 23 #[.agg #[.slice (some ⟨w1.heap.size, 0, none⟩) 2 2, .slice (some ⟨w1.heap.size + 1, 0, none⟩) 1 1, .slice (some ⟨w1.heap.size + 1 + 1 + 1, 0, none⟩) 1 1, .int .i64 6, .int .i64 0, .int .i64 2, .slice (some ⟨w1.heap.size + 1 + 1 + 1 + 1, 0, none⟩) 2 2], .agg #[.int .i64 0, .int .i64 2, .int .i64 0, .int .i64 1, .int .i64 2]] W fun e W' => e = .returned (.tuple #[.int .i64 4, .int .i64 0]) ∧ Below W.heap.size W W' := fun w1 W h => by
    have := ch44_Value ch1 ⟨0, 2, 0, 1, 2⟩ _ _ _ _ W h.in
    rw [ch1_value] at this
    exact this
  have k4 : ∀ (w1 W : World) (g : Nat), ChAt W (· < W.heap.size) (.slice (some ⟨w1.heap.size, 0, none⟩) 2 2) (.slice (some ⟨w1.heap.size + 1, 0, none⟩) 1 1) (.slice (some ⟨g, 0, none⟩) 2 2) (.slice (some ⟨w1.heap.size + 1 + 1 + 1 + 1, 0, none⟩) 2 2) ch2 → Calls Tryz.prog 23 #[.agg #[.slice (some ⟨w1.heap.size, 0, none⟩) 2 2, .slice (some ⟨w1.heap.size + 1, 0, none⟩) 1 1, .slice (some ⟨g, 0, none⟩) 2 2, .int .i64 6, .int .i64 0, .int .i64 2, .slice (some ⟨w1.heap.size + 1 + 1 + 1 + 1, 0, none⟩) 2 2], .agg #[.int .i64 0, .int .i64 2, .int .i64 0, .int .i64 1, .int .i64 2]] W fun e W' => e = .returned (.tuple #[.int .i64 128, .int .i64 0]) ∧ Below W.heap.size W W' := fun w1 W g h => by
    have := ch44_Value ch2 ⟨0, 2, 0, 1, 2⟩ _ _ _ _ W h
    rw [ch2_value] at this
    exact this
  have K4 := Lib.hid k4
  have K1 := Lib.hid k1
  have K2 := Lib.hid k2
  have K3 := Lib.hid k3
  have tok0 : True := trivial
  clear k1 k2 k3 k4
  go_enter Tryz.func7, Tryz.ntmps7
  go_wp2_with (first
    | (clear tok0; go_at_call 21; refine K1.out.mono ?_; rintro e w1 ⟨A1, c1, rfl, hs1, hb1⟩; have HA1 := Lib.hid (aw_start w1 A1 c1 hs1); have HB1 := Lib.hid hb1; clear hs1 hb1; have tok1 : True := trivial)
    | (clear tok1; go_at_call 22; refine (K2.out w1 _ HA1.out).mono ?_; rintro e w2 ⟨rfl, hb2⟩; have HA2 := Lib.hid ((HA1.out.below hb2).below (Below.alloc (Below.refl _ _) (Nat.le_refl _) (.cells #[.int .i64 0, .int .i64 2, .int .i64 0, .int .i64 1, .int .i64 2] 30))); have HA2' := HA1.out.below hb2; have x0 := HA2'.cells 0 _ rfl; have x1 := HA2'.cells 1 _ rfl; have x2 := HA2'.cells 2 _ rfl; have x3 := HA2'.cells 3 _ rfl; have x4 := HA2'.cells 4 _ rfl; have x5 := HA2'.cells 5 _ rfl; have x6 := HA2'.cells 6 _ rfl; have hlt2 := HA2'.blk.lt; clear HA2' hb2; have HST := Lib.hid (Blk.new w2 30 #[.int .i64 0, .int .i64 2, .int .i64 0, .int .i64 1, .int .i64 2]); have tok2 : True := trivial)
    | (clear tok2; go_at_call 23; refine (K3.out w1 _ HA2.out).mono ?_; rintro e w3 ⟨rfl, hb3⟩; have hn1 : ¬ (w1.heap.size + 1 + 1 + 1 + 1 + 1 = w2.heap.size) := Nat.ne_of_lt hlt2; have hn2 : ¬ (w2.heap.size = w1.heap.size + 1 + 1 + 1 + 1 + 1) := fun e => hn1 e.symm; have HA3 := Lib.hid (HA2.out.below hb3); have HS3 := Lib.hid (HST.out.below hb3 HST.out.lt); clear x0 x1 x2 x3 x4 x5 x6 hlt2; have x0 := HA3.out.cells 0 _ rfl; have x1 := HA3.out.cells 1 _ rfl; have x2 := HA3.out.cells 2 _ rfl; have x3 := HA3.out.cells 3 _ rfl; have x4 := HA3.out.cells 4 _ rfl; have x5 := HA3.out.cells 5 _ rfl; have x6 := HA3.out.cells 6 _ rfl; have hlt3 := HA3.out.blk.lt; have hfr := HA3.out.blk.frozen 2; have y0 := HS3.out.cell 0; have y1 := HS3.out.cell 1; have y2 := HS3.out.cell 2; have y3 := HS3.out.cell 3; have y4 := HS3.out.cell 4; have hl3 := HS3.out.lt; simp only [List.getElem?_toArray, List.getElem?_cons_zero, List.getElem?_cons_succ] at y0 y1 y2 y3 y4; clear hb3; have tok3 : True := trivial)
    | (clear tok3; go_at_call 23; refine (K4.out w1 _ _ (aw_second HA3.out _ rfl).2).mono ?_; rintro e w4 ⟨rfl, hb4⟩; have HS4 := Lib.hid ((((HS3.out.far (p := ⟨w1.heap.size + 1 + 1 + 1 + 1 + 1, 2, none⟩) hn2 _).alloc _).below hb4 (by simp; omega)) : Blk w4 w2.heap.size 30 #[.int .i64 0, .int .i64 2, .int .i64 0, .int .i64 1, .int .i64 2]); have HB4 := Lib.hid (HB1.out.trans ((aw_second HA3.out _ rfl).1.trans (hb4.mono (aw_second HA3.out _ rfl).1.size) |>.mono HB1.out.size)); clear y0 y1 y2 y3 y4; have y0 := HS4.out.cell 0; have y1 := HS4.out.cell 1; have y2 := HS4.out.cell 2; have y3 := HS4.out.cell 3; have y4 := HS4.out.cell 4; simp only [List.getElem?_toArray, List.getElem?_cons_zero, List.getElem?_cons_succ] at y0 y1 y2 y3 y4; clear hb4; have tok4 : True := trivial))
  go_ret
  exact ⟨rfl, HB4.out⟩
end Go.Proofs.YtdlmmbfnmnglaaaGreatDoor

namespace Go.Proofs.YtdlmmbfnmnglaaaGreatDoor
open Go.RowKit

/-- Some slots hold a value of which P says what it is. -/
def spV (sp : List Nat) (P : Nat → World → Value → Prop) (tab : List (Nat × Value)) : Tab := fun d w v => bif sp.contains d then P d w v else v = (tab.lookup d).getD undef
theorem spV_of {sp : List Nat} {P : Nat → World → Value → Prop} {tab : List (Nat × Value)} {d : Nat} {w : World} {v : Value} (hs : sp.contains d = true) (h : P d w v) : spV sp P tab d w v := by
  unfold spV; rw [hs]; exact h
theorem spV_at {sp : List Nat} {P : Nat → World → Value → Prop} {tab : List (Nat × Value)} {d : Nat} {w : World} {v : Value} (hs : sp.contains d = true) (h : spV sp P tab d w v) : P d w v := by
  unfold spV at h; rw [hs] at h; exact h
theorem spV_keep {sp : List Nat} {P : Nat → World → Value → Prop} {tab : List (Nat × Value)} (hP : ∀ d w w' v, P d w v → Below w.heap.size w w' → P d w' v) {d : Nat} {w w' : World} {v : Value} (h : spV sp P tab d w v) (hb : Below w.heap.size w w') : spV sp P tab d w' v := by
  unfold spV at h ⊢
  cases hs : sp.contains d
  · rw [hs] at h; exact h
  · rw [hs] at h; exact hP _ _ _ _ h hb
theorem fgs_tmp {sp : List Nat} {P : Nat → World → Value → Prop} {tab : List (Nat × Value)} {a : Act} {w : World} {l : List Nat} (d : Nat) (v : Value) (hn : ∀ x ∈ l, Holds (spV sp P tab) a w x) (hd : l.contains d = true) (hs : sp.contains d = false) (hv : (tab.lookup d).getD undef = v) : a.tmps[d]? = some v := by
  obtain ⟨u, h1, h2⟩ := hn d (by simpa using hd)
  unfold spV at h2
  rw [hs] at h2
  have h2 : u = _ := h2
  rw [h1, h2, hv]
theorem fgs_val {sp : List Nat} {P : Nat → World → Value → Prop} {tab : List (Nat × Value)} {a : Act} {w : World} {l : List Nat} (d : Nat) (v : Value) (hn : ∀ x ∈ l, Holds (spV sp P tab) a w x) (hd : l.contains d = true) (hs : sp.contains d = false) (hv : (tab.lookup d).getD undef = v) : a.eval (.tmp d) = v :=
  eval_tmp (fgs_tmp d v hn hd hs hv)
theorem fgs_sp {sp : List Nat} {P : Nat → World → Value → Prop} {tab : List (Nat × Value)} {a : Act} {w : World} {l : List Nat} (d : Nat) (hn : ∀ x ∈ l, Holds (spV sp P tab) a w x) (hd : l.contains d = true) (hs : sp.contains d = true) : ∃ v, a.eval (.tmp d) = v ∧ P d w v := by
  obtain ⟨u, h1, h2⟩ := hn d (by simpa using hd)
  exact ⟨u, eval_tmp h1, spV_at hs h2⟩
theorem fgs_put {sp : List Nat} {P : Nat → World → Value → Prop} {tab : List (Nat × Value)} {w : World} {o : Oper} {d0 : Nat} {v : Value} (hd : o.dst = some d0) (hs : sp.contains d0 = false) (hv : v = (tab.lookup d0).getD undef) : ∀ d, o.dst = some d → spV sp P tab d w v := by
  intro d h
  rw [hd] at h
  obtain rfl := Option.some.inj h
  unfold spV
  rw [hs]; exact hv
theorem fgs_put_sp {sp : List Nat} {P : Nat → World → Value → Prop} {tab : List (Nat × Value)} {w : World} {o : Oper} {d0 : Nat} {v : Value} (hd : o.dst = some d0) (hs : sp.contains d0 = true) (hv : P d0 w v) : ∀ d, o.dst = some d → spV sp P tab d w v := by
  intro d h
  rw [hd] at h
  obtain rfl := Option.some.inj h
  exact spV_of hs hv
end Go.Proofs.YtdlmmbfnmnglaaaGreatDoor

namespace Go.Proofs.YtdlmmbfnmnglaaaGreatDoor
open Go.RowKit

theorem cut_append {P : Program} {w : World} {t e : TypeId} {size bytes : Nat} (hE : ElemOf P t e size bytes) {α : Type} {R : World → (Nat → Prop) → List Value → α → Prop} (hR : Good R)
    (hfree : ∀ (w : World) (F G : Nat → Prop) (cs : List Value) (a : α), R w F cs a → R w G cs a) (hone : ∀ (w : World) (F : Nat → Prop) (cs : List Value) (a : α), R w F cs a → ∀ u ∈ cs, u.oneCell' = true)
    (hw : ∀ (w w' : World) (F : Nat → Prop) (cs : List Value) (a : α), R w F cs a → R w' F cs a)
    {F1 F2 : Nat → Prop} {b1 o1 n1 b2 o2 m c2 : Nat} {l1 l2 : List α} (h1 : Sl size R w F1 (.slice (some ⟨b1, o1, none⟩) n1 n1) l1) (h2 : Sl size R w F2 (.slice (some ⟨b2, o2, none⟩) m c2) l2) (hF1 : ∀ b, F1 b → b < w.heap.size)
    (h63 : l1.length + l2.length ≤ maxLen) (hbytes : (l1.length + l2.length) * bytes ≤ 140737488355328) (ty : TypeId) :
    ∃ A n c w', (Builtin.append_ #[t, t] ty #[.slice (some ⟨b1, o1, none⟩) n1 n1, .slice (some ⟨b2, o2, none⟩) m c2]).run P w = .ok (.slice A n c) w' ∧ Below w.heap.size w w' ∧ Sl size R w' (· < w'.heap.size) (.slice A n c) (l1 ++ l2) := by
  obtain ⟨i, z, e1, e2, e3, e4, e5, e6, e7⟩ := hE
  subst e4 e5
  have hn1 : n1 = l1.length := by obtain ⟨_, _, hv, _⟩ := h1; injection hv
  have hm : m = l2.length := by obtain ⟨_, _, hv, _⟩ := h2; injection hv
  obtain ⟨css1, k1, k2, k3, k4⟩ := h1.rows e7
  obtain ⟨css2, g1, g2, g3, g4⟩ := h2.rows e7
  have f1 := flat_len k2
  have f2 := flat_len g2
  rw [k1] at f1
  rw [g1] at f2
  have hc2 : ∀ u ∈ css2.flatten, u.oneCell' = true := fun u hu => by
    obtain ⟨cs, hcs, hu⟩ := List.mem_flatten.1 hu
    obtain ⟨q, hq, rfl⟩ := List.getElem_of_mem hcs
    exact hone _ _ _ _ (g4 q l2[q] _ (List.getElem?_eq_getElem (by omega)) (List.getElem?_eq_getElem hq)) u hu
  by_cases h0 : l2.length = 0
  · have hl2 : l2 = [] := List.eq_nil_of_length_eq_zero h0
    have hn : css2.flatten = [] := List.eq_nil_of_length_eq_zero (by rw [f2, h0, Nat.zero_mul])
    have hr := run_append_room_src (P := P) w t t ty e i e1 e2 b1 o1 n1 n1 (.slice (some ⟨b2, o2, none⟩) m c2) 0 [] (by rw [hm, h0]; exact Src.ofSlice w e1 ⟨b2, o2, none⟩ 0 c2 [] (by simp) (fun j u hj => by simp at hj) (fun u hu => by cases hu)) (by omega) (fun j hj => by simp at hj) (fun j hj => by simp at hj)
    refine ⟨_, _, _, _, hr, ?_, ?_⟩
    · exact Below.refl _ _
    · rw [hl2, List.append_nil, Nat.add_zero]
      exact h1.keep hR (Same.refl _ _) hF1
  · have hr := run_append_grow (P := P) w t ty e i z e1 e2 e3 ⟨b1, o1, none⟩ n1 n1 css1.flatten (by rw [f1, hn1]) (fun j u hj => by rw [Addr.add_lit]; exact k3 j u hj) ⟨b2, o2, none⟩ m c2 css2.flatten (by rw [f2, hm]) (fun j u hj => by rw [Addr.add_lit]; exact g3 j u hj) (by omega) (by simp only [maxLen] at h63; omega) (growslice_fits (by omega) (by rw [hn1, hm]; exact hbytes))
    have hge := grownCap_ge w (n1 + m) n1 e
    have hcm : grownCap w (n1 + m) n1 e ≤ maxLen := grownCap_le_maxLen w (n1 + m) n1 e (by omega)
    refine ⟨_, _, _, _, hr, (Below.drew (Below.refl _ _)).alloc (Nat.le_refl _) _, ?_⟩
    refine ⟨_, _, by rw [List.length_append, hn1, hm], by rw [List.length_append]; omega, hcm, fun _ => ⟨w.heap.size, 0, rfl, by simp, fun q a hq => ?_⟩⟩
    have hcell : ∀ j u, (css1 ++ css2).flatten[j]? = some u → (w.drew.alloc (.cells (css1.flatten.toArray ++ css2.flatten.toArray ++ Builtin.zeroCells z.cells (grownCap w (n1 + m) n1 e - (n1 + m))) e)).cell? ⟨w.heap.size, j, none⟩ = some u := fun j u hj => by
      have hrow := cell_of_row _ _ j _ e _ (heap_alloc_new w.drew (.cells (css1.flatten.toArray ++ css2.flatten.toArray ++ Builtin.zeroCells z.cells (grownCap w (n1 + m) n1 e - (n1 + m))) e))
      refine Eq.trans hrow ?_
      rw [List.flatten_append] at hj
      have hlt := (List.getElem?_eq_some_iff.1 hj).1
      rw [Array.getElem?_append_left (by simpa using hlt)]
      simpa using hj
    have hszz : ∀ cs ∈ css1 ++ css2, cs.length = i.size := fun cs hcs => by
      rcases List.mem_append.1 hcs with h | h
      · exact k2 cs h
      · exact g2 cs h
    by_cases hql : q < l1.length
    · rw [List.getElem?_append_left hql] at hq
      have hcs : css1[q]? = some css1[q] := List.getElem?_eq_getElem (by omega)
      refine ⟨css1[q], k2 _ (List.getElem_mem (by omega)), fun j u hj => ?_, hw _ _ _ _ _ (hfree _ _ _ _ _ (k4 q a _ hq hcs))⟩
      rw [Nat.zero_add]
      exact hcell _ _ (flatten_get hszz (by rw [List.getElem?_append_left (by omega)]; exact hcs) hj)
    · rw [List.getElem?_append_right (by omega)] at hq
      have hlt := (List.getElem?_eq_some_iff.1 hq).1
      have hcs : css2[q - l1.length]? = some css2[q - l1.length] := List.getElem?_eq_getElem (by omega)
      refine ⟨css2[q - l1.length], g2 _ (List.getElem_mem (by omega)), fun j u hj => ?_, hw _ _ _ _ _ (hfree _ _ _ _ _ (g4 _ a _ hq hcs))⟩
      rw [Nat.zero_add]
      exact hcell _ _ (flatten_get hszz (by rw [List.getElem?_append_right (by omega), k1]; exact hcs) hj)
/-- The same as a step of a region. -/
theorem step_append_run {P : Program} {ops : Array Oper} {o : Oper} {a : Act} {w : World} {K : Act → World → Prop} {Q : Exit → Act → World → Prop} {E : Prop} (hgd : o.guard = none) (s x : Operand) (t : TypeId)
    (ho : o.op = .call { callee := .builtin .append, args := #[s, x], argTypes := #[t, t] }) (vs vx : Value) (hs : a.eval s = vs) (hx : a.eval x = vx) (v' : Value) (w' : World)
    (hr : (Builtin.append_ #[t, t] o.type #[vs, vx]).run P w = .ok v' w') (h : K (a.put o.dst v') w') : if Region.wanted o (yielded ops a.tmps) = true then Oper.wp P o a w K Q else E := by
  have hw : Region.wanted o (yielded ops a.tmps) = true := by simp [Region.wanted, hgd]
  rw [if_pos hw]
  unfold Oper.wp execOp
  simp only [ho, resolve, invoke, builtin, Sem.run_bind, Sem.run_pure, Result.andThen_ok, List.map_toArray, List.map_cons, List.map_nil, hs, hx, hr]
  exact h
end Go.Proofs.YtdlmmbfnmnglaaaGreatDoor
