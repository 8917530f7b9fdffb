/- Several texts of this family in one: D20 D21 D22 W13 D23 D28 D25 D8 D26 D29. -/
import Derived.Test.YtdlmmbfnmnglaaaGreatDoorGB3
set_option linter.unusedSimpArgs false
set_option linter.unusedVariables false
namespace Go.Proofs.YtdlmmbfnmnglaaaGreatDoor
open Go.RowKit

theorem blk_two (w : World) (o : Obj) (t : TypeId) (cs : Array Value) : Blk ((w.alloc o).alloc (.cells cs t)) (w.heap.size + 1) t cs := by
  have h := Blk.new (w.alloc o) t cs
  rwa [World.size_alloc] at h
theorem below_two (w : World) (o1 o2 : Obj) : Below w.heap.size w ((w.alloc o1).alloc o2) := (Below.alloc (Below.refl _ _) (Nat.le_refl _) _).alloc (by simp) _
def orLc : List Int → Int
  | [] => 0
  | a :: l => if a = 0 then orLc l else a
def cmpS (s t : Cst) : Int := orLc [cmpI s.ball t.ball, cmpI s.need t.need, cmpI s.str t.str, cmpI s.par t.par, cmpI s.nxt t.nxt]
set_option maxRecDepth 100000 in
set_option maxHeartbeats 1000000 in
theorem cmp_Orc (l : List Int) (v : Value) (F : Nat → Prop) (w : World) (h : Sl 1 elInt w F v l) (hF : ∀ b, F b → b < w.heap.size) : Calls Tryz.prog 69 #[v] w fun e w' => e = .returned (.int .i64 (orLc l)) ∧ Below w.heap.size w w' := by
  obtain ⟨z, hz⟩ : ∃ z, z = orLc l := ⟨_, rfl⟩
  rw [← hz]
  obtain ⟨A, c, rfl, hc, hc2⟩ := h.shape
  have HZ : Hid (z = orLc (l.drop 0)) := hz
  have HL := Lib.hid h
  have HB := Lib.hid (Below.refl w.heap.size w)
  have HF := Lib.hid hF
  clear hz h hF
  go_enter Tryz.func69, Tryz.ntmps69
  go_wp2
  go_loopw [8] (fun i wr => ∃ k : Nat, k ≤ l.length ∧ i = .int .i64 k ∧ Below w.heap.size w wr ∧ Hid (z = orLc (l.drop k))) (fun i _ => l.length - (intOf i).toNat)
  case atStart => exact ⟨0, Nat.zero_le _, rfl, HB.out, HZ⟩
  case round =>
    obtain ⟨k, hk, rfl, hb, hzz⟩ := hrel
    have HBB := Lib.hid hb
    by_cases hlt : k < l.length
    · obtain ⟨b0, o, rfl, hbl, yy0⟩ := int_at HL.out hlt
      have y0 := (hb.cell (p := ⟨b0, o + k, none⟩) (HF.out _ hbl)).trans yy0
      have hz2 := hzz.out
      rw [drop_get hlt, orLc] at hz2
      obtain ⟨p, hp⟩ : ∃ p, p = l[k] := ⟨_, rfl⟩
      rw [← hp] at hz2 y0
      clear hb hzz hp yy0
      by_cases hin : p = 0
      · rw [if_pos hin] at hz2
        have e1 : (p != 0) = false := by simp [hin]
        have HZZ := Lib.hid hz2
        clear hz2 hin
        go_wp2
        go_roundw
        case rel => exact ⟨k + 1, by omega, by go_num, HBB.out, HZZ⟩
        case measure => simp [intOf]; omega
      · rw [if_neg hin] at hz2
        have e1 : (p != 0) = true := by simp [hin]
        have HZZ := Lib.hid hz2
        clear hz2 hin
        go_wp2
        go_ret
        exact ⟨ret_i HZZ.out.symm, HBB.out⟩
    · obtain rfl : k = l.length := by omega
      have hz2 := hzz.out
      rw [List.drop_of_length_le (Nat.le_refl _), orLc] at hz2
      have HZZ := Lib.hid hz2
      clear hb hzz hz2
      go_wp2
      go_ret
      exact ⟨ret_i HZZ.out.symm, HBB.out⟩
noncomputable def ccOps : Array Oper := ((Tryz.f28.body).bind (findR6 1)).getD #[]
def ccNeeds : List (List Nat) := [[2], [5], [3], [7], [6, 8], [2], [10], [3], [12], [11, 13], [2], [15], [3], [17], [16, 18], [2], [20], [3], [22], [21, 23], [2], [25], [3], [27], [26, 28], [9, 14, 19, 24, 29], [30], [31]]
def ccTab (s t : Cst) (g d : Nat) : Value := (([(2, .pointer (some ⟨g, 0, none⟩)), (3, .pointer (some ⟨g + 1, 0, none⟩)), (5, .pointer (some ⟨g, 0, none⟩)), (6, .int .i64 s.ball), (7, .pointer (some ⟨g + 1, 0, none⟩)), (8, .int .i64 t.ball), (9, .int .i64 (cmpI s.ball t.ball)), (10, .pointer (some ⟨g, 1, none⟩)), (11, .int .i64 s.need), (12, .pointer (some ⟨g + 1, 1, none⟩)), (13, .int .i64 t.need), (14, .int .i64 (cmpI s.need t.need)), (15, .pointer (some ⟨g, 2, none⟩)), (16, .int .i64 s.str), (17, .pointer (some ⟨g + 1, 2, none⟩)), (18, .int .i64 t.str), (19, .int .i64 (cmpI s.str t.str)), (20, .pointer (some ⟨g, 3, none⟩)), (21, .int .i64 s.par), (22, .pointer (some ⟨g + 1, 3, none⟩)), (23, .int .i64 t.par), (24, .int .i64 (cmpI s.par t.par)), (25, .pointer (some ⟨g, 4, none⟩)), (26, .int .i64 s.nxt), (27, .pointer (some ⟨g + 1, 4, none⟩)), (28, .int .i64 t.nxt), (29, .int .i64 (cmpI s.nxt t.nxt)), (31, .int .i64 (cmpS s t)), (4, .int .i64 (cmpS s t))] : List (Nat × Value)).lookup d).getD undef
def ccV (s t : Cst) (g : Nat) : Tab := fun d w v => if d = 30 then Sl 1 elInt w (· < w.heap.size) v [cmpI s.ball t.ball, cmpI s.need t.need, cmpI s.str t.str, cmpI s.par t.par, cmpI s.nxt t.nxt] else v = ccTab s t g d
theorem cc_size : ccOps.size = 28 := by kernel_rfl
theorem cc_val {s t : Cst} {g : Nat} {a : Act} {w : World} (d : Nat) (v : Value) {l : List Nat} (hn : ∀ x ∈ l, Holds (ccV s t g) a w x) (hd : d ∈ l) (h30 : d ≠ 30) (hv : ccTab s t g d = v) : a.eval (.tmp d) = v := by
  obtain ⟨u, h1, h2⟩ := hn d hd
  unfold ccV at h2
  rw [if_neg h30] at h2
  subst h2
  rw [← hv]; exact eval_tmp h1
theorem cc_put {s t : Cst} {g : Nat} {w : World} {o : Oper} {d0 : Nat} {v : Value} (hd : o.dst = some d0) (h30 : d0 ≠ 30) (hv : v = ccTab s t g d0) : ∀ d, o.dst = some d → ccV s t g d w v := by
  intro d h
  rw [hd] at h
  obtain rfl := Option.some.inj h
  unfold ccV
  rw [if_neg h30]; exact hv
theorem ints_fivec (w : World) (x0 x1 x2 x3 x4 : Int) : Sl 1 elInt (w.alloc (.cells #[.int .i64 x0, .int .i64 x1, .int .i64 x2, .int .i64 x3, .int .i64 x4] 3)) (· < (w.alloc (.cells #[.int .i64 x0, .int .i64 x1, .int .i64 x2, .int .i64 x3, .int .i64 x4] 3)).heap.size) (.slice (some ⟨w.heap.size, 0, none⟩) 5 5) [x0, x1, x2, x3, x4] := by
  have hk := Blk.new w 3 #[.int .i64 x0, .int .i64 x1, .int .i64 x2, .int .i64 x3, .int .i64 x4]
  refine ⟨_, 5, rfl, Nat.le_refl _, by decide, fun h0 => ⟨w.heap.size, 0, rfl, by simp, fun i x hi => ?_⟩⟩
  have hlt := (List.getElem?_eq_some_iff.1 hi).1
  have hc : i = 0 ∨ i = 1 ∨ i = 2 ∨ i = 3 ∨ i = 4 := by simp at hlt; omega
  rcases hc with rfl | rfl | rfl | rfl | rfl
  · simp at hi; subst hi
    refine ⟨[.int .i64 x0], rfl, fun j u hu => ?_, rfl⟩
    obtain rfl : j = 0 := by have := (List.getElem?_eq_some_iff.1 hu).1; simp at this; omega
    simp at hu; subst hu; exact hk.cell 0
  · simp at hi; subst hi
    refine ⟨[.int .i64 x1], rfl, fun j u hu => ?_, rfl⟩
    obtain rfl : j = 0 := by have := (List.getElem?_eq_some_iff.1 hu).1; simp at this; omega
    simp at hu; subst hu; exact hk.cell 1
  · simp at hi; subst hi
    refine ⟨[.int .i64 x2], rfl, fun j u hu => ?_, rfl⟩
    obtain rfl : j = 0 := by have := (List.getElem?_eq_some_iff.1 hu).1; simp at this; omega
    simp at hu; subst hu; exact hk.cell 2
  · simp at hi; subst hi
    refine ⟨[.int .i64 x3], rfl, fun j u hu => ?_, rfl⟩
    obtain rfl : j = 0 := by have := (List.getElem?_eq_some_iff.1 hu).1; simp at this; omega
    simp at hu; subst hu; exact hk.cell 3
  · simp at hi; subst hi
    refine ⟨[.int .i64 x4], rfl, fun j u hu => ?_, rfl⟩
    obtain rfl : j = 0 := by have := (List.getElem?_eq_some_iff.1 hu).1; simp at this; omega
    simp at hu; subst hu; exact hk.cell 4
theorem bi_5c (w : World) (x0 x1 x2 x3 x4 : Int) : (Instr.buildSlice 26 5 #[(0, .int .i64 x0), (1, .int .i64 x1), (2, .int .i64 x2), (3, .int .i64 x3), (4, .int .i64 x4)]).run Tryz.prog w = .ok (.slice (some ⟨w.heap.size, 0, none⟩) 5 5) (w.alloc (.cells #[.int .i64 x0, .int .i64 x1, .int .i64 x2, .int .i64 x3, .int .i64 x4] 3)) := by kernel_rfl
set_option maxRecDepth 100000 in
set_option maxHeartbeats 2000000 in
theorem cc_free (s t : Cst) (w : World) :
    FreeG Tryz.prog ccOps (ccV s t w.heap.size) (fun W => Below w.heap.size w W ∧ Blk W w.heap.size 30 #[.int .i64 s.ball, .int .i64 s.need, .int .i64 s.str, .int .i64 s.par, .int .i64 s.nxt] ∧ Blk W (w.heap.size + 1) 30 #[.int .i64 t.ball, .int .i64 t.need, .int .i64 t.str, .int .i64 t.par, .int .i64 t.nxt]) (fun i => ccNeeds.getD i []) [2, 3] 32 := by
  refine ⟨backG_of (by kernel_rfl), dstG_of (by kernel_rfl), needG_of (by kernel_rfl), fun d w1 w2 v h hb => ?_, fun W W' h hb => ⟨h.1.trans (hb.mono h.1.size), h.2.1.below hb h.2.1.lt, h.2.2.below hb h.2.2.lt⟩, ?_⟩
  · unfold ccV at h ⊢
    by_cases hd : d = 30
    · rw [if_pos hd] at h ⊢
      exact h.keep elInt_good (Same.of_below hb) fun b hb2 => Nat.lt_of_lt_of_le hb2 hb.size
    · rw [if_neg hd] at h ⊢
      exact h
  intro i o ho a W hG hn
  have hlt : i < 28 := by rw [← cc_size]; exact (Array.getElem?_eq_some_iff.1 ho).1
  have hcase : i = 0 ∨ i = 1 ∨ i = 2 ∨ i = 3 ∨ i = 4 ∨ i = 5 ∨ i = 6 ∨ i = 7 ∨ i = 8 ∨ i = 9 ∨ i = 10 ∨ i = 11 ∨ i = 12 ∨ i = 13 ∨ i = 14 ∨ i = 15 ∨ i = 16 ∨ i = 17 ∨ i = 18 ∨ i = 19 ∨ i = 20 ∨ i = 21 ∨ i = 22 ∨ i = 23 ∨ i = 24 ∨ i = 25 ∨ i = 26 ∨ i = 27 := by omega
  rcases hcase with rfl | rfl | rfl | rfl | rfl | rfl | rfl | rfl | rfl | rfl | rfl | rfl | rfl | rfl | rfl | rfl | rfl | rfl | rfl | rfl | rfl | rfl | rfl | rfl | rfl | rfl | rfl | rfl
  · obtain ⟨h1, h2⟩ := opG_of (x := .fieldAddr 30 (.tmp 2) 0) (d := some 5) (by kernel_rfl) ho
    refine .inl ⟨free_not (guardG_of (by kernel_rfl) ho), ?_⟩
    exact meets_field h1 (cc_val 2 (.pointer (some ⟨w.heap.size, 0, none⟩)) hn (of_decide_eq_true (by kernel_rfl)) (by decide) rfl) (by kernel_rfl : (Instr.fieldAt 30 (.pointer (some ⟨w.heap.size, 0, none⟩)) 0).run Tryz.prog W = .ok (.pointer (some ⟨w.heap.size, 0, none⟩)) W) (cc_put h2 (by decide) rfl)
  · obtain ⟨h1, h2⟩ := opG_of (x := .load 3 (.tmp 5)) (d := some 6) (by kernel_rfl) ho
    refine .inl ⟨free_not (guardG_of (by kernel_rfl) ho), ?_⟩
    exact meets_load h1 (cc_val 5 (.pointer (some ⟨w.heap.size, 0, none⟩)) hn (of_decide_eq_true (by kernel_rfl)) (by decide) rfl) (loadAt_cell (by kernel_rfl) ((hG.2.1.cell 0).trans rfl)) (cc_put h2 (by decide) rfl)
  · obtain ⟨h1, h2⟩ := opG_of (x := .fieldAddr 30 (.tmp 3) 0) (d := some 7) (by kernel_rfl) ho
    refine .inl ⟨free_not (guardG_of (by kernel_rfl) ho), ?_⟩
    exact meets_field h1 (cc_val 3 (.pointer (some ⟨w.heap.size + 1, 0, none⟩)) hn (of_decide_eq_true (by kernel_rfl)) (by decide) rfl) (by kernel_rfl : (Instr.fieldAt 30 (.pointer (some ⟨w.heap.size + 1, 0, none⟩)) 0).run Tryz.prog W = .ok (.pointer (some ⟨w.heap.size + 1, 0, none⟩)) W) (cc_put h2 (by decide) rfl)
  · obtain ⟨h1, h2⟩ := opG_of (x := .load 3 (.tmp 7)) (d := some 8) (by kernel_rfl) ho
    refine .inl ⟨free_not (guardG_of (by kernel_rfl) ho), ?_⟩
    exact meets_load h1 (cc_val 7 (.pointer (some ⟨w.heap.size + 1, 0, none⟩)) hn (of_decide_eq_true (by kernel_rfl)) (by decide) rfl) (loadAt_cell (by kernel_rfl) ((hG.2.2.cell 0).trans rfl)) (cc_put h2 (by decide) rfl)
  · obtain ⟨h1, h2⟩ := opG_of (x := .call { callee := .value (.func 70), args := #[.tmp 6, .tmp 8], argTypes := #[3, 3] }) (d := some 9) (by kernel_rfl) ho
    refine .inl ⟨free_not (guardG_of (by kernel_rfl) ho), ?_⟩
    refine meets_call (args := #[.int .i64 s.ball, .int .i64 t.ball]) h1 rfl rfl (by have e1 := (cc_val 6 (.int .i64 s.ball) hn (of_decide_eq_true (by kernel_rfl)) (by decide) rfl); have e2 := (cc_val 8 (.int .i64 t.ball) hn (of_decide_eq_true (by kernel_rfl)) (by decide) rfl); simp [e1, e2]) Tryz.func70 (by kernel_rfl) (by kernel_rfl) fun d hd => ?_
    refine (cmp_intE _ _ W).mono ?_
    rintro e W' ⟨rfl, rfl⟩
    exact ⟨_, rfl, Below.refl _ _, cc_put h2 (by decide) rfl d hd⟩
  · obtain ⟨h1, h2⟩ := opG_of (x := .fieldAddr 30 (.tmp 2) 1) (d := some 10) (by kernel_rfl) ho
    refine .inl ⟨free_not (guardG_of (by kernel_rfl) ho), ?_⟩
    exact meets_field h1 (cc_val 2 (.pointer (some ⟨w.heap.size, 0, none⟩)) hn (of_decide_eq_true (by kernel_rfl)) (by decide) rfl) (by kernel_rfl : (Instr.fieldAt 30 (.pointer (some ⟨w.heap.size, 0, none⟩)) 1).run Tryz.prog W = .ok (.pointer (some ⟨w.heap.size, 1, none⟩)) W) (cc_put h2 (by decide) rfl)
  · obtain ⟨h1, h2⟩ := opG_of (x := .load 3 (.tmp 10)) (d := some 11) (by kernel_rfl) ho
    refine .inl ⟨free_not (guardG_of (by kernel_rfl) ho), ?_⟩
    exact meets_load h1 (cc_val 10 (.pointer (some ⟨w.heap.size, 1, none⟩)) hn (of_decide_eq_true (by kernel_rfl)) (by decide) rfl) (loadAt_cell (by kernel_rfl) ((hG.2.1.cell 1).trans rfl)) (cc_put h2 (by decide) rfl)
  · obtain ⟨h1, h2⟩ := opG_of (x := .fieldAddr 30 (.tmp 3) 1) (d := some 12) (by kernel_rfl) ho
    refine .inl ⟨free_not (guardG_of (by kernel_rfl) ho), ?_⟩
    exact meets_field h1 (cc_val 3 (.pointer (some ⟨w.heap.size + 1, 0, none⟩)) hn (of_decide_eq_true (by kernel_rfl)) (by decide) rfl) (by kernel_rfl : (Instr.fieldAt 30 (.pointer (some ⟨w.heap.size + 1, 0, none⟩)) 1).run Tryz.prog W = .ok (.pointer (some ⟨w.heap.size + 1, 1, none⟩)) W) (cc_put h2 (by decide) rfl)
  · obtain ⟨h1, h2⟩ := opG_of (x := .load 3 (.tmp 12)) (d := some 13) (by kernel_rfl) ho
    refine .inl ⟨free_not (guardG_of (by kernel_rfl) ho), ?_⟩
    exact meets_load h1 (cc_val 12 (.pointer (some ⟨w.heap.size + 1, 1, none⟩)) hn (of_decide_eq_true (by kernel_rfl)) (by decide) rfl) (loadAt_cell (by kernel_rfl) ((hG.2.2.cell 1).trans rfl)) (cc_put h2 (by decide) rfl)
  · obtain ⟨h1, h2⟩ := opG_of (x := .call { callee := .value (.func 70), args := #[.tmp 11, .tmp 13], argTypes := #[3, 3] }) (d := some 14) (by kernel_rfl) ho
    refine .inl ⟨free_not (guardG_of (by kernel_rfl) ho), ?_⟩
    refine meets_call (args := #[.int .i64 s.need, .int .i64 t.need]) h1 rfl rfl (by have e1 := (cc_val 11 (.int .i64 s.need) hn (of_decide_eq_true (by kernel_rfl)) (by decide) rfl); have e2 := (cc_val 13 (.int .i64 t.need) hn (of_decide_eq_true (by kernel_rfl)) (by decide) rfl); simp [e1, e2]) Tryz.func70 (by kernel_rfl) (by kernel_rfl) fun d hd => ?_
    refine (cmp_intE _ _ W).mono ?_
    rintro e W' ⟨rfl, rfl⟩
    exact ⟨_, rfl, Below.refl _ _, cc_put h2 (by decide) rfl d hd⟩
  · obtain ⟨h1, h2⟩ := opG_of (x := .fieldAddr 30 (.tmp 2) 2) (d := some 15) (by kernel_rfl) ho
    refine .inl ⟨free_not (guardG_of (by kernel_rfl) ho), ?_⟩
    exact meets_field h1 (cc_val 2 (.pointer (some ⟨w.heap.size, 0, none⟩)) hn (of_decide_eq_true (by kernel_rfl)) (by decide) rfl) (by kernel_rfl : (Instr.fieldAt 30 (.pointer (some ⟨w.heap.size, 0, none⟩)) 2).run Tryz.prog W = .ok (.pointer (some ⟨w.heap.size, 2, none⟩)) W) (cc_put h2 (by decide) rfl)
  · obtain ⟨h1, h2⟩ := opG_of (x := .load 3 (.tmp 15)) (d := some 16) (by kernel_rfl) ho
    refine .inl ⟨free_not (guardG_of (by kernel_rfl) ho), ?_⟩
    exact meets_load h1 (cc_val 15 (.pointer (some ⟨w.heap.size, 2, none⟩)) hn (of_decide_eq_true (by kernel_rfl)) (by decide) rfl) (loadAt_cell (by kernel_rfl) ((hG.2.1.cell 2).trans rfl)) (cc_put h2 (by decide) rfl)
  · obtain ⟨h1, h2⟩ := opG_of (x := .fieldAddr 30 (.tmp 3) 2) (d := some 17) (by kernel_rfl) ho
    refine .inl ⟨free_not (guardG_of (by kernel_rfl) ho), ?_⟩
    exact meets_field h1 (cc_val 3 (.pointer (some ⟨w.heap.size + 1, 0, none⟩)) hn (of_decide_eq_true (by kernel_rfl)) (by decide) rfl) (by kernel_rfl : (Instr.fieldAt 30 (.pointer (some ⟨w.heap.size + 1, 0, none⟩)) 2).run Tryz.prog W = .ok (.pointer (some ⟨w.heap.size + 1, 2, none⟩)) W) (cc_put h2 (by decide) rfl)
  · obtain ⟨h1, h2⟩ := opG_of (x := .load 3 (.tmp 17)) (d := some 18) (by kernel_rfl) ho
    refine .inl ⟨free_not (guardG_of (by kernel_rfl) ho), ?_⟩
    exact meets_load h1 (cc_val 17 (.pointer (some ⟨w.heap.size + 1, 2, none⟩)) hn (of_decide_eq_true (by kernel_rfl)) (by decide) rfl) (loadAt_cell (by kernel_rfl) ((hG.2.2.cell 2).trans rfl)) (cc_put h2 (by decide) rfl)
  · obtain ⟨h1, h2⟩ := opG_of (x := .call { callee := .value (.func 70), args := #[.tmp 16, .tmp 18], argTypes := #[3, 3] }) (d := some 19) (by kernel_rfl) ho
    refine .inl ⟨free_not (guardG_of (by kernel_rfl) ho), ?_⟩
    refine meets_call (args := #[.int .i64 s.str, .int .i64 t.str]) h1 rfl rfl (by have e1 := (cc_val 16 (.int .i64 s.str) hn (of_decide_eq_true (by kernel_rfl)) (by decide) rfl); have e2 := (cc_val 18 (.int .i64 t.str) hn (of_decide_eq_true (by kernel_rfl)) (by decide) rfl); simp [e1, e2]) Tryz.func70 (by kernel_rfl) (by kernel_rfl) fun d hd => ?_
    refine (cmp_intE _ _ W).mono ?_
    rintro e W' ⟨rfl, rfl⟩
    exact ⟨_, rfl, Below.refl _ _, cc_put h2 (by decide) rfl d hd⟩
  · obtain ⟨h1, h2⟩ := opG_of (x := .fieldAddr 30 (.tmp 2) 3) (d := some 20) (by kernel_rfl) ho
    refine .inl ⟨free_not (guardG_of (by kernel_rfl) ho), ?_⟩
    exact meets_field h1 (cc_val 2 (.pointer (some ⟨w.heap.size, 0, none⟩)) hn (of_decide_eq_true (by kernel_rfl)) (by decide) rfl) (by kernel_rfl : (Instr.fieldAt 30 (.pointer (some ⟨w.heap.size, 0, none⟩)) 3).run Tryz.prog W = .ok (.pointer (some ⟨w.heap.size, 3, none⟩)) W) (cc_put h2 (by decide) rfl)
  · obtain ⟨h1, h2⟩ := opG_of (x := .load 3 (.tmp 20)) (d := some 21) (by kernel_rfl) ho
    refine .inl ⟨free_not (guardG_of (by kernel_rfl) ho), ?_⟩
    exact meets_load h1 (cc_val 20 (.pointer (some ⟨w.heap.size, 3, none⟩)) hn (of_decide_eq_true (by kernel_rfl)) (by decide) rfl) (loadAt_cell (by kernel_rfl) ((hG.2.1.cell 3).trans rfl)) (cc_put h2 (by decide) rfl)
  · obtain ⟨h1, h2⟩ := opG_of (x := .fieldAddr 30 (.tmp 3) 3) (d := some 22) (by kernel_rfl) ho
    refine .inl ⟨free_not (guardG_of (by kernel_rfl) ho), ?_⟩
    exact meets_field h1 (cc_val 3 (.pointer (some ⟨w.heap.size + 1, 0, none⟩)) hn (of_decide_eq_true (by kernel_rfl)) (by decide) rfl) (by kernel_rfl : (Instr.fieldAt 30 (.pointer (some ⟨w.heap.size + 1, 0, none⟩)) 3).run Tryz.prog W = .ok (.pointer (some ⟨w.heap.size + 1, 3, none⟩)) W) (cc_put h2 (by decide) rfl)
  · obtain ⟨h1, h2⟩ := opG_of (x := .load 3 (.tmp 22)) (d := some 23) (by kernel_rfl) ho
    refine .inl ⟨free_not (guardG_of (by kernel_rfl) ho), ?_⟩
    exact meets_load h1 (cc_val 22 (.pointer (some ⟨w.heap.size + 1, 3, none⟩)) hn (of_decide_eq_true (by kernel_rfl)) (by decide) rfl) (loadAt_cell (by kernel_rfl) ((hG.2.2.cell 3).trans rfl)) (cc_put h2 (by decide) rfl)
  · obtain ⟨h1, h2⟩ := opG_of (x := .call { callee := .value (.func 70), args := #[.tmp 21, .tmp 23], argTypes := #[3, 3] }) (d := some 24) (by kernel_rfl) ho
    refine .inl ⟨free_not (guardG_of (by kernel_rfl) ho), ?_⟩
    refine meets_call (args := #[.int .i64 s.par, .int .i64 t.par]) h1 rfl rfl (by have e1 := (cc_val 21 (.int .i64 s.par) hn (of_decide_eq_true (by kernel_rfl)) (by decide) rfl); have e2 := (cc_val 23 (.int .i64 t.par) hn (of_decide_eq_true (by kernel_rfl)) (by decide) rfl); simp [e1, e2]) Tryz.func70 (by kernel_rfl) (by kernel_rfl) fun d hd => ?_
    refine (cmp_intE _ _ W).mono ?_
    rintro e W' ⟨rfl, rfl⟩
    exact ⟨_, rfl, Below.refl _ _, cc_put h2 (by decide) rfl d hd⟩
  · obtain ⟨h1, h2⟩ := opG_of (x := .fieldAddr 30 (.tmp 2) 4) (d := some 25) (by kernel_rfl) ho
    refine .inl ⟨free_not (guardG_of (by kernel_rfl) ho), ?_⟩
    exact meets_field h1 (cc_val 2 (.pointer (some ⟨w.heap.size, 0, none⟩)) hn (of_decide_eq_true (by kernel_rfl)) (by decide) rfl) (by kernel_rfl : (Instr.fieldAt 30 (.pointer (some ⟨w.heap.size, 0, none⟩)) 4).run Tryz.prog W = .ok (.pointer (some ⟨w.heap.size, 4, none⟩)) W) (cc_put h2 (by decide) rfl)
  · obtain ⟨h1, h2⟩ := opG_of (x := .load 3 (.tmp 25)) (d := some 26) (by kernel_rfl) ho
    refine .inl ⟨free_not (guardG_of (by kernel_rfl) ho), ?_⟩
    exact meets_load h1 (cc_val 25 (.pointer (some ⟨w.heap.size, 4, none⟩)) hn (of_decide_eq_true (by kernel_rfl)) (by decide) rfl) (loadAt_cell (by kernel_rfl) ((hG.2.1.cell 4).trans rfl)) (cc_put h2 (by decide) rfl)
  · obtain ⟨h1, h2⟩ := opG_of (x := .fieldAddr 30 (.tmp 3) 4) (d := some 27) (by kernel_rfl) ho
    refine .inl ⟨free_not (guardG_of (by kernel_rfl) ho), ?_⟩
    exact meets_field h1 (cc_val 3 (.pointer (some ⟨w.heap.size + 1, 0, none⟩)) hn (of_decide_eq_true (by kernel_rfl)) (by decide) rfl) (by kernel_rfl : (Instr.fieldAt 30 (.pointer (some ⟨w.heap.size + 1, 0, none⟩)) 4).run Tryz.prog W = .ok (.pointer (some ⟨w.heap.size + 1, 4, none⟩)) W) (cc_put h2 (by decide) rfl)
  · obtain ⟨h1, h2⟩ := opG_of (x := .load 3 (.tmp 27)) (d := some 28) (by kernel_rfl) ho
    refine .inl ⟨free_not (guardG_of (by kernel_rfl) ho), ?_⟩
    exact meets_load h1 (cc_val 27 (.pointer (some ⟨w.heap.size + 1, 4, none⟩)) hn (of_decide_eq_true (by kernel_rfl)) (by decide) rfl) (loadAt_cell (by kernel_rfl) ((hG.2.2.cell 4).trans rfl)) (cc_put h2 (by decide) rfl)
  · obtain ⟨h1, h2⟩ := opG_of (x := .call { callee := .value (.func 70), args := #[.tmp 26, .tmp 28], argTypes := #[3, 3] }) (d := some 29) (by kernel_rfl) ho
    refine .inl ⟨free_not (guardG_of (by kernel_rfl) ho), ?_⟩
    refine meets_call (args := #[.int .i64 s.nxt, .int .i64 t.nxt]) h1 rfl rfl (by have e1 := (cc_val 26 (.int .i64 s.nxt) hn (of_decide_eq_true (by kernel_rfl)) (by decide) rfl); have e2 := (cc_val 28 (.int .i64 t.nxt) hn (of_decide_eq_true (by kernel_rfl)) (by decide) rfl); simp [e1, e2]) Tryz.func70 (by kernel_rfl) (by kernel_rfl) fun d hd => ?_
    refine (cmp_intE _ _ W).mono ?_
    rintro e W' ⟨rfl, rfl⟩
    exact ⟨_, rfl, Below.refl _ _, cc_put h2 (by decide) rfl d hd⟩
  · obtain ⟨h1, h2⟩ := opG_of (x := .buildSlice 26 5 #[(0, .tmp 9), (1, .tmp 14), (2, .tmp 19), (3, .tmp 24), (4, .tmp 29)]) (d := some 30) (by kernel_rfl) ho
    refine .inl ⟨free_not (guardG_of (by kernel_rfl) ho), ?_⟩
    refine meets_build (e := 3) h1 #[.int .i64 (cmpI s.ball t.ball), .int .i64 (cmpI s.need t.need), .int .i64 (cmpI s.str t.str), .int .i64 (cmpI s.par t.par), .int .i64 (cmpI s.nxt t.nxt)] ?_ (fun d hd => ?_)
    · have e0 := (cc_val 9 (.int .i64 (cmpI s.ball t.ball)) hn (of_decide_eq_true (by kernel_rfl)) (by decide) rfl); have e1 := (cc_val 14 (.int .i64 (cmpI s.need t.need)) hn (of_decide_eq_true (by kernel_rfl)) (by decide) rfl); have e2 := (cc_val 19 (.int .i64 (cmpI s.str t.str)) hn (of_decide_eq_true (by kernel_rfl)) (by decide) rfl); have e3 := (cc_val 24 (.int .i64 (cmpI s.par t.par)) hn (of_decide_eq_true (by kernel_rfl)) (by decide) rfl); have e4 := (cc_val 29 (.int .i64 (cmpI s.nxt t.nxt)) hn (of_decide_eq_true (by kernel_rfl)) (by decide) rfl)
      simp only [List.map_toArray, List.map_cons, List.map_nil, e0, e1, e2, e3, e4]
      exact bi_5c W _ _ _ _ _
    · rw [h2] at hd
      obtain rfl := Option.some.inj hd
      unfold ccV
      rw [if_pos rfl]
      exact ints_fivec W _ _ _ _ _
  · obtain ⟨h1, h2⟩ := opG_of (x := .call { callee := .value (.func 69), args := #[.tmp 30], argTypes := #[26] }) (d := some 31) (by kernel_rfl) ho
    refine .inl ⟨free_not (guardG_of (by kernel_rfl) ho), ?_⟩
    obtain ⟨u, k1, k2⟩ := hn 30 (of_decide_eq_true (by kernel_rfl))
    unfold ccV at k2
    rw [if_pos rfl] at k2
    refine meets_call (args := #[u]) h1 rfl rfl (by have e1 : a.eval (.tmp 30) = u := eval_tmp k1; simp [e1]) Tryz.func69 (by kernel_rfl) (by kernel_rfl) fun d hd => ?_
    refine (cmp_Orc _ _ _ W k2 fun b h => h).mono ?_
    rintro e W' ⟨rfl, hb⟩
    exact ⟨_, rfl, hb, cc_put h2 (by decide) rfl d hd⟩
  · obtain ⟨h1, h2⟩ := opG_of (x := .assign (.tmp 31)) (d := some 4) (by kernel_rfl) ho
    refine .inl ⟨free_not (guardG_of (by kernel_rfl) ho), ?_⟩
    exact meets_move (.inr h1) (cc_put h2 (by decide) (cc_val 31 (.int .i64 (cmpS s t)) hn (of_decide_eq_true (by kernel_rfl)) (by decide) rfl))
set_option maxRecDepth 100000 in
set_option maxHeartbeats 2000000 in
theorem ch44_order (s t : Cst) (w : World) : Calls Tryz.prog 28 #[stV s, stV t] w fun e w' => e = .returned (.int .i64 (cmpS s t)) ∧ Below w.heap.size w w' := by
  have hF := cc_free s t w
  have hb := below_two w (.cells #[.int .i64 s.ball, .int .i64 s.need, .int .i64 s.str, .int .i64 s.par, .int .i64 s.nxt] 30) (.cells #[.int .i64 t.ball, .int .i64 t.need, .int .i64 t.str, .int .i64 t.par, .int .i64 t.nxt] 30)
  have h1 := (Blk.new w 30 #[.int .i64 s.ball, .int .i64 s.need, .int .i64 s.str, .int .i64 s.par, .int .i64 s.nxt]).alloc (.cells #[.int .i64 t.ball, .int .i64 t.need, .int .i64 t.str, .int .i64 t.par, .int .i64 t.nxt] 30)
  have h2 := blk_two w (.cells #[.int .i64 s.ball, .int .i64 s.need, .int .i64 s.str, .int .i64 s.par, .int .i64 s.nxt] 30) 30 #[.int .i64 t.ball, .int .i64 t.need, .int .i64 t.str, .int .i64 t.par, .int .i64 t.nxt]
  have HG := Lib.hid (⟨hb, h1, h2⟩ : _ ∧ _ ∧ _)
  have HF := Lib.hid hF
  unfold stV
  clear hF hb h1 h2
  go_enter Tryz.func28, Tryz.ntmps28
  go_wp2
  refine wp_region_freeG (by kernel_rfl : _ = ccOps) (by kernel_rfl) HF.out (of_decide_eq_true (by kernel_rfl)) HG.out (fun d hd => ?_) ?_
  · simp only [List.mem_cons, List.not_mem_nil, or_false] at hd
    rcases hd with rfl | rfl
    · exact ⟨_, rfl, by unfold ccV; rw [if_neg (by decide)]; rfl⟩
    · exact ⟨_, rfl, by unfold ccV; rw [if_neg (by decide)]; rfl⟩
  · rintro ⟨⟨l⟩, df⟩ wx hin
    obtain ⟨v4, hv4, hs4⟩ := hin.atG 27 4 (by kernel_rfl)
    have hsz : l.length = 32 := hin.size
    have hdf : df = [] := hin.dfr
    have HG2 := Lib.hid hin.g
    clear hin
    subst hdf
    unfold ccV at hs4
    rw [if_neg (by decide)] at hs4
    have hs5 : v4 = .int .i64 (cmpS s t) := hs4
    subst hs5
    clear hs4
    dsimp only at hv4
    obtain ⟨z, hz⟩ : ∃ z, z = cmpS s t := ⟨_, rfl⟩
    rw [← hz] at hv4
    have HZ := Lib.hid hz
    clear hz
    iterate 32 (obtain ⟨_, t, e, h2⟩ := listG_cons hsz; clear hsz; subst e; have hsz := h2; clear h2)
    have e0 := List.eq_nil_of_length_eq_zero hsz
    clear hsz
    subst e0
    simp only [List.getElem?_toArray, List.getElem?_cons_zero, List.getElem?_cons_succ, Option.some.injEq] at hv4
    subst hv4
    go_wp2
    go_ret
    exact ⟨ret_i HZ.out, HG2.out.1⟩
end Go.Proofs.YtdlmmbfnmnglaaaGreatDoor

namespace Go.Proofs.YtdlmmbfnmnglaaaGreatDoor
open Go.RowKit

theorem cmpI_ways (x y : Int) : (x < y ∧ cmpI x y = -1) ∨ (x = y ∧ cmpI x y = 0) ∨ (y < x ∧ cmpI x y = 1) := by
  unfold cmpI
  by_cases h : x < y
  · exact .inl ⟨h, if_pos h⟩
  · by_cases h2 : y < x
    · exact .inr (.inr ⟨h2, by rw [if_neg h, if_pos h2]⟩)
    · exact .inr (.inl ⟨by omega, by rw [if_neg h, if_neg h2]⟩)
/-- The order of states. -/
def lessS (s t : Cst) : Bool := decide (cmpS s t < 0)
def lessXS (s t : Cst) : Bool := if s.ball ≠ t.ball then decide (s.ball < t.ball) else if s.need ≠ t.need then decide (s.need < t.need) else if s.str ≠ t.str then decide (s.str < t.str) else if s.par ≠ t.par then decide (s.par < t.par) else decide (s.nxt < t.nxt)
theorem lessXS_is (s t : Cst) : lessXS s t = lessS s t := by
  unfold lessXS lessS cmpS
  rcases cmpI_ways s.ball t.ball with ⟨h, e⟩ | ⟨h, e⟩ | ⟨h, e⟩
  · rw [if_pos (by omega), e, decide_eq_true h]; rfl
  · rw [if_neg (by omega), e, orLc, if_pos rfl]
    rcases cmpI_ways s.need t.need with ⟨h, e⟩ | ⟨h, e⟩ | ⟨h, e⟩
    · rw [if_pos (by omega), e, decide_eq_true h]; rfl
    · rw [if_neg (by omega), e, orLc, if_pos rfl]
      rcases cmpI_ways s.str t.str with ⟨h, e⟩ | ⟨h, e⟩ | ⟨h, e⟩
      · rw [if_pos (by omega), e, decide_eq_true h]; rfl
      · rw [if_neg (by omega), e, orLc, if_pos rfl]
        rcases cmpI_ways s.par t.par with ⟨h, e⟩ | ⟨h, e⟩ | ⟨h, e⟩
        · rw [if_pos (by omega), e, decide_eq_true h]; rfl
        · rw [if_neg (by omega), e, orLc, if_pos rfl]
          rcases cmpI_ways s.nxt t.nxt with ⟨h, e⟩ | ⟨h, e⟩ | ⟨h, e⟩
          · rw [e, decide_eq_true h]; rfl
          · rw [e, decide_eq_false (by omega)]; rfl
          · rw [e, decide_eq_false (by omega)]; rfl
        · rw [if_pos (by omega), e, decide_eq_false (by omega)]; rfl
      · rw [if_pos (by omega), e, decide_eq_false (by omega)]; rfl
    · rw [if_pos (by omega), e, decide_eq_false (by omega)]; rfl
  · rw [if_pos (by omega), e, decide_eq_false (by omega)]; rfl
theorem orLc_zero : ∀ {l : List Int}, orLc l = 0 → ∀ x ∈ l, x = 0
  | [], _, x, h => by cases h
  | a :: l, h, x, hx => by
    rw [orLc] at h
    by_cases ha : a = 0
    · rw [if_pos ha] at h
      rcases List.mem_cons.1 hx with rfl | hx
      · exact ha
      · exact orLc_zero h x hx
    · rw [if_neg ha] at h; exact absurd h ha
theorem cmpS_eq {s t : Cst} : cmpS s t = 0 ↔ s = t := by
  constructor
  · intro h
    have hz := orLc_zero h
    have f : ∀ x y : Int, cmpI x y = 0 → x = y := fun x y h => by rcases cmpI_ways x y with ⟨_, e⟩ | ⟨k, _⟩ | ⟨_, e⟩ <;> omega
    obtain ⟨a1, a2, a3, a4, a5⟩ := s
    obtain ⟨b1, b2, b3, b4, b5⟩ := t
    have e1 := f _ _ (hz _ (by simp : cmpI a1 b1 ∈ _))
    have e2 := f _ _ (hz _ (by simp : cmpI a2 b2 ∈ _))
    have e3 := f _ _ (hz _ (by simp : cmpI a3 b3 ∈ _))
    have e4 := f _ _ (hz _ (by simp : cmpI a4 b4 ∈ _))
    have e5 := f _ _ (hz _ (by simp : cmpI a5 b5 ∈ _))
    rw [e1, e2, e3, e4, e5]
  · rintro rfl
    have f : ∀ x : Int, cmpI x x = 0 := fun x => by unfold cmpI; rw [if_neg (by omega), if_neg (by omega)]
    unfold cmpS
    simp [f, orLc]
set_option maxRecDepth 100000 in
set_option maxHeartbeats 2000000 in
theorem r44_Less (s t : Cst) (w : World) : Calls Tryz.prog 32 #[stV s, stV t] w fun e w' => e = .returned (.bool (lessS s t)) ∧ Below w.heap.size w w' := by
  rw [← lessXS_is]
  have HB := Lib.hid (below_two w (.cells #[.int .i64 s.ball, .int .i64 s.need, .int .i64 s.str, .int .i64 s.par, .int .i64 s.nxt] 30) (.cells #[.int .i64 t.ball, .int .i64 t.need, .int .i64 t.str, .int .i64 t.par, .int .i64 t.nxt] 30))
  unfold stV lessXS
  obtain ⟨a1, a2, a3, a4, a5⟩ := s
  obtain ⟨b1, b2, b3, b4, b5⟩ := t
  dsimp only at HB ⊢
  by_cases h1 : a1 = b1
  case neg =>
    rw [if_pos h1]
    have e1 : (a1 != b1) = true := by simp [h1]
    clear h1
    go_enter Tryz.func32, Tryz.ntmps32
    go_wp2
    go_ret
    exact ⟨rfl, HB.out⟩
  rw [if_neg (by simp [h1])]
  have e1 : (a1 != b1) = false := by simp [h1]
  clear h1
  by_cases h2 : a2 = b2
  case neg =>
    rw [if_pos h2]
    have e2 : (a2 != b2) = true := by simp [h2]
    clear h2
    go_enter Tryz.func32, Tryz.ntmps32
    go_wp2
    go_ret
    exact ⟨rfl, HB.out⟩
  rw [if_neg (by simp [h2])]
  have e2 : (a2 != b2) = false := by simp [h2]
  clear h2
  by_cases h3 : a3 = b3
  case neg =>
    rw [if_pos h3]
    have e3 : (a3 != b3) = true := by simp [h3]
    clear h3
    go_enter Tryz.func32, Tryz.ntmps32
    go_wp2
    go_ret
    exact ⟨rfl, HB.out⟩
  rw [if_neg (by simp [h3])]
  have e3 : (a3 != b3) = false := by simp [h3]
  clear h3
  by_cases h4 : a4 = b4
  case neg =>
    rw [if_pos h4]
    have e4 : (a4 != b4) = true := by simp [h4]
    clear h4
    go_enter Tryz.func32, Tryz.ntmps32
    go_wp2
    go_ret
    exact ⟨rfl, HB.out⟩
  rw [if_neg (by simp [h4])]
  have e4 : (a4 != b4) = false := by simp [h4]
  clear h4
  go_enter Tryz.func32, Tryz.ntmps32
  go_wp2
  go_ret
  exact ⟨rfl, HB.out⟩
set_option maxRecDepth 100000 in
set_option maxHeartbeats 1000000 in
theorem ch44_find1 (s t : Cst) (v : Int) (w : World) : Calls Tryz.prog 72 #[.agg #[.int .i64 s.ball, .int .i64 s.need, .int .i64 s.str, .int .i64 s.par, .int .i64 s.nxt, .int .i64 v], stV t] w fun e w' => e = .returned (.int .i64 (cmpS s t)) ∧ Below w.heap.size w w' := by
  have K := Lib.hid (fun W => ch44_order s t W)
  have HB := Lib.hid (below_two w (.cells #[.int .i64 s.ball, .int .i64 s.need, .int .i64 s.str, .int .i64 s.par, .int .i64 s.nxt, .int .i64 v] 32) (.cells #[.int .i64 t.ball, .int .i64 t.need, .int .i64 t.str, .int .i64 t.par, .int .i64 t.nxt] 30))
  unfold stV at K ⊢
  obtain ⟨z, hz⟩ : ∃ z, z = cmpS s t := ⟨_, rfl⟩
  rw [← hz] at K ⊢
  clear hz
  go_enter Tryz.func72, Tryz.ntmps72
  go_wp2_with (go_at_call 28; refine (K.out _).mono ?_; rintro e w2 ⟨rfl, hb⟩; have HB2 := Lib.hid (HB.out.trans (hb.mono HB.out.size)); clear hb)
  go_ret
  exact ⟨rfl, HB2.out⟩
end Go.Proofs.YtdlmmbfnmnglaaaGreatDoor

namespace Go.Proofs.YtdlmmbfnmnglaaaGreatDoor
open Go.RowKit

/-- An entry of a table. -/
structure Cve where
  st : Cst
  val : Int
def elCv (_ : World) (_ : Nat → Prop) (cs : List Value) (x : Cve) : Prop := cs = [.int .i64 x.st.ball, .int .i64 x.st.need, .int .i64 x.st.str, .int .i64 x.st.par, .int .i64 x.st.nxt, .int .i64 x.val]
theorem elCv_good : Good elCv := ⟨fun h _ _ => h⟩
theorem cv_at {w : World} {F : Nat → Prop} {A : Option Addr} {n c : Nat} {l : List Cve} (h : Sl 6 elCv w F (.slice A n c) l) {k : Nat} (hk : k < l.length) :
    ∃ b o, A = some ⟨b, o, none⟩ ∧ F b ∧ w.cell? ⟨b, o + k * 6, none⟩ = some (.int .i64 l[k].st.ball) ∧ w.cell? ⟨b, o + k * 6 + 1, none⟩ = some (.int .i64 l[k].st.need) ∧ w.cell? ⟨b, o + k * 6 + 2, none⟩ = some (.int .i64 l[k].st.str) ∧ w.cell? ⟨b, o + k * 6 + 3, none⟩ = some (.int .i64 l[k].st.par) ∧ w.cell? ⟨b, o + k * 6 + 4, none⟩ = some (.int .i64 l[k].st.nxt) ∧ w.cell? ⟨b, o + k * 6 + 5, none⟩ = some (.int .i64 l[k].val) := by
  obtain ⟨b, o, cs, h1, h2, h3, h4, h5⟩ := h.at hk
  have h5 : cs = _ := h5
  subst h5
  exact ⟨b, o, h1, h2, h4 0 _ rfl, h4 1 _ rfl, h4 2 _ rfl, h4 3 _ rfl, h4 4 _ rfl, h4 5 _ rfl⟩
/-- The target boxed. -/
structure BsC (w W : World) (t : Cst) : Prop where
  bel : Below w.heap.size w W
  box : Blk W w.heap.size 30 #[.int .i64 t.ball, .int .i64 t.need, .int .i64 t.str, .int .i64 t.par, .int .i64 t.nxt]
theorem BsC.below {w W W' : World} {t : Cst} (h : BsC w W t) (hb : Below W.heap.size W W') : BsC w W' t := ⟨h.bel.trans (hb.mono h.bel.size), h.box.below hb h.box.lt⟩
theorem BsC.drew {w W : World} {t : Cst} (h : BsC w W t) : BsC w W.drew t := ⟨Below.drew h.bel, h.box.drew⟩
theorem BsC.new (w : World) (t : Cst) : BsC w (w.alloc (.cells #[.int .i64 t.ball, .int .i64 t.need, .int .i64 t.str, .int .i64 t.par, .int .i64 t.nxt] 30)) t := ⟨Below.alloc (Below.refl _ _) (Nat.le_refl _) _, Blk.new _ _ _⟩
theorem BsC.cells {w W : World} {t : Cst} (h : BsC w W t) : W.cell? ⟨w.heap.size, 0, none⟩ = some (.int .i64 t.ball) ∧ W.cell? ⟨w.heap.size, 1, none⟩ = some (.int .i64 t.need) ∧ W.cell? ⟨w.heap.size, 2, none⟩ = some (.int .i64 t.str) ∧ W.cell? ⟨w.heap.size, 3, none⟩ = some (.int .i64 t.par) ∧ W.cell? ⟨w.heap.size, 4, none⟩ = some (.int .i64 t.nxt) := ⟨h.box.cell 0, h.box.cell 1, h.box.cell 2, h.box.cell 3, h.box.cell 4⟩
/-- Six cells of an entry after a call. -/
theorem sixC_below {W W' : World} {b o : Nat} {p0 p1 p2 p3 p4 pv : Int} (hb : Below W.heap.size W W') (hl : b < W.heap.size) (h : W.cell? ⟨b, o, none⟩ = some (.int .i64 p0) ∧ W.cell? ⟨b, o + 1, none⟩ = some (.int .i64 p1) ∧ W.cell? ⟨b, o + 2, none⟩ = some (.int .i64 p2) ∧ W.cell? ⟨b, o + 3, none⟩ = some (.int .i64 p3) ∧ W.cell? ⟨b, o + 4, none⟩ = some (.int .i64 p4) ∧ W.cell? ⟨b, o + 5, none⟩ = some (.int .i64 pv)) :
    W'.cell? ⟨b, o, none⟩ = some (.int .i64 p0) ∧ W'.cell? ⟨b, o + 1, none⟩ = some (.int .i64 p1) ∧ W'.cell? ⟨b, o + 2, none⟩ = some (.int .i64 p2) ∧ W'.cell? ⟨b, o + 3, none⟩ = some (.int .i64 p3) ∧ W'.cell? ⟨b, o + 4, none⟩ = some (.int .i64 p4) ∧ W'.cell? ⟨b, o + 5, none⟩ = some (.int .i64 pv) :=
  ⟨(hb.cell (p := ⟨b, o, none⟩) hl).trans h.1, (hb.cell (p := ⟨b, o + 1, none⟩) hl).trans h.2.1, (hb.cell (p := ⟨b, o + 2, none⟩) hl).trans h.2.2.1, (hb.cell (p := ⟨b, o + 3, none⟩) hl).trans h.2.2.2.1, (hb.cell (p := ⟨b, o + 4, none⟩) hl).trans h.2.2.2.2.1, (hb.cell (p := ⟨b, o + 5, none⟩) hl).trans h.2.2.2.2.2⟩
/-- What the search finds: all entries ahead of place i precede the target, and none from it on. -/
def CutC (l : List Cve) (t : Cst) (i : Nat) : Prop := i ≤ l.length ∧ (∀ k (h : k < l.length), k < i → cmpS l[k].st t < 0) ∧ ∀ k (h : k < l.length), i ≤ k → 0 ≤ cmpS l[k].st t
def SortC (l : List Cve) (t : Cst) : Prop := ∀ i j (hi : i < l.length) (hj : j < l.length), i ≤ j → cmpS l[j].st t < 0 → cmpS l[i].st t < 0
def foundC (l : List Cve) (t : Cst) (i : Nat) : Bool := match l[i]? with
  | some x => cmpS x.st t == 0
  | none => false
set_option maxRecDepth 100000 in
set_option maxHeartbeats 1500000 in
theorem ch44_search (l : List Cve) (v : Value) (t : Cst) (w : World) (h : Sl 6 elCv w (· < w.heap.size) v l) (hn : l.length ≤ 1000000000000) (hs : SortC l t) :
    Calls Tryz.prog 71 #[v, stV t, .func (.func 72) #[] #[]] w
      fun e w' => ∃ i : Nat, CutC l t i ∧ e = .returned (.tuple #[.int .i64 i, .bool (foundC l t i)]) ∧ Below w.heap.size w w' := by
  obtain ⟨A, c, rfl, hc, hc2⟩ := h.shape
  unfold stV
  have HX0 := Lib.hid (BsC.new w t)
  have HL := Lib.hid h
  have HS := Lib.hid hs
  obtain ⟨⟨t0, t1, t2, t3, t4⟩, ht⟩ : ∃ x, x = t := ⟨_, rfl⟩
  subst ht
  dsimp only at HX0 ⊢
  clear h hs
  go_enter Tryz.func71, Tryz.ntmps71
  go_wp2
  go_loopw [9, 10] (fun i j wr => ∃ a b : Nat, a ≤ b ∧ b ≤ l.length ∧ i = .int .i64 a ∧ j = .int .i64 b ∧ Hid (BsC w wr ⟨t0, t1, t2, t3, t4⟩) ∧ Hid (∀ k (h : k < l.length), k < a → cmpS l[k].st ⟨t0, t1, t2, t3, t4⟩ < 0) ∧ Hid (∀ k (h : k < l.length), b ≤ k → 0 ≤ cmpS l[k].st ⟨t0, t1, t2, t3, t4⟩)) (fun i j _ => (intOf j).toNat - (intOf i).toNat)
  case atStart => exact ⟨0, l.length, Nat.zero_le _, Nat.le_refl _, rfl, rfl, HX0, Lib.hid (fun k h hk => by omega), Lib.hid (fun k h hk => by omega)⟩
  case round =>
    clear HX0
    obtain ⟨a, b, hab, hbn, rfl, rfl, HX, HA, HB⟩ := hrel
    by_cases hlt : a < b
    · have f1 : IntKind.u64.wrap ((a : Int) + (b : Int)) = (a : Int) + (b : Int) := by rw [IntKind.wrap_u64]; omega
      have f2 : IntKind.i64.wrap ((a : Int) + (b : Int)) = (a : Int) + (b : Int) := IntWalk.i64_in _ (by omega)
      obtain ⟨m, hm⟩ : ∃ m : Nat, m = (a + b) / 2 := ⟨_, rfl⟩
      have f3 : ((a : Int) + (b : Int)) / 2 = (m : Int) := by rw [hm]; omega
      have hma : a ≤ m := by omega
      have hmb : m < b := by omega
      clear hm
      go_wp2
      obtain ⟨b0, o, rfl, hbl, yy⟩ := cv_at HL.out (k := m) (by omega)
      have yy := sixC_below HX.out.bel hbl yy
      obtain ⟨⟨⟨p0, p1, p2, p3, p4⟩, pv⟩, hp⟩ : ∃ x, x = l[m]'(by omega) := ⟨_, rfl⟩
      obtain ⟨z, hz⟩ : ∃ z, z = cmpS (l[m]'(by omega)).st ⟨t0, t1, t2, t3, t4⟩ := ⟨_, rfl⟩
      have k := fun W => ch44_find1 ⟨p0, p1, p2, p3, p4⟩ ⟨t0, t1, t2, t3, t4⟩ pv W
      rw [← hp] at yy hz
      dsimp only at yy hz k
      rw [← hz] at k
      unfold stV at k
      dsimp only at k
      have K := Lib.hid k
      have HYY := Lib.hid yy
      have hbd : b0 < wr.drew.heap.size := Nat.lt_of_lt_of_le hbl HX.out.bel.size
      have HXD := Lib.hid HX.out.drew
      have HYD := Lib.hid (sixC_below (Below.drew (Below.refl wr.heap.size wr)) hbd yy)
      obtain ⟨x0, x1, x2, x3, x4⟩ := HX.out.cells
      obtain ⟨y0, y1, y2, y3, y4, y5⟩ := yy
      dsimp only at x0 x1 x2 x3 x4 y0 y1 y2 y3 y4 y5
      have tok0 : True := trivial
      have hml : m < l.length := by omega
      have hcm : z < 0 → ∀ k (h : k < l.length), k < m + 1 → cmpS l[k].st ⟨t0, t1, t2, t3, t4⟩ < 0 := fun hz0 k h hk => HS.out k m h hml (by omega) (by rw [← hp]; dsimp only; rw [← hz]; exact hz0)
      have hcn : ¬ z < 0 → ∀ k (h : k < l.length), m ≤ k → 0 ≤ cmpS l[k].st ⟨t0, t1, t2, t3, t4⟩ := fun hz0 k h hk => Int.not_lt.1 fun hc => hz0 (by rw [hz]; have := HS.out m k hml h hk hc; rw [← hp] at this; exact this)
      have HCM := Lib.hid hcm
      have HCN := Lib.hid hcn
      clear k hp hz hcm hcn HX
      by_cases hz0 : z < 0
      · have HCM2 := Lib.hid (HCM.out hz0)
        go_wp2
        go_region_held3 (fun w' => w'.cell? ⟨w.heap.size, 0, none⟩ = some (.int .i64 t0) ∧ w'.cell? ⟨w.heap.size, 1, none⟩ = some (.int .i64 t1) ∧ w'.cell? ⟨w.heap.size, 2, none⟩ = some (.int .i64 t2) ∧ w'.cell? ⟨w.heap.size, 3, none⟩ = some (.int .i64 t3) ∧ w'.cell? ⟨w.heap.size, 4, none⟩ = some (.int .i64 t4) ∧ w'.cell? ⟨b0, o + m * 6, none⟩ = some (.int .i64 p0) ∧ w'.cell? ⟨b0, o + m * 6 + 1, none⟩ = some (.int .i64 p1) ∧ w'.cell? ⟨b0, o + m * 6 + 2, none⟩ = some (.int .i64 p2) ∧ w'.cell? ⟨b0, o + m * 6 + 3, none⟩ = some (.int .i64 p3) ∧ w'.cell? ⟨b0, o + m * 6 + 4, none⟩ = some (.int .i64 p4) ∧ w'.cell? ⟨b0, o + m * 6 + 5, none⟩ = some (.int .i64 pv)) (first | exact ⟨x0, x1, x2, x3, x4, y0, y1, y2, y3, y4, y5⟩ | go_keep) (first | (clear tok0; go_at_call 72; refine (K.out _).mono ?_; rintro e w3 ⟨rfl, hb⟩; have HX3 := Lib.hid (HXD.out.below hb); have HY3 := Lib.hid (sixC_below hb hbd HYD.out); clear x0 x1 x2 x3 x4 y0 y1 y2 y3 y4 y5; obtain ⟨x0, x1, x2, x3, x4⟩ := HX3.out.cells; obtain ⟨y0, y1, y2, y3, y4, y5⟩ := HY3.out; dsimp only at x0 x1 x2 x3 x4 y0 y1 y2 y3 y4 y5; clear hb; have tok1 : True := trivial))
        all_goals go_wp2
        all_goals go_roundw
        case rel => exact ⟨m + 1, b, by omega, hbn, by go_num, rfl, HX3, HCM2, HB⟩
        case measure => simp [intOf]; omega
      · have HCN2 := Lib.hid (HCN.out hz0)
        go_wp2
        go_region_held3 (fun w' => w'.cell? ⟨w.heap.size, 0, none⟩ = some (.int .i64 t0) ∧ w'.cell? ⟨w.heap.size, 1, none⟩ = some (.int .i64 t1) ∧ w'.cell? ⟨w.heap.size, 2, none⟩ = some (.int .i64 t2) ∧ w'.cell? ⟨w.heap.size, 3, none⟩ = some (.int .i64 t3) ∧ w'.cell? ⟨w.heap.size, 4, none⟩ = some (.int .i64 t4) ∧ w'.cell? ⟨b0, o + m * 6, none⟩ = some (.int .i64 p0) ∧ w'.cell? ⟨b0, o + m * 6 + 1, none⟩ = some (.int .i64 p1) ∧ w'.cell? ⟨b0, o + m * 6 + 2, none⟩ = some (.int .i64 p2) ∧ w'.cell? ⟨b0, o + m * 6 + 3, none⟩ = some (.int .i64 p3) ∧ w'.cell? ⟨b0, o + m * 6 + 4, none⟩ = some (.int .i64 p4) ∧ w'.cell? ⟨b0, o + m * 6 + 5, none⟩ = some (.int .i64 pv)) (first | exact ⟨x0, x1, x2, x3, x4, y0, y1, y2, y3, y4, y5⟩ | go_keep) (first | (clear tok0; go_at_call 72; refine (K.out _).mono ?_; rintro e w3 ⟨rfl, hb⟩; have HX3 := Lib.hid (HXD.out.below hb); have HY3 := Lib.hid (sixC_below hb hbd HYD.out); clear x0 x1 x2 x3 x4 y0 y1 y2 y3 y4 y5; obtain ⟨x0, x1, x2, x3, x4⟩ := HX3.out.cells; obtain ⟨y0, y1, y2, y3, y4, y5⟩ := HY3.out; dsimp only at x0 x1 x2 x3 x4 y0 y1 y2 y3 y4 y5; clear hb; have tok1 : True := trivial))
        all_goals go_wp2
        all_goals go_roundw
        case rel => exact ⟨a, m, by omega, by omega, rfl, rfl, HX3, HA, HCN2⟩
        case measure => simp [intOf]; omega
    · obtain rfl : a = b := by omega
      have hcut : CutC l ⟨t0, t1, t2, t3, t4⟩ a := ⟨hbn, HA.out, HB.out⟩
      have HCU := Lib.hid hcut
      clear hcut HA HB
      by_cases hal : a < l.length
      · obtain ⟨b0, o, rfl, hbl, yy⟩ := cv_at HL.out (k := a) hal
        have yy := sixC_below HX.out.bel hbl yy
        obtain ⟨⟨⟨p0, p1, p2, p3, p4⟩, pv⟩, hp⟩ : ∃ x, x = l[a]'hal := ⟨_, rfl⟩
        obtain ⟨z, hz⟩ : ∃ z, z = cmpS (l[a]'hal).st ⟨t0, t1, t2, t3, t4⟩ := ⟨_, rfl⟩
        have k := fun W => ch44_find1 ⟨p0, p1, p2, p3, p4⟩ ⟨t0, t1, t2, t3, t4⟩ pv W
        rw [← hp] at yy hz
        dsimp only at yy hz k
        rw [← hz] at k
        unfold stV at k
        dsimp only at k
        have K := Lib.hid k
        have HYY := Lib.hid yy
        have hbd : b0 < wr.drew.heap.size := Nat.lt_of_lt_of_le hbl HX.out.bel.size
        have HXD := Lib.hid HX.out.drew
        have HYD := Lib.hid (sixC_below (Below.drew (Below.refl wr.heap.size wr)) hbd yy)
        obtain ⟨x0, x1, x2, x3, x4⟩ := HX.out.cells
        obtain ⟨y0, y1, y2, y3, y4, y5⟩ := yy
        dsimp only at x0 x1 x2 x3 x4 y0 y1 y2 y3 y4 y5
        have tok0 : True := trivial
        have hfd : foundC l ⟨t0, t1, t2, t3, t4⟩ a = (z == 0) := by unfold foundC; rw [List.getElem?_eq_getElem hal, ← hp]; dsimp only; rw [hz]
        have HFD := Lib.hid hfd
        clear k hp hz HX hfd
        go_wp2
        go_region_held3 (fun w' => w'.cell? ⟨w.heap.size, 0, none⟩ = some (.int .i64 t0) ∧ w'.cell? ⟨w.heap.size, 1, none⟩ = some (.int .i64 t1) ∧ w'.cell? ⟨w.heap.size, 2, none⟩ = some (.int .i64 t2) ∧ w'.cell? ⟨w.heap.size, 3, none⟩ = some (.int .i64 t3) ∧ w'.cell? ⟨w.heap.size, 4, none⟩ = some (.int .i64 t4) ∧ w'.cell? ⟨b0, o + a * 6, none⟩ = some (.int .i64 p0) ∧ w'.cell? ⟨b0, o + a * 6 + 1, none⟩ = some (.int .i64 p1) ∧ w'.cell? ⟨b0, o + a * 6 + 2, none⟩ = some (.int .i64 p2) ∧ w'.cell? ⟨b0, o + a * 6 + 3, none⟩ = some (.int .i64 p3) ∧ w'.cell? ⟨b0, o + a * 6 + 4, none⟩ = some (.int .i64 p4) ∧ w'.cell? ⟨b0, o + a * 6 + 5, none⟩ = some (.int .i64 pv)) (first | exact ⟨x0, x1, x2, x3, x4, y0, y1, y2, y3, y4, y5⟩ | go_keep) (first | (clear tok0; go_at_call 72; refine (K.out _).mono ?_; rintro e w3 ⟨rfl, hb⟩; have HX3 := Lib.hid (HXD.out.below hb); have HY3 := Lib.hid (sixC_below hb hbd HYD.out); clear x0 x1 x2 x3 x4 y0 y1 y2 y3 y4 y5; obtain ⟨x0, x1, x2, x3, x4⟩ := HX3.out.cells; obtain ⟨y0, y1, y2, y3, y4, y5⟩ := HY3.out; dsimp only at x0 x1 x2 x3 x4 y0 y1 y2 y3 y4 y5; clear hb; have tok1 : True := trivial))
        all_goals go_wp2
        all_goals go_ret2
        all_goals exact ⟨a, HCU.out, by rw [HFD.out] <;> rfl, HX3.out.bel⟩
      · have hfd : foundC l ⟨t0, t1, t2, t3, t4⟩ a = false := by unfold foundC; rw [List.getElem?_eq_none (by omega)]
        have HFD := Lib.hid hfd
        have g1 : ¬ (a : Int) < (l.length : Int) := by omega
        have HXD := Lib.hid HX.out.drew
        clear hfd HX
        go_wp2
        go_region
        all_goals go_wp2
        all_goals go_ret2
        all_goals exact ⟨a, HCU.out, by rw [HFD.out] <;> rfl, HXD.out.bel⟩
end Go.Proofs.YtdlmmbfnmnglaaaGreatDoor

namespace Go.Proofs.YtdlmmbfnmnglaaaGreatDoor
open Go.ChangeShapes Go.WideShapes Go.ChangeAt Go.RowKit

theorem cellsCve : Tryz.prog.cellsOf 32 = 6 := by kernel_rfl
theorem cellsIc : Tryz.prog.cellsOf 3 = 1 := by kernel_rfl
theorem cellsCsc : Tryz.prog.cellsOf 30 = 5 := by kernel_rfl
theorem cellsI64c : Tryz.prog.cellsOf 2 = 1 := by kernel_rfl
theorem bounds_i64c {n : Int} (h : (Lit.int .i64 n).wf = true) : -9223372036854775808 ≤ n ∧ n ≤ 9223372036854775807 := by
  simp [Lit.wf, IntKind.min, IntKind.max, IntKind.signed, IntKind.bits] at h
  omega
section
variable {H : Type} {enc : TypeId × Value → H} {W : World}
set_option maxRecDepth 100000 in
theorem cst_raw {fuel : Nat} {held : Bool} {cs : List Value} {x : DataW H × List MemPlace} (h : DataW.trod enc Tryz.prog W 0 (fun _ => true) held fuel 30 cs = some x) :
    ∃ s : Cst, cs = [.int .i64 s.ball, .int .i64 s.need, .int .i64 s.str, .int .i64 s.par, .int .i64 s.nxt] := by
  obtain ⟨ys, n, _, rfl, hc, hl, hf⟩ := DataW.trod_struct Tryz.underlying30 h
  rw [cellsCsc] at hc
  match cs, hc with
  | [c0, c1, c2, c3, c4], _ =>
    match ys, hl with
    | [z0, z1, z2, z3, z4], _ =>
      obtain ⟨a0, e0, _, _⟩ := DataW.trod_int Tryz.underlying3 (hf 0 _ rfl)
      obtain ⟨a1, e1, _, _⟩ := DataW.trod_int Tryz.underlying3 (hf 1 _ rfl)
      obtain ⟨a2, e2, _, _⟩ := DataW.trod_int Tryz.underlying3 (hf 2 _ rfl)
      obtain ⟨a3, e3, _, _⟩ := DataW.trod_int Tryz.underlying3 (hf 3 _ rfl)
      obtain ⟨a4, e4, _, _⟩ := DataW.trod_int Tryz.underlying3 (hf 4 _ rfl)
      have g0 : c0 = .int .i64 a0 := by simpa [Value.cells, cellsIc] using e0
      have g1 : c1 = .int .i64 a1 := by simpa [Value.cells, cellsIc] using e1
      have g2 : c2 = .int .i64 a2 := by simpa [Value.cells, cellsIc] using e2
      have g3 : c3 = .int .i64 a3 := by simpa [Value.cells, cellsIc] using e3
      have g4 : c4 = .int .i64 a4 := by simpa [Value.cells, cellsIc] using e4
      subst g0 g1 g2 g3 g4
      exact ⟨⟨a0, a1, a2, a3, a4⟩, rfl⟩
set_option maxRecDepth 100000 in
/-- An entry of a table that came in. -/
theorem open_cve {r : Reach} {b0 : Nat} {v : Value} {d : DataW H} {p : List MemPlace} (hv : Value.okWide Tryz.prog W r b0 32 v) (h : DataW.Trod enc Tryz.prog W 0 (fun _ => true) true 32 v d p) :
    ∃ x : Cve, v = .agg #[.int .i64 x.st.ball, .int .i64 x.st.need, .int .i64 x.st.str, .int .i64 x.st.par, .int .i64 x.st.nxt, .int .i64 x.val] ∧ -9223372036854775808 ≤ x.val ∧ x.val ≤ 9223372036854775807 := by
  obtain ⟨cs, rfl, hsz⟩ := okWide_struct Tryz.underlying32 hv
  obtain ⟨fuel, hf⟩ := h
  obtain ⟨l⟩ := cs
  match l, hsz.trans cellsCve with
  | [c0, c1, c2, c3, c4, c5], _ =>
    obtain ⟨ys, n, _, _, _, hl, hf⟩ := DataW.trod_struct Tryz.underlying32 hf
    match ys, hl with
    | [z0, z1], _ =>
      obtain ⟨s, e0⟩ := cst_raw (hf 0 _ rfl)
      obtain ⟨a1, e1, _, w1⟩ := DataW.trod_int Tryz.underlying2 (hf 1 _ rfl)
      have g0 : c0 = .int .i64 s.ball ∧ c1 = .int .i64 s.need ∧ c2 = .int .i64 s.str ∧ c3 = .int .i64 s.par ∧ c4 = .int .i64 s.nxt := by simpa [Value.cells, cellsCsc, cellsI64c] using e0
      have g1 : c5 = .int .i64 a1 := by simpa [Value.cells, cellsCsc, cellsI64c] using e1
      obtain ⟨k0, k1, k2, k3, k4⟩ := g0
      subst k0 k1 k2 k3 k4 g1
      exact ⟨⟨s, a1⟩, rfl, bounds_i64c w1⟩
end
end Go.Proofs.YtdlmmbfnmnglaaaGreatDoor

namespace Go.Proofs.YtdlmmbfnmnglaaaGreatDoor
open Go.RowKit

theorem lessS_iff {s t : Cst} : cmpS s t < 0 ↔ s.ball < t.ball ∨ (s.ball = t.ball ∧ (s.need < t.need ∨ (s.need = t.need ∧ (s.str < t.str ∨ (s.str = t.str ∧ (s.par < t.par ∨ (s.par = t.par ∧ s.nxt < t.nxt))))))) := by
  have h := lessXS_is s t
  unfold lessS at h
  rw [← decide_eq_true_iff (p := cmpS s t < 0), ← h]
  unfold lessXS
  by_cases h1 : s.ball = t.ball
  · rw [if_neg (by simp [h1])]
    by_cases h2 : s.need = t.need
    · rw [if_neg (by simp [h2])]
      by_cases h3 : s.str = t.str
      · rw [if_neg (by simp [h3])]
        by_cases h4 : s.par = t.par
        · rw [if_neg (by simp [h4]), decide_eq_true_iff]; omega
        · rw [if_pos h4, decide_eq_true_iff]; omega
      · rw [if_pos h3, decide_eq_true_iff]; omega
    · rw [if_pos h2, decide_eq_true_iff]; omega
  · rw [if_pos h1, decide_eq_true_iff]; omega
theorem cmpS_trans {s t u : Cst} (h1 : cmpS s t < 0) (h2 : cmpS t u < 0) : cmpS s u < 0 := by
  rw [lessS_iff] at *
  omega
theorem cmpS_total {s t : Cst} (h : s ≠ t) : cmpS s t < 0 ∨ cmpS t s < 0 := by
  rw [lessS_iff, lessS_iff]
  obtain ⟨a1, a2, a3, a4, a5⟩ := s
  obtain ⟨b1, b2, b3, b4, b5⟩ := t
  dsimp only
  have : ¬ (a1 = b1 ∧ a2 = b2 ∧ a3 = b3 ∧ a4 = b4 ∧ a5 = b5) := fun ⟨e1, e2, e3, e4, e5⟩ => h (by rw [e1, e2, e3, e4, e5])
  omega
/-- A table in order. -/
def StrictC (l : List Cve) : Prop := ∀ i j (hi : i < l.length) (hj : j < l.length), i < j → cmpS l[i].st l[j].st < 0
theorem StrictC.sort {l : List Cve} (h : StrictC l) (t : Cst) : SortC l t := fun i j hi hj hij hc => by
  by_cases e : i = j
  · subst e; exact hc
  · exact cmpS_trans (h i j hi hj (by omega)) hc
def lookC (l : List Cve) (t : Cst) : Int × Bool := match l.find? (fun x => (cmpS x.st t == 0)) with
  | some x => (x.val, true)
  | none => (0, false)
theorem cutC_ex {l : List Cve} {t : Cst} (hs : SortC l t) : ∃ i, CutC l t i := by
  have : ∀ m, m ≤ l.length → ∃ i, i ≤ m ∧ (∀ k (h : k < l.length), k < i → cmpS l[k].st t < 0) ∧ ∀ k (h : k < l.length), i ≤ k → k < m → 0 ≤ cmpS l[k].st t := by
    intro m
    induction m with
    | zero => intro _; exact ⟨0, Nat.le_refl _, fun k h hk => by omega, fun k h h1 h2 => by omega⟩
    | succ m ih =>
      intro hm
      obtain ⟨i, h1, h2, h3⟩ := ih (by omega)
      by_cases hc : cmpS (l[m]'(by omega)).st t < 0
      · exact ⟨m + 1, Nat.le_refl _, fun k h hk => hs k m h (by omega) (by omega) hc, fun k h hk1 hk2 => by omega⟩
      · refine ⟨i, by omega, h2, fun k h hk1 hk2 => ?_⟩
        by_cases e : k = m
        · subst e; omega
        · exact h3 k h hk1 (by omega)
  obtain ⟨i, h1, h2, h3⟩ := this l.length (Nat.le_refl _)
  exact ⟨i, h1, h2, fun k h hk => h3 k h hk h⟩
theorem cutC_one {l : List Cve} {t : Cst} {i j : Nat} (h1 : CutC l t i) (h2 : CutC l t j) : i = j := by
  rcases Nat.lt_trichotomy i j with h | h | h
  · have a := h2.2.1 i (by have := h2.1; omega) h
    have b := h1.2.2 i (by have := h2.1; omega) (Nat.le_refl _)
    omega
  · exact h
  · have a := h1.2.1 j (by have := h1.1; omega) h
    have b := h2.2.2 j (by have := h1.1; omega) (Nat.le_refl _)
    omega
theorem lookC_cut {l : List Cve} {t : Cst} {i : Nat} (hs : StrictC l) (hc : CutC l t i) : (foundC l t i = false → lookC l t = (0, false)) ∧ (foundC l t i = true → ∃ h : i < l.length, lookC l t = (l[i].val, true)) := by
  unfold lookC
  constructor
  · intro hf
    have hnone : l.find? (fun x => (cmpS x.st t == 0)) = none := by
      rw [List.find?_eq_none]
      intro x hx
      obtain ⟨k, hk, rfl⟩ := List.getElem_of_mem hx
      intro e0
      have hz : cmpS l[k].st t = 0 := by simpa using e0
      have e := cmpS_eq.1 hz
      rcases Nat.lt_trichotomy k i with h | h | h
      · have := hc.2.1 k hk h; omega
      · subst h
        unfold foundC at hf
        rw [List.getElem?_eq_getElem hk] at hf
        dsimp only at hf
        rw [hz] at hf
        cases hf
      · have hil : i < l.length := by omega
        have a := hs i k hil hk h
        rw [e] at a
        have b := hc.2.2 i hil (Nat.le_refl _)
        omega
    rw [hnone]
  · intro hf
    unfold foundC at hf
    by_cases hil : i < l.length
    · rw [List.getElem?_eq_getElem hil] at hf
      dsimp only at hf
      have hz : l[i].st = t := cmpS_eq.1 (by simpa using hf)
      refine ⟨hil, ?_⟩
      have hsome : l.find? (fun x => (cmpS x.st t == 0)) = some l[i] := by
        rw [List.find?_eq_some_iff_getElem]
        refine ⟨hf, i, hil, rfl, fun j hj => ?_⟩
        have := hc.2.1 j (by omega) hj
        have h9 : (cmpS l[j].st t == 0) = false := beq_eq_false_iff_ne.2 (by omega)
        rw [h9]; rfl
      rw [hsome]
    · rw [List.getElem?_eq_none (by omega)] at hf
      cases hf
set_option maxRecDepth 100000 in
set_option maxHeartbeats 1000000 in
theorem ch44_find (l : List Cve) (v : Value) (t : Cst) (w : World) (h : Sl 6 elCv w (· < w.heap.size) v l) (hn : l.length ≤ 1000000000000) (hs : StrictC l) :
    Calls Tryz.prog 29 #[v, stV t] w fun e w' => e = .returned (.tuple #[.int .i64 (lookC l t).1, .bool (lookC l t).2]) ∧ Below w.heap.size w w' := by
  obtain ⟨i, hcut⟩ := cutC_ex (hs.sort t)
  obtain ⟨lk1, lk2⟩ := lookC_cut hs hcut
  obtain ⟨⟨z1, z2⟩, hz⟩ : ∃ z, z = lookC l t := ⟨_, rfl⟩
  rw [← hz] at lk1 lk2 ⊢
  have k : ∀ W, Below w.heap.size w W → Calls Tryz.prog 71 #[v, stV t, .func (.func 72) #[] #[]] W fun e w' => e = .returned (.tuple #[.int .i64 i, .bool (foundC l t i)]) ∧ Below W.heap.size W w' := fun W hW =>
    (ch44_search l v t W (h.keep elCv_good (Same.of_below hW) fun b hb => Nat.lt_of_lt_of_le hb hW.size) hn (hs.sort t)).mono fun e w' ⟨j, h1, h2, h3⟩ => ⟨by rw [cutC_one hcut h1]; exact h2, h3⟩
  have HX0 := Lib.hid (BsC.new w t)
  have HL := Lib.hid h
  obtain ⟨A, c, rfl, hc, hc2⟩ := h.shape
  unfold stV at k ⊢
  clear h hs hcut hz
  cases hf : foundC l t i
  · rw [hf] at k
    have HZ := Lib.hid (lk1 hf)
    have K := Lib.hid k
    clear lk1 lk2 hf k
    go_enter Tryz.func29, Tryz.ntmps29
    go_wp2_with (go_at_call 71; refine (K.out _ HX0.out.bel).mono ?_; rintro e w2 ⟨rfl, hb⟩; have HX2 := Lib.hid (HX0.out.below hb); clear hb)
    go_ret2
    exact ⟨by have h9 := HZ.out; injection h9 with h7 h8; rw [h7, h8] <;> rfl, HX2.out.bel⟩
  · rw [hf] at k
    obtain ⟨hil, hz2⟩ := lk2 hf
    have HZ := Lib.hid hz2
    have K := Lib.hid k
    obtain ⟨b0, o, rfl, hbl, yy⟩ := cv_at HL.out hil
    have y5 := yy.2.2.2.2.2
    obtain ⟨pv, hpv⟩ : ∃ x, x = l[i].val := ⟨_, rfl⟩
    rw [← hpv] at y5 HZ
    clear lk1 lk2 hf k hz2 yy hpv
    have HY := Lib.hid y5
    go_enter Tryz.func29, Tryz.ntmps29
    go_wp2_with (go_at_call 71; refine (K.out _ HX0.out.bel).mono ?_; rintro e w2 ⟨rfl, hb⟩; have HX2 := Lib.hid (HX0.out.below hb); have y6 := (HX2.out.bel.cell (p := ⟨b0, o + i * 6 + 5, none⟩) hbl).trans HY.out; clear hb)
    go_ret2
    exact ⟨by have h9 := HZ.out; injection h9 with h7 h8; rw [h7, h8] <;> rfl, HX2.out.bel⟩
end Go.Proofs.YtdlmmbfnmnglaaaGreatDoor

namespace Go.Proofs.YtdlmmbfnmnglaaaGreatDoor
open Go.RowKit

/-- Every state of a table is one of the task, and the states rise. -/
def FormC (c : Chs) (l : List Cve) : Prop := ∀ (i : Nat) (h : i < l.length), stateC c l[i].st = 0 ∧ ∀ (h0 : 0 < i), cmpS (l[i - 1]'(by omega)).st l[i].st < 0
/-- The value of a state by a table, and whether every state that follows is in it. -/
def runLC (lk : Cst → Int × Bool) (f : Otc → Cst) : List Otc → Int → Int × Bool
  | [], b => (b, true)
  | o :: l, b => if (lk (f o)).2 = true then runLC lk f l (wrap64 (b + wrap64 (o.wt * (lk (f o)).1))) else (0, false)
theorem runLC_at {lk : Cst → Int × Bool} {f : Otc → Cst} {l : List Otc} {k : Nat} {b : Int} (h : k < l.length) : runLC lk f (l.drop k) b = if (lk (f l[k])).2 = true then runLC lk f (l.drop (k + 1)) (wrap64 (b + wrap64 (l[k].wt * (lk (f l[k])).1))) else (0, false) := by
  rw [drop_get h, runLC]
def valLC (c : Chs) (lk : Cst → Int × Bool) (s : Cst) : Int × Bool := if stC c s = 1 then runLC lk (stepC c s) (mvC c s) 0 else (valS c s, true)
def entE (c : Chs) (lk : Cst → Int × Bool) (x : Cve) : Int := if (valLC c lk x.st).2 = false then 6 else if (valLC c lk x.st).1 ≠ x.val then 12 else 0
def entC (c : Chs) (lk : Cst → Int × Bool) : List Cve → Int
  | [] => 0
  | x :: t => if entE c lk x ≠ 0 then entE c lk x else entC c lk t
open Classical in
noncomputable def acceptC (c : Chs) (l : List Cve) : Int :=
  if (startC c).2 ≠ 0 then (startC c).2 else if ¬ FormC c l then 4 else if (lookC l (startC c).1).2 = false then 6 else entC c (lookC l) l
/-- What the numbers of a table are, whatever it holds. -/
def TabWC (l : List Cve) : Prop := ∀ x ∈ l, -9223372036854775808 ≤ x.val ∧ x.val ≤ 9223372036854775807
theorem formC_strict {c : Chs} {l : List Cve} (h : FormC c l) : StrictC l := by
  intro i j hi hj hij
  induction j with
  | zero => omega
  | succ j ih =>
    have h1 := (h (j + 1) hj).2 (by omega)
    by_cases e : i = j
    · subst e; exact h1
    · exact cmpS_trans (ih (by omega) (by omega)) h1
theorem formC_ok {c : Chs} {l : List Cve} (h : FormC c l) (i : Nat) (hi : i < l.length) : OkS c l[i].st :=
  stateC_ok.1 (h i hi).1
theorem acceptC_bad {c : Chs} {l : List Cve} (h0 : (startC c).2 ≠ 0) : acceptC c l = (startC c).2 := by unfold acceptC; rw [if_pos h0]
theorem acceptC_form {c : Chs} {l : List Cve} (h0 : (startC c).2 = 0) (h : ¬ FormC c l) : acceptC c l = 4 := by unfold acceptC; rw [if_neg (by omega), if_pos h]
theorem acceptC_none {c : Chs} {l : List Cve} (h0 : (startC c).2 = 0) (h : FormC c l) (h2 : (lookC l (startC c).1).2 = false) : acceptC c l = 6 := by unfold acceptC; rw [if_neg (by omega), if_neg (by simpa using h), if_pos h2]
theorem acceptC_ent {c : Chs} {l : List Cve} (h0 : (startC c).2 = 0) (h : FormC c l) (h2 : (lookC l (startC c).1).2 = true) : acceptC c l = entC c (lookC l) l := by unfold acceptC; rw [if_neg (by omega), if_neg (by simpa using h), if_neg (by simp [h2])]
theorem entC_at {c : Chs} {lk : Cst → Int × Bool} {l : List Cve} {k : Nat} (h : k < l.length) : entC c lk (l.drop k) = if entE c lk l[k] ≠ 0 then entE c lk l[k] else entC c lk (l.drop (k + 1)) := by
  rw [List.drop_eq_getElem_cons h, entC]
theorem startC_ok {c : Chs} (h : (startC c).2 = 0) : checkC c = 0 ∧ OkC c ∧ OkS c (startC c).1 := by
  unfold startC at h ⊢
  by_cases h1 : checkC c ≠ 0
  · rw [if_pos h1] at h; exact absurd h h1
  · rw [if_neg h1]
    have hc := checkC_ok (c := c) (by omega)
    refine ⟨by omega, hc, ?_⟩
    have h2 := hc.no
    have h3 := hc.need
    refine stateC_ok.1 ?_
    unfold stateC
    rw [if_neg, if_neg]
    · dsimp only; omega
    · rw [outC_yes (c := c) (s := ⟨0, c.need, 0, 1, 2⟩) (by dsimp only; omega)]; decide
def FormToC (c : Chs) (l : List Cve) (k : Nat) : Prop := ∀ (i : Nat) (h : i < l.length), i < k → stateC c l[i].st = 0 ∧ ∀ (h0 : 0 < i), cmpS (l[i - 1]'(by omega)).st l[i].st < 0
theorem formC_step {c : Chs} {l : List Cve} {k : Nat} (h : FormToC c l k) (hk : k < l.length) (h1 : stateC c l[k].st = 0) (h2 : ∀ (h0 : 0 < k), cmpS (l[k - 1]'(by omega)).st l[k].st < 0) : FormToC c l (k + 1) := fun i hi hik => by
  by_cases e : i = k
  · subst e; exact ⟨h1, h2⟩
  · exact h i hi (by omega)
theorem formC_all {c : Chs} {l : List Cve} (h : FormToC c l l.length) : FormC c l := fun i hi => h i hi hi
/-- The look-up in one more entry. -/
theorem lookC_snoc (l : List Cve) (x : Cve) (t : Cst) : lookC (l ++ [x]) t = if (lookC l t).2 = true then lookC l t else if cmpS x.st t = 0 then (x.val, true) else (0, false) := by
  unfold lookC
  rw [List.find?_append]
  cases h : l.find? (fun x => (cmpS x.st t == 0)) with
  | some y => simp
  | none =>
    simp only [Option.none_or, List.find?_cons, List.find?_nil]
    by_cases e : cmpS x.st t = 0
    · simp [e]
    · have h9 : (cmpS x.st t == 0) = false := beq_eq_false_iff_ne.2 e
      simp [h9, e]
theorem lookC_mem {l : List Cve} {t : Cst} (h : (lookC l t).2 = true) : ∃ x ∈ l, x.st = t ∧ lookC l t = (x.val, true) := by
  unfold lookC at h ⊢
  cases hf : l.find? (fun x => (cmpS x.st t == 0)) with
  | none => rw [hf] at h; cases h
  | some x =>
    have := List.find?_some hf
    exact ⟨x, List.mem_of_find?_eq_some hf, cmpS_eq.1 (by simpa using this), rfl⟩
theorem lookC_not {l : List Cve} {t : Cst} (h : ∀ x ∈ l, x.st ≠ t) : lookC l t = (0, false) := by
  cases hb : (lookC l t).2
  · unfold lookC at hb ⊢
    cases hf : l.find? (fun x => (cmpS x.st t == 0)) with
    | none => rfl
    | some x => rw [hf] at hb; cases hb
  · obtain ⟨x, hx, e, _⟩ := lookC_mem hb
    exact absurd e (h x hx)
/-- In a table that rises the next entry's state is a new one. -/
theorem lookC_new {c : Chs} {l : List Cve} {k : Nat} (h : FormToC c l (k + 1)) (hk : k < l.length) : lookC (l.take k) l[k].st = (0, false) := by
  refine lookC_not fun x hx e => ?_
  obtain ⟨i, hi, rfl⟩ := List.getElem_of_mem hx
  rw [List.length_take] at hi
  rw [List.getElem_take] at e
  have hs : ∀ j, i < j → j ≤ k → ∀ hj : j < l.length, cmpS (l[i]'(by omega)).st l[j].st < 0 := by
    intro j
    induction j with
    | zero => intro h1; omega
    | succ j ih =>
      intro h1 h2 hj
      have h3 := (h (j + 1) hj (by omega)).2 (by omega)
      by_cases e : i = j
      · subst e; exact h3
      · exact cmpS_trans (ih (by omega) (by omega) (by omega)) h3
  have := hs k (by omega) (Nat.le_refl _) hk
  rw [cmpS_eq.2 e] at this
  omega
theorem lookC_take {c : Chs} {l : List Cve} {k : Nat} (h : FormToC c l (k + 1)) (hk : k < l.length) (t : Cst) : lookC (l.take (k + 1)) t = if cmpS l[k].st t = 0 then (l[k].val, true) else lookC (l.take k) t := by
  rw [List.take_add_one, List.getElem?_eq_getElem hk, Option.toList, lookC_snoc]
  by_cases e : cmpS l[k].st t = 0
  · obtain rfl := cmpS_eq.1 e
    rw [lookC_new h hk, if_neg (by decide), if_pos e]
  · rw [if_neg e, if_neg e]
    cases hb : (lookC (l.take k) t).2
    · rw [if_neg (by decide)]
      unfold lookC at hb ⊢
      cases hf : (l.take k).find? (fun x => (cmpS x.st t == 0)) with
      | none => rfl
      | some x => rw [hf] at hb; cases hb
    · rw [if_pos rfl]
end Go.Proofs.YtdlmmbfnmnglaaaGreatDoor

namespace Go.Proofs.YtdlmmbfnmnglaaaGreatDoor
open Go.RowKit

/-- A chase and an entry of a table boxed. -/
structure EnB (w W : World) (c : Chs) (bv wv pv ov : Value) (x : Cve) : Prop where
  bel : Below w.heap.size w W
  box : Blk W w.heap.size 28 #[bv, wv, pv, .int .i64 c.over, .int .i64 c.done, .int .i64 c.need, ov]
  en : Blk W (w.heap.size + 1) 32 #[.int .i64 x.st.ball, .int .i64 x.st.need, .int .i64 x.st.str, .int .i64 x.st.par, .int .i64 x.st.nxt, .int .i64 x.val]
section
variable {w W W' : World} {c : Chs} {bv wv pv ov : Value} {x : Cve}
theorem EnB.below (h : EnB w W c bv wv pv ov x) (hb : Below W.heap.size W W') : EnB w W' c bv wv pv ov x := ⟨h.bel.trans (hb.mono h.bel.size), h.box.below hb h.box.lt, h.en.below hb h.en.lt⟩
theorem EnB.drew (h : EnB w W c bv wv pv ov x) : EnB w W.drew c bv wv pv ov x := ⟨Below.drew h.bel, h.box.drew, h.en.drew⟩
theorem EnB.alloc (h : EnB w W c bv wv pv ov x) (o : Obj) : EnB w (W.alloc o) c bv wv pv ov x := h.below (Below.alloc (Below.refl _ _) (Nat.le_refl _) o)
theorem EnB.cells (h : EnB w W c bv wv pv ov x) : W.cell? ⟨w.heap.size, 0, none⟩ = some bv ∧ W.cell? ⟨w.heap.size, 1, none⟩ = some wv ∧ W.cell? ⟨w.heap.size, 2, none⟩ = some pv ∧ W.cell? ⟨w.heap.size, 3, none⟩ = some (.int .i64 c.over) ∧ W.cell? ⟨w.heap.size, 4, none⟩ = some (.int .i64 c.done) ∧ W.cell? ⟨w.heap.size, 5, none⟩ = some (.int .i64 c.need) ∧ W.cell? ⟨w.heap.size, 6, none⟩ = some ov ∧
    W.cell? ⟨w.heap.size + 1, 0, none⟩ = some (.int .i64 x.st.ball) ∧ W.cell? ⟨w.heap.size + 1, 1, none⟩ = some (.int .i64 x.st.need) ∧ W.cell? ⟨w.heap.size + 1, 2, none⟩ = some (.int .i64 x.st.str) ∧ W.cell? ⟨w.heap.size + 1, 3, none⟩ = some (.int .i64 x.st.par) ∧ W.cell? ⟨w.heap.size + 1, 4, none⟩ = some (.int .i64 x.st.nxt) ∧ W.cell? ⟨w.heap.size + 1, 5, none⟩ = some (.int .i64 x.val) :=
  ⟨h.box.cell 0, h.box.cell 1, h.box.cell 2, h.box.cell 3, h.box.cell 4, h.box.cell 5, h.box.cell 6, h.en.cell 0, h.en.cell 1, h.en.cell 2, h.en.cell 3, h.en.cell 4, h.en.cell 5⟩
theorem EnB.new (w : World) (c : Chs) (bv wv pv ov : Value) (x : Cve) : EnB w ((w.alloc (.cells #[bv, wv, pv, .int .i64 c.over, .int .i64 c.done, .int .i64 c.need, ov] 28)).alloc (.cells #[.int .i64 x.st.ball, .int .i64 x.st.need, .int .i64 x.st.str, .int .i64 x.st.par, .int .i64 x.st.nxt, .int .i64 x.val] 32)) c bv wv pv ov x :=
  ⟨below_two w _ _, (Blk.new w 28 #[bv, wv, pv, .int .i64 c.over, .int .i64 c.done, .int .i64 c.need, ov]).alloc _, blk_two w _ _ _⟩
end
theorem entE_at (c : Chs) (lk : Cst → Int × Bool) (x : Cve) {z1 : Int} {z2 : Bool} (h : (z1, z2) = valLC c lk x.st) : entE c lk x = if z2 = false then 6 else if z1 ≠ x.val then 12 else 0 := by unfold entE; rw [← h]
set_option maxRecDepth 100000 in
set_option maxHeartbeats 4000000 in
theorem ch44_entryL (c : Chs) (hc : OkC c) (x : Cve) (hs : OkS c x.st) (bv wv pv ov : Value) (lk : Cst → Int × Bool) (w : World) (h : ChAt w (· < w.heap.size) bv wv pv ov c) (tv : Value)
    (hlook : ∀ (x : Cst) (W : World), Below w.heap.size w W → Calls Tryz.prog 29 #[tv, stV x] W fun e W' => e = .returned (.tuple #[.int .i64 (lk x).1, .bool (lk x).2]) ∧ Below W.heap.size W W') :
    Calls Tryz.prog 30 #[chV c bv wv pv ov, tv, .agg #[.int .i64 x.st.ball, .int .i64 x.st.need, .int .i64 x.st.str, .int .i64 x.st.par, .int .i64 x.st.nxt, .int .i64 x.val]] w fun e w' => e = .returned (.int .i64 (entE c lk x)) ∧ Below w.heap.size w w' := by
  obtain ⟨A, ca, rfl, hc1, hc2⟩ := h.mdl.bat.shape
  obtain ⟨A1, ca1, rfl, hc3, hc4⟩ := h.mdl.bow.shape
  obtain ⟨A2, ca2, rfl, hc5, hc6⟩ := h.bow.shape
  obtain ⟨A3, ca3, rfl, hc7, hc8⟩ := h.ord.shape
  have kst := fun W (hW : Below w.heap.size w W) => ch44_status c x.st _ _ _ _ W (h.below hW) hs
  have kpw := fun W (hW : Below w.heap.size w W) => ch44_power c x.st _ _ _ _ W (h.below hW) hc hs
  have kmv := fun (h1 : stC c x.st = 1) W (hW : Below w.heap.size w W) => ch44_moves c x.st _ _ _ _ W (h.below hW) hc hs h1
  have HX0 := Lib.hid (EnB.new w c (.slice A c.mdl.bats.length ca) (.slice A1 c.mdl.bows.length ca1) (.slice A2 c.bows.length ca2) (.slice A3 c.ord.length ca3) x)
  obtain ⟨⟨z1, z2⟩, hz⟩ : ∃ z, z = valLC c lk x.st := ⟨_, rfl⟩
  obtain ⟨r, hr⟩ : ∃ r, r = entE c lk x := ⟨_, rfl⟩
  have hr2 := hr.trans (entE_at c lk x hz)
  rw [← hr]
  have hst3 := stC_bd c x.st
  have tok0 : True := trivial
  have hstL := fun h1 : stC c x.st = 3 => valS_lost hs h1
  by_cases h2 : stC c x.st = 2
  · have hz2 : (z1, z2) = (pow16 (leftC c x.st), true) := hz.trans (by unfold valLC; rw [if_neg (by omega), valS_won h2])
    obtain ⟨p, hp⟩ : ∃ p, p = pow16 (leftC c x.st) := ⟨_, rfl⟩
    rw [← hp] at hz2 kpw
    obtain ⟨rfl, rfl⟩ : z1 = p ∧ z2 = true := by injection hz2 with h8 h9; exact ⟨h8, h9⟩
    rw [h2] at kst
    have KST := Lib.hid kst
    have KPW := Lib.hid kpw
    clear kst kpw kmv hz hz2 hp h2 hst3 hstL hlook hr hs h hc
    obtain ⟨⟨ball, need, str, par, nxt⟩, val⟩ := x
    unfold chV stV at *
    dsimp only at *
    by_cases hv9 : z1 = val
    · have e5 : (val != z1) = false := by simp [hv9]
      have HR := Lib.hid (hr2.trans (by rw [if_neg (by decide), if_neg (by simp [hv9])]))
      clear hr2 hv9
      go_enter Tryz.func30, Tryz.ntmps30
      go_wp2_with (first
        | (clear tok0; go_at_call 73; refine (KST.out _ HX0.out.bel).mono ?_; rintro e w2 ⟨rfl, hb2⟩; have HS2 := Lib.hid (HX0.out.below hb2); obtain ⟨y0, y1, y2, y3, y4, y5, y6, t0, t1, t2, t3, t4, t5⟩ := HS2.out.cells; try dsimp only at t0 t1 t2 t3 t4 t5; clear hb2; have tok1 : True := trivial)
        | (clear tok1; go_at_call 74; refine (KPW.out _ HS2.out.bel).mono ?_; rintro e w3 ⟨rfl, hb3⟩; have HS3 := Lib.hid (HS2.out.below hb3); clear y0 y1 y2 y3 y4 y5 y6 t0 t1 t2 t3 t4 t5; obtain ⟨y0, y1, y2, y3, y4, y5, y6, t0, t1, t2, t3, t4, t5⟩ := HS3.out.cells; try dsimp only at t0 t1 t2 t3 t4 t5; clear hb3; have tok2 : True := trivial))
      go_ret
      exact ⟨ret_i HR.out.symm, HS3.out.bel⟩
    · have e5 : (val != z1) = true := by simp; exact fun e => hv9 e.symm
      have HR := Lib.hid (hr2.trans (by rw [if_neg (by decide), if_pos hv9]))
      clear hr2 hv9
      go_enter Tryz.func30, Tryz.ntmps30
      go_wp2_with (first
        | (clear tok0; go_at_call 73; refine (KST.out _ HX0.out.bel).mono ?_; rintro e w2 ⟨rfl, hb2⟩; have HS2 := Lib.hid (HX0.out.below hb2); obtain ⟨y0, y1, y2, y3, y4, y5, y6, t0, t1, t2, t3, t4, t5⟩ := HS2.out.cells; try dsimp only at t0 t1 t2 t3 t4 t5; clear hb2; have tok1 : True := trivial)
        | (clear tok1; go_at_call 74; refine (KPW.out _ HS2.out.bel).mono ?_; rintro e w3 ⟨rfl, hb3⟩; have HS3 := Lib.hid (HS2.out.below hb3); clear y0 y1 y2 y3 y4 y5 y6 t0 t1 t2 t3 t4 t5; obtain ⟨y0, y1, y2, y3, y4, y5, y6, t0, t1, t2, t3, t4, t5⟩ := HS3.out.cells; try dsimp only at t0 t1 t2 t3 t4 t5; clear hb3; have tok2 : True := trivial))
      go_ret
      exact ⟨ret_i HR.out.symm, HS3.out.bel⟩
  by_cases h3 : stC c x.st = 3
  · have hz2 : (z1, z2) = (0, true) := hz.trans (by unfold valLC; rw [if_neg (by omega), hstL h3])
    obtain ⟨rfl, rfl⟩ : z1 = 0 ∧ z2 = true := by injection hz2 with h8 h9; exact ⟨h8, h9⟩
    rw [h3] at kst
    have KST := Lib.hid kst
    clear kst kpw kmv hz hz2 h2 h3 hst3 hstL hlook hr hs h hc
    obtain ⟨⟨ball, need, str, par, nxt⟩, val⟩ := x
    unfold chV stV at *
    dsimp only at *
    by_cases hv9 : 0 = val
    · have e5 : (val != 0) = false := by simp [hv9]
      have HR := Lib.hid (hr2.trans (by rw [if_neg (by decide), if_neg (by simp [hv9])]))
      clear hr2 hv9
      go_enter Tryz.func30, Tryz.ntmps30
      go_wp2_with (clear tok0; go_at_call 73; refine (KST.out _ HX0.out.bel).mono ?_; rintro e w2 ⟨rfl, hb2⟩; have HS2 := Lib.hid (HX0.out.below hb2); obtain ⟨y0, y1, y2, y3, y4, y5, y6, t0, t1, t2, t3, t4, t5⟩ := HS2.out.cells; try dsimp only at t0 t1 t2 t3 t4 t5; clear hb2; have tok1 : True := trivial)
      go_ret
      exact ⟨ret_i HR.out.symm, HS2.out.bel⟩
    · have e5 : (val != 0) = true := by simp; exact fun e => hv9 e.symm
      have HR := Lib.hid (hr2.trans (by rw [if_neg (by decide), if_pos hv9]))
      clear hr2 hv9
      go_enter Tryz.func30, Tryz.ntmps30
      go_wp2_with (clear tok0; go_at_call 73; refine (KST.out _ HX0.out.bel).mono ?_; rintro e w2 ⟨rfl, hb2⟩; have HS2 := Lib.hid (HX0.out.below hb2); obtain ⟨y0, y1, y2, y3, y4, y5, y6, t0, t1, t2, t3, t4, t5⟩ := HS2.out.cells; try dsimp only at t0 t1 t2 t3 t4 t5; clear hb2; have tok1 : True := trivial)
      go_ret
      exact ⟨ret_i HR.out.symm, HS2.out.bel⟩
  have h1 : stC c x.st = 1 := by omega
  have hz2 : (z1, z2) = runLC lk (stepC c x.st) (mvC c x.st) 0 := hz.trans (by unfold valLC; rw [if_pos h1])
  have kmv1 := kmv h1
  rw [h1] at kst
  obtain ⟨_, _, _, _, _, _, _, _, _, _, _, _, _, _, _, hd⟩ := mvC_at hc hs h1
  obtain ⟨l, hle⟩ : ∃ l, mvC c x.st = l := ⟨_, rfl⟩
  rw [hle] at hd kmv1 hz2
  have hok := checkD_ok hd
  have hlen : l.length ≤ 16 := hok.len.2
  have hoe : ∀ (k : Nat) (hk : k < l.length), OkO l[k] := fun k hk => hok.each _ (List.getElem_mem hk)
  have kstep := fun k (hk : k < l.length) W => ch44_step c x.st l[k] A A1 A2 A3 ca ca1 ca2 ca3 W hc hs h1 ⟨(hoe k hk).r0, (hoe k hk).r7⟩
  have krec := fun k (hk : k < l.length) W (hW : Below w.heap.size w W) => hlook (stepC c x.st l[k]) W hW
  have KREC := Lib.hid krec
  have hat := fun k b (hk : k < l.length) => runLC_at (lk := lk) (f := stepC c x.st) (b := b) hk
  have HZ0 : Hid ((z1, z2) = runLC lk (stepC c x.st) (l.drop 0) 0) := hz2
  have KST := Lib.hid kst
  have KMV := Lib.hid kmv1
  have KSTEP := Lib.hid kstep
  have HAT := Lib.hid hat
  have HR2 := Lib.hid hr2
  clear kst kpw kmv kmv1 kstep hat hz hz2 hd hok hoe hle h1 hst3 hstL hr hr2 hs h hc krec hlook h2 h3
  obtain ⟨⟨ball, need, str, par, nxt⟩, val⟩ := x
  unfold chV stV at *
  dsimp only at *
  go_enter Tryz.func30, Tryz.ntmps30
  go_wp2_with (first
    | (clear tok0; go_at_call 73; refine (KST.out _ HX0.out.bel).mono ?_; rintro e w2 ⟨rfl, hb2⟩; have HS2 := Lib.hid (HX0.out.below hb2); obtain ⟨y0, y1, y2, y3, y4, y5, y6, t0, t1, t2, t3, t4, t5⟩ := HS2.out.cells; try dsimp only at t0 t1 t2 t3 t4 t5; clear hb2; have tok1 : True := trivial)
    | (clear tok1; go_at_call 75; refine (KMV.out _ HS2.out.bel).mono ?_; rintro e w4 ⟨A4, n4, k4, rfl, hb3, hs3⟩; obtain ⟨Az, kz, hze, hz1, hz2⟩ := hs3.shape; have hn4 : n4 = l.length := (by injection hze); subst hn4; have HS4 := Lib.hid (HS2.out.below hb3); have HL4 := Lib.hid (hs3.keep (G := fun x => x < w4.heap.size) elOtc_good (Same.refl _ _) fun x hx => hx.2); clear y0 y1 y2 y3 y4 y5 y6 t0 t1 t2 t3 t4 t5; obtain ⟨y0, y1, y2, y3, y4, y5, y6, t0, t1, t2, t3, t4, t5⟩ := HS4.out.cells; try dsimp only at t0 t1 t2 t3 t4 t5; clear hb3 hs3 hze hz1 hz2; have tok3 : True := trivial))
  go_loopw [7, 29] (fun v i wr => ∃ (k : Nat) (sm : Int), k ≤ l.length ∧ i = .int .i64 k ∧ v = .int .i64 sm ∧ Hid (EnB w wr c (.slice A c.mdl.bats.length ca) (.slice A1 c.mdl.bows.length ca1) (.slice A2 c.bows.length ca2) (.slice A3 c.ord.length ca3) ⟨⟨ball, need, str, par, nxt⟩, val⟩) ∧ Hid (Sl 3 elOtc wr (· < wr.heap.size) (.slice A4 l.length k4) l) ∧ Hid ((z1, z2) = runLC lk (stepC c ⟨ball, need, str, par, nxt⟩) (l.drop k) sm)) (fun _ i _ => l.length - (intOf i).toNat)
  case atStart => exact ⟨0, 0, Nat.zero_le _, rfl, rfl, HS4, HL4, HZ0⟩
  case round =>
    clear HS2 HS4 HL4 HZ0 y0 y1 y2 y3 y4 y5 y6 t0 t1 t2 t3 t4 t5
    obtain ⟨k, sm, hk, rfl, rfl, HS, HL, hss⟩ := hrel
    by_cases hlt : k < l.length
    · obtain ⟨b0, o, rfl, hbl, j0, j1, j2⟩ := otc_at HL.out hlt
      have hst := hss.out.trans (HAT.out k sm hlt)
      have kS := KSTEP.out k hlt
      have kR := KREC.out k hlt
      obtain ⟨s', hs'⟩ : ∃ x, x = stepC c ⟨ball, need, str, par, nxt⟩ l[k] := ⟨_, rfl⟩
      simp only [← hs'] at kS kR hst
      obtain ⟨⟨y, ok⟩, hvv⟩ : ∃ x, x = lk s' := ⟨_, rfl⟩
      simp only [← hvv] at kR hst
      skip
      skip
      obtain ⟨⟨pr, pw, pt⟩, hp'⟩ : ∃ p, p = l[k] := ⟨_, rfl⟩
      rw [← hp'] at j0 j1 j2
      simp only [← hp'] at kS hst
      (try dsimp only at j0 j1 j2 kS hst)
      obtain ⟨⟨m0, m1, m2, m3, m4⟩, hm⟩ : ∃ x, x = s' := ⟨_, rfl⟩
      simp only [← hm] at kS kR
      try dsimp only at kS kR
      have KS := Lib.hid kS
      have KR := Lib.hid kR
      clear kS kR hs' hvv hp' hss hm
      have HSA := Lib.hid (HS.out.alloc (.cells #[.int .i64 pr, .bool pw, .int .i64 pt] 110))
      have HLA := Lib.hid (HL.out.keep (G := fun x => x < (wr.alloc (.cells #[.int .i64 pr, .bool pw, .int .i64 pt] 110)).heap.size) elOtc_good (Same.of_below (Below.alloc (Below.refl wr.heap.size wr) (Nat.le_refl _) (.cells #[.int .i64 pr, .bool pw, .int .i64 pt] 110))) fun x hx => by simp; omega)
      have HCA := Lib.hid (Blk.new wr 110 #[.int .i64 pr, .bool pw, .int .i64 pt])
      obtain ⟨y0, y1, y2, y3, y4, y5, y6, t0, t1, t2, t3, t4, t5⟩ := HS.out.cells
      try dsimp only at t0 t1 t2 t3 t4 t5
      have hl1 := HS.out.box.lt
      have hl2 := HS.out.en.lt
      have tok5 : True := trivial
      cases ok
      · rw [if_neg (by decide)] at hst
        have HR := Lib.hid (HR2.out.trans (by rw [show z2 = false from by injection hst, if_pos rfl]))
        skip
        clear hst
        go_wp2_with (first
          | (clear tok5; go_at_call 76; refine (KS.out _).mono ?_; rintro e w5 ⟨rfl, hb5⟩; have HS5 := Lib.hid (HSA.out.below hb5); have HL5 := Lib.hid (HLA.out.keep (G := fun x => x < w5.heap.size) elOtc_good (Same.of_below hb5) fun x hx => Nat.lt_of_lt_of_le hx hb5.size); have HC5 := Lib.hid (HCA.out.below hb5 HCA.out.lt); clear y0 y1 y2 y3 y4 y5 y6 t0 t1 t2 t3 t4 t5; obtain ⟨y0, y1, y2, y3, y4, y5, y6, t0, t1, t2, t3, t4, t5⟩ := HS5.out.cells; try dsimp only at t0 t1 t2 t3 t4 t5; have u0 := HC5.out.cell 0; have u1 := HC5.out.cell 1; have u2 := HC5.out.cell 2; clear hb5 hl1 hl2; have tok6 : True := trivial)
          | (clear tok6; go_at_call 29; refine (KR.out _ HS5.out.bel).mono ?_; rintro e w6 ⟨rfl, hb6⟩; have HS6 := Lib.hid (HS5.out.below hb6); have HL6 := Lib.hid (HL5.out.keep (G := fun x => x < w6.heap.size) elOtc_good (Same.of_below hb6) fun x hx => Nat.lt_of_lt_of_le hx hb6.size); have HC6 := Lib.hid (HC5.out.below hb6 HC5.out.lt); clear y0 y1 y2 y3 y4 y5 y6 t0 t1 t2 t3 t4 t5; clear u0 u1 u2; obtain ⟨y0, y1, y2, y3, y4, y5, y6, t0, t1, t2, t3, t4, t5⟩ := HS6.out.cells; try dsimp only at t0 t1 t2 t3 t4 t5; have u0 := HC6.out.cell 0; have u1 := HC6.out.cell 1; have u2 := HC6.out.cell 2; clear hb6; have tok7 : True := trivial))
        go_ret
        exact ⟨ret_i HR.out.symm, HS6.out.bel⟩
      · rw [if_pos rfl] at hst
        have HST := Lib.hid hst
        skip
        clear hst
        go_wp2_with (first
          | (clear tok5; go_at_call 76; refine (KS.out _).mono ?_; rintro e w5 ⟨rfl, hb5⟩; have HS5 := Lib.hid (HSA.out.below hb5); have HL5 := Lib.hid (HLA.out.keep (G := fun x => x < w5.heap.size) elOtc_good (Same.of_below hb5) fun x hx => Nat.lt_of_lt_of_le hx hb5.size); have HC5 := Lib.hid (HCA.out.below hb5 HCA.out.lt); clear y0 y1 y2 y3 y4 y5 y6 t0 t1 t2 t3 t4 t5; obtain ⟨y0, y1, y2, y3, y4, y5, y6, t0, t1, t2, t3, t4, t5⟩ := HS5.out.cells; try dsimp only at t0 t1 t2 t3 t4 t5; have u0 := HC5.out.cell 0; have u1 := HC5.out.cell 1; have u2 := HC5.out.cell 2; clear hb5 hl1 hl2; have tok6 : True := trivial)
          | (clear tok6; go_at_call 29; refine (KR.out _ HS5.out.bel).mono ?_; rintro e w6 ⟨rfl, hb6⟩; have HS6 := Lib.hid (HS5.out.below hb6); have HL6 := Lib.hid (HL5.out.keep (G := fun x => x < w6.heap.size) elOtc_good (Same.of_below hb6) fun x hx => Nat.lt_of_lt_of_le hx hb6.size); have HC6 := Lib.hid (HC5.out.below hb6 HC5.out.lt); clear y0 y1 y2 y3 y4 y5 y6 t0 t1 t2 t3 t4 t5; clear u0 u1 u2; obtain ⟨y0, y1, y2, y3, y4, y5, y6, t0, t1, t2, t3, t4, t5⟩ := HS6.out.cells; try dsimp only at t0 t1 t2 t3 t4 t5; have u0 := HC6.out.cell 0; have u1 := HC6.out.cell 1; have u2 := HC6.out.cell 2; clear hb6; have tok7 : True := trivial))
        go_roundw
        case rel => exact ⟨k + 1, _, by omega, by go_num, rfl, HS6, HL6, HST⟩
        case measure => simp [intOf]; omega
    · obtain rfl : k = l.length := by omega
      have hs2 := hss.out
      rw [List.drop_length, runLC] at hs2
      obtain ⟨rfl, rfl⟩ : z1 = sm ∧ z2 = true := by injection hs2 with h8 h9; exact ⟨h8, h9⟩
      have hr2 := HR2.out
      clear hss hs2 HR2
      obtain ⟨y0, y1, y2, y3, y4, y5, y6, t0, t1, t2, t3, t4, t5⟩ := HS.out.cells
      try dsimp only at t0 t1 t2 t3 t4 t5
      by_cases hv9 : z1 = val
      · have e5 : (val != z1) = false := by simp [hv9]
        have HR := Lib.hid (hr2.trans (by rw [if_neg (by decide), if_neg (by simp [hv9])]))
        clear hr2 hv9
        go_wp2
        go_ret
        exact ⟨ret_i HR.out.symm, HS.out.bel⟩
      · have e5 : (val != z1) = true := by simp; exact fun e => hv9 e.symm
        have HR := Lib.hid (hr2.trans (by rw [if_neg (by decide), if_pos hv9]))
        clear hr2 hv9
        go_wp2
        go_ret
        exact ⟨ret_i HR.out.symm, HS.out.bel⟩
theorem ch44_entry (c : Chs) (hc : OkC c) (x : Cve) (hs : OkS c x.st) (bv wv pv ov v : Value) (l : List Cve) (w : World) (h : ChAt w (· < w.heap.size) bv wv pv ov c) (hl : Sl 6 elCv w (· < w.heap.size) v l) (hn : l.length ≤ 1000000000000) (hst : StrictC l) :
    Calls Tryz.prog 30 #[chV c bv wv pv ov, v, .agg #[.int .i64 x.st.ball, .int .i64 x.st.need, .int .i64 x.st.str, .int .i64 x.st.par, .int .i64 x.st.nxt, .int .i64 x.val]] w fun e w' => e = .returned (.int .i64 (entE c (lookC l) x)) ∧ Below w.heap.size w w' :=
  ch44_entryL c hc x hs bv wv pv ov (lookC l) w h v fun t W hW => ch44_find l v t W (hl.keep elCv_good (Same.of_below hW) fun b hb => Nat.lt_of_lt_of_le hb hW.size) hn hst
end Go.Proofs.YtdlmmbfnmnglaaaGreatDoor

namespace Go.Proofs.YtdlmmbfnmnglaaaGreatDoor
open Go.RowKit Go.Maps

set_option maxRecDepth 100000 in
set_option maxHeartbeats 8000000 in
theorem r44_fill_at (c : Chs) (hc : OkC c) (n : Nat) (ih : ∀ k, n = k + 1 → SolveAt 25 c k) : SolveAt 25 c n := by
  intro s hl hs r hre bv wv pv ov F b N D w h hF hown hkn hN
  obtain ⟨xs, hxs⟩ : ∃ xs, xs = nextsC c s := ⟨_, rfl⟩
  have hkey := key_of (hs.smol hc)
  have hn12 := left_le hc hs
  rw [hl] at hn12
  obtain ⟨z, hz⟩ : ∃ z, z = valS c s := ⟨_, rfl⟩
  have hbd := valS_bd hc hs
  rw [hl] at hbd
  have hp16 := pow16_le hn12
  have hz0 : 0 ≤ z ∧ z ≤ 281474976710656 := by rw [hz]; omega
  have hit : Maps.has D (keyS s) = true → D.atKey (keyS s) (.lit (.int .i64 0)) = .lit (.int .i64 z) := fun hh => by rw [hz]; exact hkn.val s hs hh
  have hput : ∀ (D2 : DataW Unit), Known c r D2 → IsMap D2 → (GrewC D D2 ∧ ∀ x ∈ xs, Maps.has D2 (keyS x) = true) → Known c r (D2.put (keyS s) (.lit (.int .i64 z))) ∧ GrewC D (D2.put (keyS s) (.lit (.int .i64 z))) ∧ Maps.has (D2.put (keyS s) (.lit (.int .i64 z))) (keyS s) = true := fun D2 h1 h2 h3 => ⟨by rw [hz]; exact h1.put h2 hc hs hre (by rw [← hxs]; exact h3.2), h3.1.trans (GrewC.put h2 s _), has_put_same h2 (key_lit s) _⟩
  have hsol : Sol w _ b N r (GrewC D) c bv wv pv ov s := Sol.new hown hkn (GrewC.refl _)
  have kst := fun W (hW : Only b w W) => r44_status c s bv wv pv ov W ((h.keep (hW.same hF) fun x hx => Nat.lt_of_lt_of_le (hF x hx).1 hW.size)) hs
  have kmv := fun (h1 : stC c s = 1) W (hW : Only b w W) => r44_moves c s bv wv pv ov W ((h.keep (hW.same hF) fun x hx => Nat.lt_of_lt_of_le (hF x hx).1 hW.size)) hc hs h1
  have ken := fun W (hW : Only b w W) => r44_ended c s bv wv pv ov W ((h.keep (hW.same hF) fun x hx => Nat.lt_of_lt_of_le (hF x hx).1 hW.size)) hc hs
  have hend : stC c s ≠ 1 → (if stC c s = 2 then pow16 (leftC c s) else 0) = z := fun h1 => by
    have := stC_bd c s
    rw [hz]
    by_cases h2 : stC c s = 2
    · rw [if_pos h2, valS_won h2]
    · rw [if_neg h2, valS_lost hs (by omega)]
  have HA := Lib.hid h
  have HF := Lib.hid hF
  have HKN := Lib.hid hkn
  rw [← hz]
  clear hbd hp16
  obtain ⟨A, ca, rfl, hc1, hc2⟩ := h.mdl.bat.shape
  obtain ⟨A1, ca1, rfl, hc3, hc4⟩ := h.mdl.bow.shape
  obtain ⟨A2, ca2, rfl, hc5, hc6⟩ := h.bow.shape
  obtain ⟨A3, ca3, rfl, hc7, hc8⟩ := h.ord.shape
  unfold chV stV at kst kmv ken ⊢
  unfold stV at hkey
  have HSOL := Lib.hid hsol
  have HKEY := Lib.hid hkey
  have HV2 := Lib.hid (vals_below hown (CSB.new w c (.slice A c.mdl.bats.length ca) (.slice A1 c.mdl.bows.length ca1) (.slice A2 c.bows.length ca2) (.slice A3 c.ord.length ca3) s).bel)
  have HPUT := Lib.hid hput
  clear hsol hkey h hF hown hput
  obtain ⟨y0, y1, y2, y3, y4, y5, y6, t0, t1, t2, t3, t4⟩ := HSOL.out.cells
  clear y0 y1 y2 y3 y4 y5 y6 t0 t1 t2 t3 t4
  cases hh : Maps.has D (keyS s)
  case true =>
    have HIT := Lib.hid (hit hh)
    clear hit ih kst kmv ken hend hz hl hs hc hkn hre hxs
    go_enter Tryz.func25, Tryz.ntmps25
    go_wp2_with (at_lookup; refine wpList_lookup_own_ok_int _ rfl _ _ 67 rfl 30 2 .i64 law44 Tryz.underlying67 Tryz.underlying2 (zero_i64 _) b N D rfl HV2.out _ _ rfl HKEY.out ?_; intro cc hat hwc; have HC := Lib.hid (show cc = z from by have := hat.symm.trans HIT.out; injection this with this; injection this); clear hat hwc)
    go_ret
    exact ⟨ret_i HC.out, HSOL.out.only, D, HV2.out.mono (by omega), HKN.out, GrewC.refl _, hh⟩
  case false =>
    clear hit
    obtain ⟨st, hst⟩ : ∃ x, x = stC c s := ⟨_, rfl⟩
    have hst3 := stC_bd c s
    rw [← hst] at kst kmv hend hst3
    by_cases h1 : st = 1
    case neg =>
      have hx0 : xs = [] := by rw [hxs]; exact nextsC_end (by rw [← hst]; exact h1)
      have HNX := Lib.hid (fun (D2 : DataW Unit) (h : GrewC D D2) => (⟨h, fun x hx => by rw [hx0] at hx; cases hx⟩ : GrewC D D2 ∧ ∀ x ∈ xs, Maps.has D2 (keyS x) = true))
      have KST := Lib.hid kst
      have hcn : 1 ≤ cntV n := by cases n <;> rw [cntV] <;> omega
      have tok0 : True := trivial
      have he := hend h1
      rw [← hst, he] at ken
      have KEN := Lib.hid ken
      have e1 : (st == 1) = false := beq_eq_false_iff_ne.2 h1
      clear kst kmv ken hend hst hst3 h1 he ih hl hs hc hkn hz hn12 hre hxs hx0
      go_enter Tryz.func25, Tryz.ntmps25
      go_wp2_with (first
        | (at_lookup; refine wpList_lookup_own_ok_int _ rfl _ _ 67 rfl 30 2 .i64 law44 Tryz.underlying67 Tryz.underlying2 (zero_i64 _) b N D rfl HV2.out _ _ rfl HKEY.out ?_; intro cc hat hwc; clear hat hwc)
        | (clear tok0; go_at_call 63; refine (KST.out _ HSOL.out.only).mono ?_; rintro e w2 ⟨rfl, hb2⟩; have HS2 := Lib.hid (HSOL.out.below hb2); obtain ⟨y0, y1, y2, y3, y4, y5, y6, t0, t1, t2, t3, t4⟩ := HS2.out.cells; clear hb2; have tok1 : True := trivial)
        | (clear tok1; go_at_call 64; refine (KEN.out _ HS2.out.only).mono ?_; rintro e w3 ⟨rfl, hb3⟩; have HS3 := Lib.hid (HS2.out.below hb3); clear y0 y1 y2 y3 y4 y5 y6 t0 t1 t2 t3 t4; obtain ⟨y0, y1, y2, y3, y4, y5, y6, t0, t1, t2, t3, t4⟩ := HS3.out.cells; obtain ⟨D2, hv9, hk9, hg8⟩ := HS3.out.vals; have HV9 := Lib.hid hv9; have HK9 := Lib.hid hk9; have HG8 := Lib.hid hg8; clear hg8 hb3 hv9 hk9; have tok2 : True := trivial)
        | (at_mapUpdate; refine wpList_mapUpdate_own _ rfl _ _ _ 67 rfl 30 2 law44 Tryz.underlying67 _ b N D2 rfl HV9.out (by unfold maxLen; omega) _ _ _ rfl rfl HKEY.out _ [] (plainElem_int Tryz.underlying2 (WalkArith.wf_i64 (by omega))) ?_; intro w9 hown9 hgrow9; have HG9 := Lib.hid hgrow9; have HO9 := Lib.hid hown9; clear hgrow9 hown9))
      go_ret
      exact ⟨rfl, HS3.out.only.trans HG9.out, _, HO9.out.mono (by omega), HPUT.out _ HK9.out HV9.out.isMap (HNX.out _ HG8.out)⟩
    case pos =>
      have h1' : stC c s = 1 := by rw [← hst]; exact h1
      obtain ⟨hneed, hstr, k0, hk0, hk1⟩ := left_run hs h1'
      obtain rfl : n = k0 + 1 := by omega
      have hih := ih k0 rfl
      obtain ⟨l, hle⟩ : ∃ l, mvC c s = l := ⟨_, rfl⟩
      obtain ⟨_, _, _, _, _, _, _, _, _, _, _, _, _, _, _, hd⟩ := mvC_at hc hs h1'
      rw [hle] at hd
      have hok := checkD_ok hd
      have hlen : l.length ≤ 16 := hok.len.2
      have hoe : ∀ (k : Nat) (hk : k < l.length), OkO l[k] := fun k hk => hok.each _ (List.getElem_mem hk)
      have kstep := fun k (hk : k < l.length) W => r44_after c s l[k] A A1 A2 A3 ca ca1 ca2 ca3 W hc hs h1' ⟨(hoe k hk).r0, (hoe k hk).r7⟩
      have hok2 : ∀ (k : Nat) (hk : k < l.length), leftC c (stepC c s l[k]) = k0 ∧ OkS c (stepC c s l[k]) := fun k hk => ⟨by have := left_step hc hs h1' (o := l[k]) (hoe k hk).r0; omega, (stepC_ok hc hs h1' (hoe k hk).r0).1⟩
      have hxl : xs = l.map (stepC c s) := by rw [hxs, nextsC_run h1', hle]
      have hnx : ∀ k (hk : k < l.length), ReachC c r (stepC c s l[k]) := fun k hk => hre.next _ (by rw [← hxs, hxl]; exact List.mem_map.2 ⟨_, List.getElem_mem hk, rfl⟩)
      have htk : ∀ (k : Nat) (hk : k < l.length) (x : Cst), x ∈ xs.take (k + 1) → x ∈ xs.take k ∨ x = stepC c s l[k] := fun k hk x hx => by
        have hk2 : k < xs.length := by rw [hxl, List.length_map]; exact hk
        rw [List.take_add_one, List.getElem?_eq_getElem hk2] at hx
        rcases List.mem_append.1 hx with hx | hx
        · exact .inl hx
        · refine .inr ?_
          have : xs[k] = stepC c s l[k] := by simp only [hxl, List.getElem_map]
          rw [← this]; simpa using hx
      have hxn : xs.take l.length = xs := List.take_of_length_le (by rw [hxl, List.length_map]; exact Nat.le_refl _)
      have HTK := Lib.hid htk
      have HXN := Lib.hid hxn
      have krec := fun k (hk : k < l.length) N' D' W => hih (stepC c s l[k]) (hok2 k hk).1 (hok2 k hk).2 r (hnx k hk) (.slice A c.mdl.bats.length ca) (.slice A1 c.mdl.bows.length ca1) (.slice A2 c.bows.length ca2) (.slice A3 c.ord.length ca3) F b N' D' W
      have hprod : ∀ (k : Nat) (hk : k < l.length), 0 ≤ l[k].wt * valS c (stepC c s l[k]) ∧ l[k].wt * valS c (stepC c s l[k]) ≤ 281474976710656 := fun k hk => prod_bd (n := k0) (by omega) ⟨(hoe k hk).w1, (hoe k hk).w16⟩ (by have := valS_bd hc (hok2 k hk).2; rw [(hok2 k hk).1] at this; exact this)
      have hsum : ∀ (k : Nat) (hk : k < l.length) (sm : Int), sm = sumI ((l.take k).map fun o => o.wt * valS c (stepC c s o)) → sm + l[k].wt * valS c (stepC c s l[k]) = sumI ((l.take (k + 1)).map fun o => o.wt * valS c (stepC c s o)) := fun k hk sm h => by
        rw [h, sum_take (fun o : Otc => o.wt * valS c (stepC c s o)) hk]
      have hfin : sumI (l.map fun o => o.wt * valS c (stepC c s o)) = z := by rw [hz, valS_run hc hs h1', hle]
      obtain ⟨q, hq⟩ : ∃ q, q = cntV k0 := ⟨_, rfl⟩
      have hcnt : cntV (k0 + 1) = 1 + 16 * q := by rw [cntV, hq]
      rw [hcnt] at hN ⊢
      unfold chV stV at krec
      unfold stV at kstep
      rw [← hq] at krec
      have kmv1 := kmv h1
      rw [hle] at kmv1
      rw [h1] at kst
      have KST := Lib.hid kst
      have KMV := Lib.hid kmv1
      have KSTEP := Lib.hid kstep
      have KREC := Lib.hid krec
      have HPR := Lib.hid hprod
      have HSUM := Lib.hid hsum
      have HFIN := Lib.hid hfin
      have tok0 : True := trivial
      clear kst kmv kmv1 ken hend hst hst3 h1 h1' hneed hstr hk0 hk1 hih hle hd hok hoe kstep hok2 krec hprod hsum hfin hq hcnt ih hl hs hc hkn hz hn12 hxl hnx htk hxn hre hxs
      go_enter Tryz.func25, Tryz.ntmps25
      go_wp2_with (first
        | (at_lookup; refine wpList_lookup_own_ok_int _ rfl _ _ 67 rfl 30 2 .i64 law44 Tryz.underlying67 Tryz.underlying2 (zero_i64 _) b N D rfl HV2.out _ _ rfl HKEY.out ?_; intro cc hat hwc; clear hat hwc)
        | (clear tok0; go_at_call 63; refine (KST.out _ HSOL.out.only).mono ?_; rintro e w2 ⟨rfl, hb2⟩; have HS2 := Lib.hid (HSOL.out.below hb2); obtain ⟨y0, y1, y2, y3, y4, y5, y6, t0, t1, t2, t3, t4⟩ := HS2.out.cells; clear hb2; have tok1 : True := trivial)
        | (clear tok1; go_at_call 65; refine (KMV.out _ HS2.out.only).mono ?_; rintro e w3 ⟨A4, n4, k4, rfl, hb3, hs3⟩; obtain ⟨Az, kz, hze, hz1, hz2⟩ := hs3.shape; have hn4 : n4 = l.length := (by injection hze); subst hn4; have HS3 := Lib.hid (HS2.out.below hb3); have HL3 := Lib.hid (hs3.keep (G := fun x => x < w3.heap.size ∧ x ≠ b) elOtc_good (Same.refl _ _) fun x hx => ⟨hx.2, by have := HS2.out.blt; have := HS2.out.only.size; omega⟩); clear y0 y1 y2 y3 y4 y5 y6 t0 t1 t2 t3 t4; obtain ⟨y0, y1, y2, y3, y4, y5, y6, t0, t1, t2, t3, t4⟩ := HS3.out.cells; clear hb3 hs3 hze hz1 hz2; have tok2 : True := trivial))
      go_loopw [9, 31] (fun v i wr => ∃ (k : Nat) (sm : Int), k ≤ l.length ∧ i = .int .i64 k ∧ v = .int .i64 sm ∧ 0 ≤ sm ∧ sm ≤ 281474976710656 * k ∧ Hid (Sol w wr b (N + k * q) r (fun D' => GrewC D D' ∧ ∀ x ∈ xs.take k, Maps.has D' (keyS x) = true) c (.slice A c.mdl.bats.length ca) (.slice A1 c.mdl.bows.length ca1) (.slice A2 c.bows.length ca2) (.slice A3 c.ord.length ca3) s) ∧ Hid (Sl 3 elOtc wr (fun x => x < wr.heap.size ∧ x ≠ b) (.slice A4 l.length k4) l) ∧ Hid (sm = sumI ((l.take k).map fun o => o.wt * valS c (stepC c s o)))) (fun _ i _ => l.length - (intOf i).toNat)
      case atStart => exact ⟨0, 0, Nat.zero_le _, rfl, rfl, by omega, by omega, Lib.hid (by rw [Nat.zero_mul]; exact HS3.out.weak (fun D2 h => ⟨h, fun x hx => by cases hx⟩)), HL3, Lib.hid rfl⟩
      case round =>
        clear HS2 HS3 HL3 y0 y1 y2 y3 y4 y5 y6 t0 t1 t2 t3 t4
        obtain ⟨k, sm, hk, rfl, rfl, hs0, hs1, HS, HL, hss⟩ := hrel
        by_cases hlt : k < l.length
        · obtain ⟨b0, o, rfl, hbl, g0, g1, g2⟩ := otc_at HL.out hlt
          have hp := HPR.out k hlt
          have hst := HSUM.out k hlt sm hss.out
          have kS := KSTEP.out k hlt
          have kR := KREC.out k hlt
          have hT := HTK.out k hlt
          obtain ⟨s', hs'⟩ : ∃ x, x = stepC c s l[k] := ⟨_, rfl⟩
          rw [← hs'] at hp hst
          simp only [← hs'] at kS kR hT
          obtain ⟨vv, hvv⟩ : ∃ x, x = valS c s' := ⟨_, rfl⟩
          rw [← hvv] at hp hst
          simp only [← hvv] at kR
          obtain ⟨⟨pr, pw, pt⟩, hp'⟩ : ∃ p, p = l[k] := ⟨_, rfl⟩
          rw [← hp'] at g0 g1 g2 hp hst
          simp only [← hp'] at kS
          dsimp only at g0 g1 g2 hp hst kS
          obtain ⟨hp0, hp1⟩ := hp
          have hkq : k * q + q ≤ 16 * q := by have := Nat.mul_le_mul_right q (show k + 1 ≤ 16 by omega); rw [Nat.add_mul, Nat.one_mul] at this; exact this
          have HST := Lib.hid hst
          have KS := Lib.hid kS
          have KR := Lib.hid kR
          have HKQ := Lib.hid hkq
          have HT := Lib.hid hT
          clear hst kS kR hT hs' hvv hp' hss hkq
          go_wp2
          have HSA := Lib.hid (HS.out.alloc (.cells #[.int .i64 pr, .bool pw, .int .i64 pt] 110)).drew
          have HLA := Lib.hid (sl_only HL.out (Only.of_below (g := b) (Below.drew (Below.alloc (Below.refl wr.heap.size wr) (Nat.le_refl _) (.cells #[.int .i64 pr, .bool pw, .int .i64 pt] 110)))))
          have HCA := Lib.hid (Blk.new wr 110 #[.int .i64 pr, .bool pw, .int .i64 pt]).drew
          obtain ⟨y0, y1, y2, y3, y4, y5, y6, t0, t1, t2, t3, t4⟩ := HSA.out.cells
          have u0 := HCA.out.cell 0
          have u1 := HCA.out.cell 1
          have u2 := HCA.out.cell 2
          have tok2 : True := trivial
          have hwb : b < wr.heap.size := by have := HS.out.blt; have := HS.out.only.size; omega
          go_region_held3 (fun w' => w'.cell? ⟨w.heap.size, 0, none⟩ = some (.slice A c.mdl.bats.length ca) ∧ w'.cell? ⟨w.heap.size, 1, none⟩ = some (.slice A1 c.mdl.bows.length ca1) ∧ w'.cell? ⟨w.heap.size, 2, none⟩ = some (.slice A2 c.bows.length ca2) ∧ w'.cell? ⟨w.heap.size, 3, none⟩ = some (.int .i64 c.over) ∧ w'.cell? ⟨w.heap.size, 4, none⟩ = some (.int .i64 c.done) ∧ w'.cell? ⟨w.heap.size, 5, none⟩ = some (.int .i64 c.need) ∧ w'.cell? ⟨w.heap.size, 6, none⟩ = some (.slice A3 c.ord.length ca3) ∧ w'.cell? ⟨w.heap.size + 1, 0, none⟩ = some (.int .i64 s.ball) ∧ w'.cell? ⟨w.heap.size + 1, 1, none⟩ = some (.int .i64 s.need) ∧ w'.cell? ⟨w.heap.size + 1, 2, none⟩ = some (.int .i64 s.str) ∧ w'.cell? ⟨w.heap.size + 1, 3, none⟩ = some (.int .i64 s.par) ∧ w'.cell? ⟨w.heap.size + 1, 4, none⟩ = some (.int .i64 s.nxt) ∧ w'.cell? ⟨wr.heap.size, 0, none⟩ = some (.int .i64 pr) ∧ w'.cell? ⟨wr.heap.size, 1, none⟩ = some (.bool pw) ∧ w'.cell? ⟨wr.heap.size, 2, none⟩ = some (.int .i64 pt)) (first | exact ⟨y0, y1, y2, y3, y4, y5, y6, t0, t1, t2, t3, t4, u0, u1, u2⟩ | go_keep) (first
            | (clear tok2; go_at_call 66; refine (KS.out _).mono ?_; rintro e w5 ⟨rfl, hb5⟩; have HS5 := Lib.hid (HSA.out.below hb5); have HL5 := Lib.hid (sl_only HLA.out (Only.of_below hb5)); have HC5 := Lib.hid (HCA.out.below hb5 HCA.out.lt); obtain ⟨y0, y1, y2, y3, y4, y5, y6, t0, t1, t2, t3, t4⟩ := HS5.out.cells; have u0 := HC5.out.cell 0; have u1 := HC5.out.cell 1; have u2 := HC5.out.cell 2; clear hb5; have tok3 : True := trivial)
            | (clear tok3; go_at_call 25; obtain ⟨D5, hv5, hk5, hg5⟩ := HS5.out.vals; refine (KR.out _ D5 _ (HA.out.keep (HS5.out.only.same HF.out) fun _ h => h) (fun x hx => ⟨Nat.lt_of_lt_of_le (HF.out x hx).1 HS5.out.only.size, (HF.out x hx).2⟩) hv5 hk5 (by have := HKQ.out; omega)).mono ?_; rintro e w6 ⟨rfl, ho6, hv6⟩; have HS6 := Lib.hid (show Sol w w6 b (N + (k + 1) * q) r (fun D' => GrewC D D' ∧ ∀ x ∈ xs.take (k + 1), Maps.has D' (keyS x) = true) c (.slice A c.mdl.bats.length ca) (.slice A1 c.mdl.bows.length ca1) (.slice A2 c.bows.length ca2) (.slice A3 c.ord.length ca3) s from HS5.out.into ho6 (by obtain ⟨D7, h1, h2, h3, h4⟩ := hv6; exact ⟨D7, h1.mono (by rw [Nat.add_mul]; omega), h2, hg5.1.trans h3, fun x hx => by rcases HT.out x hx with h | h; exact h3 x (hg5.2 x h); rw [h]; exact h4⟩)); have HL6 := Lib.hid (sl_only HL5.out ho6); have HC6 := Lib.hid (HC5.out.grown ho6 (by intro e; injection e with e; omega)); obtain ⟨y0, y1, y2, y3, y4, y5, y6, t0, t1, t2, t3, t4⟩ := HS6.out.cells; have u0 := HC6.out.cell 0; have u1 := HC6.out.cell 1; have u2 := HC6.out.cell 2; clear ho6 hv6 hv5 hk5 hg5; have tok4 : True := trivial))
          all_goals go_wp2
          go_roundw
          case rel => exact ⟨k + 1, sm + pt * vv, by omega, by go_num, by rw [IntWalk.i64_in (pt * vv) (by omega), IntWalk.i64_in (sm + pt * vv) (by omega)], by omega, by push_cast; omega, HS6, HL6, HST⟩
          case measure => simp [intOf]; omega
        · obtain rfl : k = l.length := by omega
          have hs2 := hss.out
          rw [List.take_of_length_le (Nat.le_refl _), HFIN.out] at hs2
          subst hs2
          obtain ⟨D2, hv9, hk9, hg8⟩ := HS.out.vals
          rw [HXN.out] at hg8
          have HG8 := Lib.hid hg8
          clear hg8
          have HV9 := Lib.hid hv9
          have HK9 := Lib.hid hk9
          obtain ⟨y0, y1, y2, y3, y4, y5, y6, t0, t1, t2, t3, t4⟩ := HS.out.cells
          have hlq : l.length * q ≤ 16 * q := Nat.mul_le_mul_right q hlen
          obtain ⟨NN, hNN⟩ : ∃ NN, NN = N + l.length * q := ⟨_, rfl⟩
          rw [← hNN] at HV9
          have hN9 : NN + 1 ≤ N + (1 + 16 * q) := by omega
          have hN8 : NN < 2000000000000000000 := by omega
          clear hv9 hk9 hss hlq hNN
          go_wp2_with (at_mapUpdate; refine wpList_mapUpdate_own _ rfl _ _ _ 67 rfl 30 2 law44 Tryz.underlying67 _ b NN D2 rfl HV9.out (by unfold maxLen; omega) _ _ _ rfl rfl HKEY.out _ [] (plainElem_int Tryz.underlying2 (WalkArith.wf_i64 (by omega))) ?_; intro w9 hown9 hgrow9; have HG9 := Lib.hid hgrow9; have HO9 := Lib.hid hown9; clear hgrow9 hown9)
          go_ret
          exact ⟨rfl, HS.out.only.trans HG9.out, _, HO9.out.mono (by omega), HPUT.out _ HK9.out HV9.out.isMap HG8.out⟩
theorem r44_fill (c : Chs) (hc : OkC c) : ∀ n, SolveAt 25 c n
  | 0 => r44_fill_at c hc 0 (fun k h => by omega)
  | n + 1 => r44_fill_at c hc (n + 1) fun k h => by
      obtain rfl : n = k := by omega
      exact r44_fill c hc n
end Go.Proofs.YtdlmmbfnmnglaaaGreatDoor

namespace Go.Proofs.YtdlmmbfnmnglaaaGreatDoor
open Go.RowKit Go.Maps

/-- A map that holds a table. -/
structure MapLC (D : DataW Unit) (lk : Cst → Int × Bool) : Prop where
  isMap : IsMap D
  has : ∀ t, Smol t → Maps.has D (keyS t) = (lk t).2
  val : ∀ t, Smol t → (lk t).2 = true → D.atKey (keyS t) (.lit (.int .i64 0)) = .lit (.int .i64 (lk t).1)
theorem MapLC.none : MapLC (.map []) (lookC []) := ⟨isMap_empty, fun _ _ => rfl, fun _ _ h => by cases h⟩
theorem MapLC.put {c : Chs} {D : DataW Unit} {l : List Cve} {k : Nat} (ht : OkC c) (h : MapLC D (lookC (l.take k))) (hf : FormToC c l (k + 1)) (hk : k < l.length) : MapLC (D.put (keyS l[k].st) (.lit (.int .i64 l[k].val))) (lookC (l.take (k + 1))) := by
  have hs : Smol l[k].st := (stateC_ok.1 (hf k hk (by omega)).1).smol ht
  refine ⟨h.isMap.put _ _, fun t hts => ?_, fun t hts hb => ?_⟩
  · rw [lookC_take hf hk]
    by_cases e : l[k].st = t
    · subst e; rw [has_put_same h.isMap (key_lit _), if_pos (cmpS_eq.2 rfl)]
    · rw [has_put_other (fun e2 => e (key_inj hs hts e2.symm)), if_neg (fun h => e (cmpS_eq.1 h))]; exact h.has t hts
  · rw [lookC_take hf hk] at hb ⊢
    by_cases e : l[k].st = t
    · subst e; rw [atKey_put_same h.isMap (key_lit _), if_pos (cmpS_eq.2 rfl)]
    · have e9 : ¬ cmpS l[k].st t = 0 := fun h => e (cmpS_eq.1 h)
      rw [atKey_put_other (fun e2 => e (key_inj hs hts e2.symm)), if_neg e9]
      rw [if_neg e9] at hb
      exact h.val t hts hb
theorem load_chsZ {w : World} {g : Nat} {x0 x1 x2 x3 x4 x5 x6 : Value} (h : Blk w g 28 #[x0, x1, x2, x3, x4, x5, x6]) : (Instr.loadAt 28 (.pointer (some ⟨g, 0, none⟩))).run Tryz.prog w = .ok (.agg #[x0, x1, x2, x3, x4, x5, x6]) w := by
  have c0 := h.cell 0
  have c1 := h.cell 1
  have c2 := h.cell 2
  have c3 := h.cell 3
  have c4 := h.cell 4
  have c5 := h.cell 5
  have c6 := h.cell 6
  simp only [List.getElem?_toArray, List.getElem?_cons_zero, List.getElem?_cons_succ] at c0 c1 c2 c3 c4 c5 c6
  simp [go_sem, c0, c1, c2, c3, c4, c5, c6]
theorem load_cstZ {w : World} {b o : Nat} {p0 p1 p2 p3 p4 : Int} (h0 : w.cell? ⟨b, o, none⟩ = some (.int .i64 p0)) (h1 : w.cell? ⟨b, o + 1, none⟩ = some (.int .i64 p1)) (h2 : w.cell? ⟨b, o + 2, none⟩ = some (.int .i64 p2)) (h3 : w.cell? ⟨b, o + 3, none⟩ = some (.int .i64 p3)) (h4 : w.cell? ⟨b, o + 4, none⟩ = some (.int .i64 p4)) :
    (Instr.loadAt 30 (.pointer (some ⟨b, o, none⟩))).run Tryz.prog w = .ok (.agg #[.int .i64 p0, .int .i64 p1, .int .i64 p2, .int .i64 p3, .int .i64 p4]) w := by
  simp [go_sem, h0, h1, h2, h3, h4]
noncomputable def prOps : Array Oper := ((Tryz.f33.body).bind (findR6 2)).getD #[]
def prNeeds : List (List Nat) := [[4], [17], [3], [4], [20], [19, 21], [18, 22]]
theorem pr_size : prOps.size = 7 := by kernel_rfl
def prTabA (c : Chs) (bv wv pv ov : Value) (x : Cve) (p : Int) (g : Nat) : List (Nat × Value) := [(3, .pointer (some ⟨g, 0, none⟩)), (4, .pointer (some ⟨g + 1, 0, none⟩)), (17, .pointer (some ⟨g + 1, 5, none⟩)), (18, .int .i64 x.val), (19, .agg #[bv, wv, pv, .int .i64 c.over, .int .i64 c.done, .int .i64 c.need, ov]), (20, .pointer (some ⟨g + 1, 0, none⟩)), (21, .agg #[.int .i64 x.st.ball, .int .i64 x.st.need, .int .i64 x.st.str, .int .i64 x.st.par, .int .i64 x.st.nxt]), (22, .int .i64 p), (23, .bool false)]
def prMaskA (c : Chs) (bv wv pv ov : Value) (x : Cve) (p : Int) (g : Nat) : List (Option Value) := none :: none :: none :: none :: none :: none :: none :: none :: none :: none :: none :: none :: none :: none :: none :: none :: none :: some (.pointer (some ⟨g + 1, 5, none⟩)) :: some (.int .i64 x.val) :: some (.agg #[bv, wv, pv, .int .i64 c.over, .int .i64 c.done, .int .i64 c.need, ov]) :: some (.pointer (some ⟨g + 1, 0, none⟩)) :: some (.agg #[.int .i64 x.st.ball, .int .i64 x.st.need, .int .i64 x.st.str, .int .i64 x.st.par, .int .i64 x.st.nxt]) :: some (.int .i64 p) :: some (.bool false) :: none :: none :: none :: none :: none :: none :: none :: none :: none :: none :: none :: none :: none :: none :: none :: none :: none :: none :: none :: none :: none :: none :: none :: none :: none :: none :: none :: none :: none :: none :: none :: none :: []
set_option maxRecDepth 100000 in
set_option maxHeartbeats 4000000 in
theorem pr_freeA (c : Chs) (bv wv pv ov : Value) (x : Cve) (p : Int) (w : World) (kc : ∀ W, Below w.heap.size w W → Calls Tryz.prog 64 #[.agg #[bv, wv, pv, .int .i64 c.over, .int .i64 c.done, .int .i64 c.need, ov], .agg #[.int .i64 x.st.ball, .int .i64 x.st.need, .int .i64 x.st.str, .int .i64 x.st.par, .int .i64 x.st.nxt]] W fun e W' => e = .returned (.int .i64 p) ∧ Below W.heap.size W W') (hq : x.val = p) :
    FreeG Tryz.prog prOps (tabV (prTabA c bv wv pv ov x p w.heap.size)) (fun W => EnB w W c bv wv pv ov x) (fun i => prNeeds.getD i []) [3, 4] 56 := by
  refine ⟨backG_of (by kernel_rfl), dstG_of (by kernel_rfl), needG_of (by kernel_rfl), fun d w1 w2 v h _ => h, fun W W' h hb => h.below hb, ?_⟩
  intro i o ho a W hG hn
  have hlt : i < 7 := by rw [← pr_size]; exact (Array.getElem?_eq_some_iff.1 ho).1
  have hcase : i = 0 ∨ i = 1 ∨ i = 2 ∨ i = 3 ∨ i = 4 ∨ i = 5 ∨ i = 6 := by omega
  rcases hcase with rfl | rfl | rfl | rfl | rfl | rfl | rfl
  · have hop := opG_of (x := .fieldAddr 32 (.tmp 4) 1) (d := some 17) (by kernel_rfl) ho
    obtain ⟨h1, h2⟩ := hop
    refine .inl ⟨free_not (guardG_of (by kernel_rfl) ho), ?_⟩
    exact meets_field h1 (fg_val 4 (.pointer (some ⟨w.heap.size + 1, 0, none⟩)) hn (by kernel_rfl) rfl) (by kernel_rfl : (Instr.fieldAt 32 (.pointer (some ⟨w.heap.size + 1, 0, none⟩)) 1).run Tryz.prog W = .ok (.pointer (some ⟨w.heap.size + 1, 5, none⟩)) W) (fg_put h2 rfl)
  · have hop := opG_of (x := .load 2 (.tmp 17)) (d := some 18) (by kernel_rfl) ho
    obtain ⟨h1, h2⟩ := hop
    refine .inl ⟨free_not (guardG_of (by kernel_rfl) ho), ?_⟩
    exact meets_load h1 (fg_val 17 (.pointer (some ⟨w.heap.size + 1, 5, none⟩)) hn (by kernel_rfl) rfl) (loadAt_cell (by kernel_rfl) (hG.en.cell 5)) (fg_put h2 rfl)
  · have hop := opG_of (x := .load 28 (.tmp 3)) (d := some 19) (by kernel_rfl) ho
    obtain ⟨h1, h2⟩ := hop
    refine .inl ⟨free_not (guardG_of (by kernel_rfl) ho), ?_⟩
    exact meets_load h1 (fg_val 3 (.pointer (some ⟨w.heap.size, 0, none⟩)) hn (by kernel_rfl) rfl) (load_chsZ hG.box) (fg_put h2 rfl)
  · have hop := opG_of (x := .fieldAddr 32 (.tmp 4) 0) (d := some 20) (by kernel_rfl) ho
    obtain ⟨h1, h2⟩ := hop
    refine .inl ⟨free_not (guardG_of (by kernel_rfl) ho), ?_⟩
    exact meets_field h1 (fg_val 4 (.pointer (some ⟨w.heap.size + 1, 0, none⟩)) hn (by kernel_rfl) rfl) (by kernel_rfl : (Instr.fieldAt 32 (.pointer (some ⟨w.heap.size + 1, 0, none⟩)) 0).run Tryz.prog W = .ok (.pointer (some ⟨w.heap.size + 1, 0, none⟩)) W) (fg_put h2 rfl)
  · have hop := opG_of (x := .load 30 (.tmp 20)) (d := some 21) (by kernel_rfl) ho
    obtain ⟨h1, h2⟩ := hop
    refine .inl ⟨free_not (guardG_of (by kernel_rfl) ho), ?_⟩
    exact meets_load h1 (fg_val 20 (.pointer (some ⟨w.heap.size + 1, 0, none⟩)) hn (by kernel_rfl) rfl) (load_cstZ (hG.en.cell 0) (hG.en.cell 1) (hG.en.cell 2) (hG.en.cell 3) (hG.en.cell 4)) (fg_put h2 rfl)
  · have hop := opG_of (x := .call { callee := .value (.func 64), args := #[.tmp 19, .tmp 21], argTypes := #[28, 30] }) (d := some 22) (by kernel_rfl) ho
    obtain ⟨h1, h2⟩ := hop
    refine .inl ⟨free_not (guardG_of (by kernel_rfl) ho), ?_⟩
    refine meets_call (args := #[.agg #[bv, wv, pv, .int .i64 c.over, .int .i64 c.done, .int .i64 c.need, ov], .agg #[.int .i64 x.st.ball, .int .i64 x.st.need, .int .i64 x.st.str, .int .i64 x.st.par, .int .i64 x.st.nxt]]) h1 rfl rfl (by have e19 := (fg_val 19 (.agg #[bv, wv, pv, .int .i64 c.over, .int .i64 c.done, .int .i64 c.need, ov]) hn (by kernel_rfl) rfl); have e21 := (fg_val 21 (.agg #[.int .i64 x.st.ball, .int .i64 x.st.need, .int .i64 x.st.str, .int .i64 x.st.par, .int .i64 x.st.nxt]) hn (by kernel_rfl) rfl); simp [e19, e21]) Tryz.func64 (by kernel_rfl) (by kernel_rfl) fun d hd => ?_
    refine (kc W hG.bel).mono ?_
    rintro e W' ⟨rfl, hb⟩
    exact ⟨_, rfl, hb, (fg_put h2 rfl d hd)⟩
  · have hop := opG_of (x := .binOp .neq 2 (.tmp 18) (.tmp 22) 2) (d := some 23) (by kernel_rfl) ho
    obtain ⟨h1, h2⟩ := hop
    refine .inl ⟨free_not (guardG_of (by kernel_rfl) ho), ?_⟩
    exact meets_value (v := .bool false) (by have e18 := (fg_val 18 (.int .i64 x.val) hn (by kernel_rfl) rfl); have e22 := (fg_val 22 (.int .i64 p) hn (by kernel_rfl) rfl); unfold execOp; simp only [h1, e18, e22]; simp [go_sem, BigFrame.eval_const, hq]) (fg_put h2 rfl)
def prTabB (c : Chs) (bv wv pv ov : Value) (x : Cve) (p : Int) (g : Nat) : List (Nat × Value) := [(3, .pointer (some ⟨g, 0, none⟩)), (4, .pointer (some ⟨g + 1, 0, none⟩)), (17, .pointer (some ⟨g + 1, 5, none⟩)), (18, .int .i64 x.val), (19, .agg #[bv, wv, pv, .int .i64 c.over, .int .i64 c.done, .int .i64 c.need, ov]), (20, .pointer (some ⟨g + 1, 0, none⟩)), (21, .agg #[.int .i64 x.st.ball, .int .i64 x.st.need, .int .i64 x.st.str, .int .i64 x.st.par, .int .i64 x.st.nxt]), (22, .int .i64 p), (23, .bool true)]
def prMaskB (c : Chs) (bv wv pv ov : Value) (x : Cve) (p : Int) (g : Nat) : List (Option Value) := none :: none :: none :: none :: none :: none :: none :: none :: none :: none :: none :: none :: none :: none :: none :: none :: none :: some (.pointer (some ⟨g + 1, 5, none⟩)) :: some (.int .i64 x.val) :: some (.agg #[bv, wv, pv, .int .i64 c.over, .int .i64 c.done, .int .i64 c.need, ov]) :: some (.pointer (some ⟨g + 1, 0, none⟩)) :: some (.agg #[.int .i64 x.st.ball, .int .i64 x.st.need, .int .i64 x.st.str, .int .i64 x.st.par, .int .i64 x.st.nxt]) :: some (.int .i64 p) :: some (.bool true) :: none :: none :: none :: none :: none :: none :: none :: none :: none :: none :: none :: none :: none :: none :: none :: none :: none :: none :: none :: none :: none :: none :: none :: none :: none :: none :: none :: none :: none :: none :: none :: none :: []
set_option maxRecDepth 100000 in
set_option maxHeartbeats 4000000 in
theorem pr_freeB (c : Chs) (bv wv pv ov : Value) (x : Cve) (p : Int) (w : World) (kc : ∀ W, Below w.heap.size w W → Calls Tryz.prog 64 #[.agg #[bv, wv, pv, .int .i64 c.over, .int .i64 c.done, .int .i64 c.need, ov], .agg #[.int .i64 x.st.ball, .int .i64 x.st.need, .int .i64 x.st.str, .int .i64 x.st.par, .int .i64 x.st.nxt]] W fun e W' => e = .returned (.int .i64 p) ∧ Below W.heap.size W W') (hq : ¬ x.val = p) :
    FreeG Tryz.prog prOps (tabV (prTabB c bv wv pv ov x p w.heap.size)) (fun W => EnB w W c bv wv pv ov x) (fun i => prNeeds.getD i []) [3, 4] 56 := by
  refine ⟨backG_of (by kernel_rfl), dstG_of (by kernel_rfl), needG_of (by kernel_rfl), fun d w1 w2 v h _ => h, fun W W' h hb => h.below hb, ?_⟩
  intro i o ho a W hG hn
  have hlt : i < 7 := by rw [← pr_size]; exact (Array.getElem?_eq_some_iff.1 ho).1
  have hcase : i = 0 ∨ i = 1 ∨ i = 2 ∨ i = 3 ∨ i = 4 ∨ i = 5 ∨ i = 6 := by omega
  rcases hcase with rfl | rfl | rfl | rfl | rfl | rfl | rfl
  · have hop := opG_of (x := .fieldAddr 32 (.tmp 4) 1) (d := some 17) (by kernel_rfl) ho
    obtain ⟨h1, h2⟩ := hop
    refine .inl ⟨free_not (guardG_of (by kernel_rfl) ho), ?_⟩
    exact meets_field h1 (fg_val 4 (.pointer (some ⟨w.heap.size + 1, 0, none⟩)) hn (by kernel_rfl) rfl) (by kernel_rfl : (Instr.fieldAt 32 (.pointer (some ⟨w.heap.size + 1, 0, none⟩)) 1).run Tryz.prog W = .ok (.pointer (some ⟨w.heap.size + 1, 5, none⟩)) W) (fg_put h2 rfl)
  · have hop := opG_of (x := .load 2 (.tmp 17)) (d := some 18) (by kernel_rfl) ho
    obtain ⟨h1, h2⟩ := hop
    refine .inl ⟨free_not (guardG_of (by kernel_rfl) ho), ?_⟩
    exact meets_load h1 (fg_val 17 (.pointer (some ⟨w.heap.size + 1, 5, none⟩)) hn (by kernel_rfl) rfl) (loadAt_cell (by kernel_rfl) (hG.en.cell 5)) (fg_put h2 rfl)
  · have hop := opG_of (x := .load 28 (.tmp 3)) (d := some 19) (by kernel_rfl) ho
    obtain ⟨h1, h2⟩ := hop
    refine .inl ⟨free_not (guardG_of (by kernel_rfl) ho), ?_⟩
    exact meets_load h1 (fg_val 3 (.pointer (some ⟨w.heap.size, 0, none⟩)) hn (by kernel_rfl) rfl) (load_chsZ hG.box) (fg_put h2 rfl)
  · have hop := opG_of (x := .fieldAddr 32 (.tmp 4) 0) (d := some 20) (by kernel_rfl) ho
    obtain ⟨h1, h2⟩ := hop
    refine .inl ⟨free_not (guardG_of (by kernel_rfl) ho), ?_⟩
    exact meets_field h1 (fg_val 4 (.pointer (some ⟨w.heap.size + 1, 0, none⟩)) hn (by kernel_rfl) rfl) (by kernel_rfl : (Instr.fieldAt 32 (.pointer (some ⟨w.heap.size + 1, 0, none⟩)) 0).run Tryz.prog W = .ok (.pointer (some ⟨w.heap.size + 1, 0, none⟩)) W) (fg_put h2 rfl)
  · have hop := opG_of (x := .load 30 (.tmp 20)) (d := some 21) (by kernel_rfl) ho
    obtain ⟨h1, h2⟩ := hop
    refine .inl ⟨free_not (guardG_of (by kernel_rfl) ho), ?_⟩
    exact meets_load h1 (fg_val 20 (.pointer (some ⟨w.heap.size + 1, 0, none⟩)) hn (by kernel_rfl) rfl) (load_cstZ (hG.en.cell 0) (hG.en.cell 1) (hG.en.cell 2) (hG.en.cell 3) (hG.en.cell 4)) (fg_put h2 rfl)
  · have hop := opG_of (x := .call { callee := .value (.func 64), args := #[.tmp 19, .tmp 21], argTypes := #[28, 30] }) (d := some 22) (by kernel_rfl) ho
    obtain ⟨h1, h2⟩ := hop
    refine .inl ⟨free_not (guardG_of (by kernel_rfl) ho), ?_⟩
    refine meets_call (args := #[.agg #[bv, wv, pv, .int .i64 c.over, .int .i64 c.done, .int .i64 c.need, ov], .agg #[.int .i64 x.st.ball, .int .i64 x.st.need, .int .i64 x.st.str, .int .i64 x.st.par, .int .i64 x.st.nxt]]) h1 rfl rfl (by have e19 := (fg_val 19 (.agg #[bv, wv, pv, .int .i64 c.over, .int .i64 c.done, .int .i64 c.need, ov]) hn (by kernel_rfl) rfl); have e21 := (fg_val 21 (.agg #[.int .i64 x.st.ball, .int .i64 x.st.need, .int .i64 x.st.str, .int .i64 x.st.par, .int .i64 x.st.nxt]) hn (by kernel_rfl) rfl); simp [e19, e21]) Tryz.func64 (by kernel_rfl) (by kernel_rfl) fun d hd => ?_
    refine (kc W hG.bel).mono ?_
    rintro e W' ⟨rfl, hb⟩
    exact ⟨_, rfl, hb, (fg_put h2 rfl d hd)⟩
  · have hop := opG_of (x := .binOp .neq 2 (.tmp 18) (.tmp 22) 2) (d := some 23) (by kernel_rfl) ho
    obtain ⟨h1, h2⟩ := hop
    refine .inl ⟨free_not (guardG_of (by kernel_rfl) ho), ?_⟩
    exact meets_value (v := .bool true) (by have e18 := (fg_val 18 (.int .i64 x.val) hn (by kernel_rfl) rfl); have e22 := (fg_val 22 (.int .i64 p) hn (by kernel_rfl) rfl); unfold execOp; simp only [h1, e18, e22]; simp [go_sem, BigFrame.eval_const, hq]) (fg_put h2 rfl)
set_option maxRecDepth 100000 in
set_option maxHeartbeats 4000000 in
theorem r44_proved (c : Chs) (hc : OkC c) (x : Cve) (hs : OkS c x.st) (bv wv pv ov : Value) (lk : Cst → Int × Bool) (w : World) (h : ChAt w (· < w.heap.size) bv wv pv ov c) (b N : Nat) (D : DataW Unit) (hv : Vals w b N D) (hml : MapLC D lk) :
    Calls Tryz.prog 33 #[chV c bv wv pv ov, .agg #[.int .i64 x.st.ball, .int .i64 x.st.need, .int .i64 x.st.str, .int .i64 x.st.par, .int .i64 x.st.nxt, .int .i64 x.val], .map (some b)] w fun e w' => e = .returned (.int .i64 (entE c lk x)) ∧ Below w.heap.size w w' := by
  obtain ⟨A, ca, rfl, hc1, hc2⟩ := h.mdl.bat.shape
  obtain ⟨A1, ca1, rfl, hc3, hc4⟩ := h.mdl.bow.shape
  obtain ⟨A2, ca2, rfl, hc5, hc6⟩ := h.bow.shape
  obtain ⟨A3, ca3, rfl, hc7, hc8⟩ := h.ord.shape
  have kst := fun W (hW : Below w.heap.size w W) => r44_status c x.st _ _ _ _ W (h.below hW) hs
  have kpw := fun W (hW : Below w.heap.size w W) => r44_ended c x.st _ _ _ _ W (h.below hW) hc hs
  have kmv := fun (h1 : stC c x.st = 1) W (hW : Below w.heap.size w W) => r44_moves c x.st _ _ _ _ W (h.below hW) hc hs h1
  have HX0 := Lib.hid (EnB.new w c (.slice A c.mdl.bats.length ca) (.slice A1 c.mdl.bows.length ca1) (.slice A2 c.bows.length ca2) (.slice A3 c.ord.length ca3) x)
  obtain ⟨⟨z1, z2⟩, hz⟩ : ∃ z, z = valLC c lk x.st := ⟨_, rfl⟩
  obtain ⟨r, hr⟩ : ∃ r, r = entE c lk x := ⟨_, rfl⟩
  have hr2 := hr.trans (entE_at c lk x hz)
  rw [← hr]
  have hst3 := stC_bd c x.st
  have tok0 : True := trivial
  have hstL := fun h1 : stC c x.st = 3 => valS_lost hs h1
  have HV := Lib.hid hv
  clear hv
  have hz3 : stC c x.st ≠ 1 → (z1, z2) = ((if stC c x.st = 2 then pow16 (leftC c x.st) else 0), true) := fun h1 => hz.trans (by
    unfold valLC; rw [if_neg h1]
    by_cases h2 : stC c x.st = 2
    · rw [if_pos h2, valS_won h2]
    · rw [if_neg h2, hstL (by omega)])
  by_cases h1 : stC c x.st = 1
  case neg =>
    have hz2 := hz3 h1
    obtain ⟨p, hp⟩ : ∃ p, p = (if stC c x.st = 2 then pow16 (leftC c x.st) else 0) := ⟨_, rfl⟩
    rw [← hp] at hz2 kpw
    obtain ⟨st, hst⟩ : ∃ st, st = stC c x.st := ⟨_, rfl⟩
    rw [← hst] at kst h1
    obtain ⟨rfl, rfl⟩ : z1 = p ∧ z2 = true := by injection hz2 with h8 h9; exact ⟨h8, h9⟩
    have e1 : (st != 1) = true := by simp [h1]
    have KST := Lib.hid kst
    have KPW := Lib.hid kpw
    clear kst kpw kmv hz hz2 hz3 hp hst h1 hst3 hstL hml hr hs h hc
    obtain ⟨⟨ball, need, str, par, nxt⟩, val⟩ := x
    unfold chV stV at *
    dsimp only at *
    by_cases hv9 : z1 = val
    · have e5 : (val != z1) = false := by simp [hv9]
      have HR := Lib.hid (hr2.trans (by rw [if_neg (by decide), if_neg (by simp [hv9])]))
      have HVQ := Lib.hid hv9
      clear hr2 hv9 e5
      go_enter Tryz.func33, Tryz.ntmps33
      go_wp2_with (clear tok0; go_at_call 63; refine (KST.out _ HX0.out.bel).mono ?_; rintro e w2 ⟨rfl, hb2⟩; have HS2 := Lib.hid (HX0.out.below hb2); obtain ⟨y0, y1, y2, y3, y4, y5, y6, t0, t1, t2, t3, t4, t5⟩ := HS2.out.cells; try dsimp only at t0 t1 t2 t3 t4 t5; clear hb2; have tok1 : True := trivial)
      have HSE := HS2
      clear y0 y1 y2 y3 y4 y5 y6 t0 t1 t2 t3 t4 t5
      refine wp_region_freeF (dl := [17, 18, 19, 20, 21, 22, 23]) (mask := prMaskA c (.slice A c.mdl.bats.length ca) (.slice A1 c.mdl.bows.length ca1) (.slice A2 c.bows.length ca2) (.slice A3 c.ord.length ca3) ⟨⟨ball, need, str, par, nxt⟩, val⟩ z1 w.heap.size) (T := _ :: _ :: _ :: _ :: _ :: _ :: _ :: _ :: _ :: _ :: _ :: _ :: _ :: _ :: _ :: _ :: _ :: _ :: _ :: _ :: _ :: _ :: _ :: _ :: _ :: _ :: _ :: _ :: _ :: _ :: _ :: _ :: _ :: _ :: _ :: _ :: _ :: _ :: _ :: _ :: _ :: _ :: _ :: _ :: _ :: _ :: _ :: _ :: _ :: _ :: _ :: _ :: _ :: _ :: _ :: _ :: []) (by kernel_rfl : _ = prOps) (by kernel_rfl) (pr_freeA c (.slice A c.mdl.bats.length ca) (.slice A1 c.mdl.bows.length ca1) (.slice A2 c.bows.length ca2) (.slice A3 c.ord.length ca3) ⟨⟨ball, need, str, par, nxt⟩, val⟩ z1 w KPW.out (by first | exact HVQ.out | exact fun e => HVQ.out e.symm | exact HVQ.out.symm)) rfl (by kernel_rfl) (by kernel_rfl) HSE.out (fun d hd => by simp only [List.mem_cons, List.not_mem_nil, or_false] at hd; rcases hd with rfl | rfl <;> rfl) rfl ?_
      intro wx hgx hbx
      have HGX := Lib.hid hgx
      clear hgx hbx
      go_wp2
      go_ret
      exact ⟨ret_i HR.out.symm, HGX.out.bel⟩
    · have e5 : (val != z1) = true := by simp; exact fun e => hv9 e.symm
      have HR := Lib.hid (hr2.trans (by rw [if_neg (by decide), if_pos hv9]))
      have HVQ := Lib.hid hv9
      clear hr2 hv9 e5
      go_enter Tryz.func33, Tryz.ntmps33
      go_wp2_with (clear tok0; go_at_call 63; refine (KST.out _ HX0.out.bel).mono ?_; rintro e w2 ⟨rfl, hb2⟩; have HS2 := Lib.hid (HX0.out.below hb2); obtain ⟨y0, y1, y2, y3, y4, y5, y6, t0, t1, t2, t3, t4, t5⟩ := HS2.out.cells; try dsimp only at t0 t1 t2 t3 t4 t5; clear hb2; have tok1 : True := trivial)
      have HSE := HS2
      clear y0 y1 y2 y3 y4 y5 y6 t0 t1 t2 t3 t4 t5
      refine wp_region_freeF (dl := [17, 18, 19, 20, 21, 22, 23]) (mask := prMaskB c (.slice A c.mdl.bats.length ca) (.slice A1 c.mdl.bows.length ca1) (.slice A2 c.bows.length ca2) (.slice A3 c.ord.length ca3) ⟨⟨ball, need, str, par, nxt⟩, val⟩ z1 w.heap.size) (T := _ :: _ :: _ :: _ :: _ :: _ :: _ :: _ :: _ :: _ :: _ :: _ :: _ :: _ :: _ :: _ :: _ :: _ :: _ :: _ :: _ :: _ :: _ :: _ :: _ :: _ :: _ :: _ :: _ :: _ :: _ :: _ :: _ :: _ :: _ :: _ :: _ :: _ :: _ :: _ :: _ :: _ :: _ :: _ :: _ :: _ :: _ :: _ :: _ :: _ :: _ :: _ :: _ :: _ :: _ :: _ :: []) (by kernel_rfl : _ = prOps) (by kernel_rfl) (pr_freeB c (.slice A c.mdl.bats.length ca) (.slice A1 c.mdl.bows.length ca1) (.slice A2 c.bows.length ca2) (.slice A3 c.ord.length ca3) ⟨⟨ball, need, str, par, nxt⟩, val⟩ z1 w KPW.out (by first | exact HVQ.out | exact fun e => HVQ.out e.symm | exact HVQ.out.symm)) rfl (by kernel_rfl) (by kernel_rfl) HSE.out (fun d hd => by simp only [List.mem_cons, List.not_mem_nil, or_false] at hd; rcases hd with rfl | rfl <;> rfl) rfl ?_
      intro wx hgx hbx
      have HGX := Lib.hid hgx
      clear hgx hbx
      go_wp2
      go_ret
      exact ⟨ret_i HR.out.symm, HGX.out.bel⟩
  have hz2 : (z1, z2) = runLC lk (stepC c x.st) (mvC c x.st) 0 := hz.trans (by unfold valLC; rw [if_pos h1])
  have kmv1 := kmv h1
  rw [h1] at kst
  obtain ⟨_, _, _, _, _, _, _, _, _, _, _, _, _, _, _, hd⟩ := mvC_at hc hs h1
  obtain ⟨l, hle⟩ : ∃ l, mvC c x.st = l := ⟨_, rfl⟩
  rw [hle] at hd kmv1 hz2
  have hok := checkD_ok hd
  have hlen : l.length ≤ 16 := hok.len.2
  have hoe : ∀ (k : Nat) (hk : k < l.length), OkO l[k] := fun k hk => hok.each _ (List.getElem_mem hk)
  have kstep := fun k (hk : k < l.length) W => r44_after c x.st l[k] A A1 A2 A3 ca ca1 ca2 ca3 W hc hs h1 ⟨(hoe k hk).r0, (hoe k hk).r7⟩
  have hmp : ∀ k (hk : k < l.length), Maps.has D (keyS (stepC c x.st l[k])) = (lk (stepC c x.st l[k])).2 ∧ ((lk (stepC c x.st l[k])).2 = true → D.atKey (keyS (stepC c x.st l[k])) (.lit (.int .i64 0)) = .lit (.int .i64 (lk (stepC c x.st l[k])).1)) ∧ keyOf Tryz.prog 30 (stV (stepC c x.st l[k])) = some (keyS (stepC c x.st l[k])) := fun k hk =>
    have k1 := (stepC_ok hc hs h1 (hoe k hk).r0).1.smol hc
    ⟨hml.has _ k1, hml.val _ k1, key_of k1⟩
  have HMP := Lib.hid hmp
  have hat := fun k b (hk : k < l.length) => runLC_at (lk := lk) (f := stepC c x.st) (b := b) hk
  have HZ0 : Hid ((z1, z2) = runLC lk (stepC c x.st) (l.drop 0) 0) := hz2
  have KST := Lib.hid kst
  have KMV := Lib.hid kmv1
  have KSTEP := Lib.hid kstep
  have HAT := Lib.hid hat
  have HR2 := Lib.hid hr2
  clear kst kpw kmv kmv1 kstep hat hz hz2 hd hok hoe hle h1 hst3 hstL hr hr2 hs h hc hmp hml hz3
  obtain ⟨⟨ball, need, str, par, nxt⟩, val⟩ := x
  unfold chV stV at *
  dsimp only at *
  go_enter Tryz.func33, Tryz.ntmps33
  go_wp2_with (first
    | (clear tok0; go_at_call 63; refine (KST.out _ HX0.out.bel).mono ?_; rintro e w2 ⟨rfl, hb2⟩; have HS2 := Lib.hid (HX0.out.below hb2); obtain ⟨y0, y1, y2, y3, y4, y5, y6, t0, t1, t2, t3, t4, t5⟩ := HS2.out.cells; try dsimp only at t0 t1 t2 t3 t4 t5; clear hb2; have tok1 : True := trivial)
    | (clear tok1; go_at_call 65; refine (KMV.out _ HS2.out.bel).mono ?_; rintro e w4 ⟨A4, n4, k4, rfl, hb3, hs3⟩; obtain ⟨Az, kz, hze, hz1, hz2⟩ := hs3.shape; have hn4 : n4 = l.length := (by injection hze); subst hn4; have HS4 := Lib.hid (HS2.out.below hb3); have HL4 := Lib.hid (hs3.keep (G := fun x => x < w4.heap.size) elOtc_good (Same.refl _ _) fun x hx => hx.2); clear y0 y1 y2 y3 y4 y5 y6 t0 t1 t2 t3 t4 t5; obtain ⟨y0, y1, y2, y3, y4, y5, y6, t0, t1, t2, t3, t4, t5⟩ := HS4.out.cells; try dsimp only at t0 t1 t2 t3 t4 t5; clear hb3 hs3 hze hz1 hz2; have tok3 : True := trivial))
  go_loopw [7, 29] (fun v i wr => ∃ (k : Nat) (sm : Int), k ≤ l.length ∧ i = .int .i64 k ∧ v = .int .i64 sm ∧ Hid (EnB w wr c (.slice A c.mdl.bats.length ca) (.slice A1 c.mdl.bows.length ca1) (.slice A2 c.bows.length ca2) (.slice A3 c.ord.length ca3) ⟨⟨ball, need, str, par, nxt⟩, val⟩) ∧ Hid (Sl 3 elOtc wr (· < wr.heap.size) (.slice A4 l.length k4) l) ∧ Hid ((z1, z2) = runLC lk (stepC c ⟨ball, need, str, par, nxt⟩) (l.drop k) sm)) (fun _ i _ => l.length - (intOf i).toNat)
  case atStart => exact ⟨0, 0, Nat.zero_le _, rfl, rfl, HS4, HL4, HZ0⟩
  case round =>
    clear HS2 HS4 HL4 HZ0 y0 y1 y2 y3 y4 y5 y6 t0 t1 t2 t3 t4 t5
    obtain ⟨k, sm, hk, rfl, rfl, HS, HL, hss⟩ := hrel
    by_cases hlt : k < l.length
    · obtain ⟨b0, o, rfl, hbl, j0, j1, j2⟩ := otc_at HL.out hlt
      have hst := hss.out.trans (HAT.out k sm hlt)
      have kS := KSTEP.out k hlt
      obtain ⟨q2, q3, q4⟩ := HMP.out k hlt
      obtain ⟨s', hs'⟩ : ∃ x, x = stepC c ⟨ball, need, str, par, nxt⟩ l[k] := ⟨_, rfl⟩
      simp only [← hs'] at kS q2 q3 q4 hst
      obtain ⟨⟨y, ok⟩, hvv⟩ : ∃ x, x = lk s' := ⟨_, rfl⟩
      simp only [← hvv] at q2 q3 hst
      obtain ⟨kst, hkst⟩ : ∃ x, x = keyS s' := ⟨_, rfl⟩
      simp only [← hkst] at q2 q3 q4
      obtain ⟨⟨pr, pw, pt⟩, hp'⟩ : ∃ p, p = l[k] := ⟨_, rfl⟩
      rw [← hp'] at j0 j1 j2
      simp only [← hp'] at kS hst
      (try dsimp only at j0 j1 j2 kS hst)
      obtain ⟨⟨m0, m1, m2, m3, m4⟩, hm⟩ : ∃ x, x = s' := ⟨_, rfl⟩
      simp only [← hm] at kS q4
      try dsimp only at kS q4
      have KS := Lib.hid kS
      have HKEY := Lib.hid q4
      clear kS hkst q4 hs' hvv hp' hss hm
      have HSA := Lib.hid (HS.out.alloc (.cells #[.int .i64 pr, .bool pw, .int .i64 pt] 110))
      have HLA := Lib.hid (HL.out.keep (G := fun x => x < (wr.alloc (.cells #[.int .i64 pr, .bool pw, .int .i64 pt] 110)).heap.size) elOtc_good (Same.of_below (Below.alloc (Below.refl wr.heap.size wr) (Nat.le_refl _) (.cells #[.int .i64 pr, .bool pw, .int .i64 pt] 110))) fun x hx => by simp; omega)
      have HCA := Lib.hid (Blk.new wr 110 #[.int .i64 pr, .bool pw, .int .i64 pt])
      obtain ⟨y0, y1, y2, y3, y4, y5, y6, t0, t1, t2, t3, t4, t5⟩ := HS.out.cells
      try dsimp only at t0 t1 t2 t3 t4 t5
      have hl1 := HS.out.box.lt
      have hl2 := HS.out.en.lt
      have tok5 : True := trivial
      cases ok
      · rw [if_neg (by decide)] at hst
        have HR := Lib.hid (HR2.out.trans (by rw [show z2 = false from by injection hst, if_pos rfl]))
        have HQ2 := Lib.hid q2; have hhas := fun (W : World) => q2; clear q3 hhas
        clear hst
        go_wp2_with (first
          | (clear tok5; go_at_call 66; refine (KS.out _).mono ?_; rintro e w5 ⟨rfl, hb5⟩; have HS5 := Lib.hid (HSA.out.below hb5); have HL5 := Lib.hid (HLA.out.keep (G := fun x => x < w5.heap.size) elOtc_good (Same.of_below hb5) fun x hx => Nat.lt_of_lt_of_le hx hb5.size); have HC5 := Lib.hid (HCA.out.below hb5 HCA.out.lt); clear y0 y1 y2 y3 y4 y5 y6 t0 t1 t2 t3 t4 t5; obtain ⟨y0, y1, y2, y3, y4, y5, y6, t0, t1, t2, t3, t4, t5⟩ := HS5.out.cells; try dsimp only at t0 t1 t2 t3 t4 t5; have u0 := HC5.out.cell 0; have u1 := HC5.out.cell 1; have u2 := HC5.out.cell 2; have HV5 := Lib.hid (vals_below HV.out HS5.out.bel); clear hb5 hl1 hl2; have tok6 : True := trivial)
          | (at_lookup; refine wpList_lookup_own_ok_int _ rfl _ _ 67 rfl 30 2 .i64 law44 Tryz.underlying67 Tryz.underlying2 (zero_i64 _) b N D rfl HV5.out _ _ rfl HKEY.out ?_; intro cc hat hwc; clear hat hwc))
        go_ret
        exact ⟨ret_i HR.out.symm, HS5.out.bel⟩
      · rw [if_pos rfl] at hst
        have HST := Lib.hid hst
        have HVAL := Lib.hid (q3 rfl); clear q3
        clear hst
        go_wp2_with (first
          | (clear tok5; go_at_call 66; refine (KS.out _).mono ?_; rintro e w5 ⟨rfl, hb5⟩; have HS5 := Lib.hid (HSA.out.below hb5); have HL5 := Lib.hid (HLA.out.keep (G := fun x => x < w5.heap.size) elOtc_good (Same.of_below hb5) fun x hx => Nat.lt_of_lt_of_le hx hb5.size); have HC5 := Lib.hid (HCA.out.below hb5 HCA.out.lt); clear y0 y1 y2 y3 y4 y5 y6 t0 t1 t2 t3 t4 t5; obtain ⟨y0, y1, y2, y3, y4, y5, y6, t0, t1, t2, t3, t4, t5⟩ := HS5.out.cells; try dsimp only at t0 t1 t2 t3 t4 t5; have u0 := HC5.out.cell 0; have u1 := HC5.out.cell 1; have u2 := HC5.out.cell 2; have HV5 := Lib.hid (vals_below HV.out HS5.out.bel); clear hb5 hl1 hl2; have tok6 : True := trivial)
          | (at_lookup; refine wpList_lookup_own_ok_int _ rfl _ _ 67 rfl 30 2 .i64 law44 Tryz.underlying67 Tryz.underlying2 (zero_i64 _) b N D rfl HV5.out _ _ rfl HKEY.out ?_; intro cc hat hwc; have hc : cc = y := (by have := hat.symm.trans HVAL.out; injection this with this; injection this); subst hc; clear hat hwc))
        go_roundw
        case rel => exact ⟨k + 1, _, by omega, by go_num, rfl, HS5, HL5, HST⟩
        case measure => simp [intOf]; omega
    · obtain rfl : k = l.length := by omega
      have hs2 := hss.out
      rw [List.drop_length, runLC] at hs2
      obtain ⟨rfl, rfl⟩ : z1 = sm ∧ z2 = true := by injection hs2 with h8 h9; exact ⟨h8, h9⟩
      have hr2 := HR2.out
      clear hss hs2 HR2
      obtain ⟨y0, y1, y2, y3, y4, y5, y6, t0, t1, t2, t3, t4, t5⟩ := HS.out.cells
      try dsimp only at t0 t1 t2 t3 t4 t5
      by_cases hv9 : z1 = val
      · have e5 : (val != z1) = false := by simp [hv9]
        have HR := Lib.hid (hr2.trans (by rw [if_neg (by decide), if_neg (by simp [hv9])]))
        clear hr2 hv9
        go_wp2
        go_ret
        exact ⟨ret_i HR.out.symm, HS.out.bel⟩
      · have e5 : (val != z1) = true := by simp; exact fun e => hv9 e.symm
        have HR := Lib.hid (hr2.trans (by rw [if_neg (by decide), if_pos hv9]))
        clear hr2 hv9
        go_wp2
        go_ret
        exact ⟨ret_i HR.out.symm, HS.out.bel⟩
end Go.Proofs.YtdlmmbfnmnglaaaGreatDoor

namespace Go.Proofs.YtdlmmbfnmnglaaaGreatDoor
open Go.RowKit

/-- A chase boxed. -/
structure AcRC (w W : World) (c : Chs) (bv wv pv ov : Value) : Prop where
  bel : Below w.heap.size w W
  box : Blk W w.heap.size 28 #[bv, wv, pv, .int .i64 c.over, .int .i64 c.done, .int .i64 c.need, ov]
/-- Besides: a state. -/
structure AcC (w W : World) (gs : Nat) (s : Cst) (c : Chs) (bv wv pv ov : Value) : Prop extends AcRC w W c bv wv pv ov where
  lt : w.heap.size < gs
  st : Blk W gs 30 #[.int .i64 s.ball, .int .i64 s.need, .int .i64 s.str, .int .i64 s.par, .int .i64 s.nxt]
section
variable {w W W' : World} {gs : Nat} {s : Cst} {c : Chs} {bv wv pv ov v : Value}
theorem AcRC.below (h : AcRC w W c bv wv pv ov) (hb : Below W.heap.size W W') : AcRC w W' c bv wv pv ov := ⟨h.bel.trans (hb.mono h.bel.size), h.box.below hb h.box.lt⟩
theorem AcRC.new (w : World) (c : Chs) (bv wv pv ov : Value) : AcRC w (w.alloc (.cells #[bv, wv, pv, .int .i64 c.over, .int .i64 c.done, .int .i64 c.need, ov] 28)) c bv wv pv ov :=
  ⟨Below.alloc (Below.refl _ _) (Nat.le_refl _) _, Blk.new w 28 #[bv, wv, pv, .int .i64 c.over, .int .i64 c.done, .int .i64 c.need, ov]⟩
theorem AcC.below (h : AcC w W gs s c bv wv pv ov) (hb : Below W.heap.size W W') : AcC w W' gs s c bv wv pv ov := ⟨h.toAcRC.below hb, h.lt, h.st.below hb h.st.lt⟩
theorem AcC.alloc (h : AcC w W gs s c bv wv pv ov) (o : Obj) : AcC w (W.alloc o) gs s c bv wv pv ov := h.below (Below.alloc (Below.refl _ _) (Nat.le_refl _) o)
theorem AcC.cells (h : AcC w W gs s c bv wv pv ov) : W.cell? ⟨w.heap.size, 0, none⟩ = some bv ∧ W.cell? ⟨w.heap.size, 1, none⟩ = some wv ∧ W.cell? ⟨w.heap.size, 2, none⟩ = some pv ∧ W.cell? ⟨w.heap.size, 3, none⟩ = some (.int .i64 c.over) ∧ W.cell? ⟨w.heap.size, 4, none⟩ = some (.int .i64 c.done) ∧ W.cell? ⟨w.heap.size, 5, none⟩ = some (.int .i64 c.need) ∧ W.cell? ⟨w.heap.size, 6, none⟩ = some ov ∧
    W.cell? ⟨gs, 0, none⟩ = some (.int .i64 s.ball) ∧ W.cell? ⟨gs, 1, none⟩ = some (.int .i64 s.need) ∧ W.cell? ⟨gs, 2, none⟩ = some (.int .i64 s.str) ∧ W.cell? ⟨gs, 3, none⟩ = some (.int .i64 s.par) ∧ W.cell? ⟨gs, 4, none⟩ = some (.int .i64 s.nxt) :=
  ⟨h.box.cell 0, h.box.cell 1, h.box.cell 2, h.box.cell 3, h.box.cell 4, h.box.cell 5, h.box.cell 6, h.st.cell 0, h.st.cell 1, h.st.cell 2, h.st.cell 3, h.st.cell 4⟩
theorem AcC.new (h : AcRC w W c bv wv pv ov) (s : Cst) : AcC w (W.alloc (.cells #[.int .i64 s.ball, .int .i64 s.need, .int .i64 s.str, .int .i64 s.par, .int .i64 s.nxt] 30)) W.heap.size s c bv wv pv ov :=
  ⟨h.below (Below.alloc (Below.refl _ _) (Nat.le_refl _) _), h.box.lt, Blk.new W 30 #[.int .i64 s.ball, .int .i64 s.need, .int .i64 s.str, .int .i64 s.par, .int .i64 s.nxt]⟩
end
theorem six_cst {w : World} {b o : Nat} {p0 p1 p2 p3 p4 pv : Int} (h : w.cell? ⟨b, o, none⟩ = some (.int .i64 p0) ∧ w.cell? ⟨b, o + 1, none⟩ = some (.int .i64 p1) ∧ w.cell? ⟨b, o + 2, none⟩ = some (.int .i64 p2) ∧ w.cell? ⟨b, o + 3, none⟩ = some (.int .i64 p3) ∧ w.cell? ⟨b, o + 4, none⟩ = some (.int .i64 p4) ∧ w.cell? ⟨b, o + 5, none⟩ = some (.int .i64 pv)) :
    (Instr.loadAt 30 (.pointer (some ⟨b, o, none⟩))).run Tryz.prog w = .ok (.agg #[.int .i64 p0, .int .i64 p1, .int .i64 p2, .int .i64 p3, .int .i64 p4]) w := load_cstZ h.1 h.2.1 h.2.2.1 h.2.2.2.1 h.2.2.2.2.1
theorem blk_cst {w : World} {g : Nat} {p0 p1 p2 p3 p4 vv : Int} (h : Blk w g 32 #[.int .i64 p0, .int .i64 p1, .int .i64 p2, .int .i64 p3, .int .i64 p4, .int .i64 vv]) : (Instr.loadAt 30 (.pointer (some ⟨g, 0, none⟩))).run Tryz.prog w = .ok (.agg #[.int .i64 p0, .int .i64 p1, .int .i64 p2, .int .i64 p3, .int .i64 p4]) w := load_cstZ (h.cell 0) (h.cell 1) (h.cell 2) (h.cell 3) (h.cell 4)
noncomputable def acCOps : Array Oper := ((Tryz.f10.body).bind (findR6 7)).getD #[]
def acCNeeds : List (List Nat) := [[2], [8], [30], [29, 31], [32], [33], [7, 34], [34, 35], [34, 36], [1, 37], [7, 37], [37, 39], [37, 38, 40], [37, 41], [37, 42], [8, 37], [37, 44], [37, 43, 45], [37, 46], [34, 37, 47], [34, 48]]
theorem acC_size : acCOps.size = 21 := by kernel_rfl
def acCTabA (c : Chs) (bv wv pv ov v : Value) (p0 p1 p2 p3 p4 vv z : Int) (g gv k : Nat) : List (Nat × Value) := [(1, v), (2, .pointer (some ⟨g, 0, none⟩)), (7, .int .i64 (k : Int)), (8, .pointer (some ⟨gv, 0, none⟩)), (29, .agg #[bv, wv, pv, .int .i64 c.over, .int .i64 c.done, .int .i64 c.need, ov]), (30, .pointer (some ⟨gv, 0, none⟩)), (31, .agg #[.int .i64 p0, .int .i64 p1, .int .i64 p2, .int .i64 p3, .int .i64 p4]), (32, .int .i64 z), (33, .bool true), (34, .bool true), (35, undef), (36, undef), (37, undef), (38, undef), (39, undef), (40, undef), (41, undef), (42, undef), (43, undef), (44, undef), (45, undef), (46, undef), (47, undef), (48, undef), (49, .bool true)]
def acCMaskA (c : Chs) (bv wv pv ov v : Value) (p0 p1 p2 p3 p4 vv z : Int) (g gv k : Nat) : List (Option Value) := none :: none :: none :: none :: none :: none :: none :: none :: none :: none :: none :: none :: none :: none :: none :: none :: none :: none :: none :: none :: none :: none :: none :: none :: none :: none :: none :: none :: none :: some (.agg #[bv, wv, pv, .int .i64 c.over, .int .i64 c.done, .int .i64 c.need, ov]) :: some (.pointer (some ⟨gv, 0, none⟩)) :: some (.agg #[.int .i64 p0, .int .i64 p1, .int .i64 p2, .int .i64 p3, .int .i64 p4]) :: some (.int .i64 z) :: some (.bool true) :: some (.bool true) :: some (undef) :: some (undef) :: some (undef) :: some (undef) :: some (undef) :: some (undef) :: some (undef) :: some (undef) :: some (undef) :: some (undef) :: some (undef) :: some (undef) :: some (undef) :: some (undef) :: some (.bool true) :: none :: none :: none :: none :: none :: none :: none :: none :: none :: none :: none :: none :: none :: none :: none :: none :: none :: none :: none :: none :: none :: none :: none :: []
set_option maxRecDepth 100000 in
set_option maxHeartbeats 4000000 in
theorem acC_freeA (c : Chs) (bv wv pv ov v : Value) (p0 p1 p2 p3 p4 vv z : Int) (gv k : Nat) (w : World) (kc : ∀ W, Below w.heap.size w W → Calls Tryz.prog 27 #[.agg #[bv, wv, pv, .int .i64 c.over, .int .i64 c.done, .int .i64 c.need, ov], .agg #[.int .i64 p0, .int .i64 p1, .int .i64 p2, .int .i64 p3, .int .i64 p4]] W fun e W' => e = .returned (.int .i64 z) ∧ Below W.heap.size W W') (hz : z ≠ 0) :
    FreeG Tryz.prog acCOps (tabV (acCTabA c bv wv pv ov v p0 p1 p2 p3 p4 vv z w.heap.size gv k)) (fun W => AcRC w W c bv wv pv ov ∧ Blk W gv 32 #[.int .i64 p0, .int .i64 p1, .int .i64 p2, .int .i64 p3, .int .i64 p4, .int .i64 vv]) (fun i => acCNeeds.getD i []) [1, 2, 7, 8] 73 := by
  refine ⟨backG_of (by kernel_rfl), dstG_of (by kernel_rfl), needG_of (by kernel_rfl), fun d w1 w2 v h _ => h, fun W W' h hb => ⟨h.1.below hb, h.2.below hb h.2.lt⟩, ?_⟩
  intro i o ho a W hG hn
  have hlt : i < 21 := by rw [← acC_size]; exact (Array.getElem?_eq_some_iff.1 ho).1
  have hcase : i = 0 ∨ i = 1 ∨ i = 2 ∨ i = 3 ∨ i = 4 ∨ i = 5 ∨ i = 6 ∨ i = 7 ∨ i = 8 ∨ i = 9 ∨ i = 10 ∨ i = 11 ∨ i = 12 ∨ i = 13 ∨ i = 14 ∨ i = 15 ∨ i = 16 ∨ i = 17 ∨ i = 18 ∨ i = 19 ∨ i = 20 := by omega
  rcases hcase with rfl | rfl | rfl | rfl | rfl | rfl | rfl | rfl | rfl | rfl | rfl | rfl | rfl | rfl | rfl | rfl | rfl | rfl | rfl | rfl | rfl
  · have hop := opG_of (x := .load 28 (.tmp 2)) (d := some 29) (by kernel_rfl) ho
    obtain ⟨h1, h2⟩ := hop
    refine .inl ⟨free_not (guardG_of (by kernel_rfl) ho), ?_⟩
    exact meets_load h1 (fg_val 2 (.pointer (some ⟨w.heap.size, 0, none⟩)) hn (by kernel_rfl) rfl) (load_chsZ hG.1.box) (fg_put h2 rfl)
  · have hop := opG_of (x := .fieldAddr 32 (.tmp 8) 0) (d := some 30) (by kernel_rfl) ho
    obtain ⟨h1, h2⟩ := hop
    refine .inl ⟨free_not (guardG_of (by kernel_rfl) ho), ?_⟩
    exact meets_field h1 (fg_val 8 (.pointer (some ⟨gv, 0, none⟩)) hn (by kernel_rfl) rfl) (by kernel_rfl : (Instr.fieldAt 32 (.pointer (some ⟨gv, 0, none⟩)) 0).run Tryz.prog W = .ok (.pointer (some ⟨gv, 0, none⟩)) W) (fg_put h2 rfl)
  · have hop := opG_of (x := .load 30 (.tmp 30)) (d := some 31) (by kernel_rfl) ho
    obtain ⟨h1, h2⟩ := hop
    refine .inl ⟨free_not (guardG_of (by kernel_rfl) ho), ?_⟩
    exact meets_load h1 (fg_val 30 (.pointer (some ⟨gv, 0, none⟩)) hn (by kernel_rfl) rfl) (blk_cst hG.2) (fg_put h2 rfl)
  · have hop := opG_of (x := .call { callee := .value (.func 27), args := #[.tmp 29, .tmp 31], argTypes := #[28, 30] }) (d := some 32) (by kernel_rfl) ho
    obtain ⟨h1, h2⟩ := hop
    refine .inl ⟨free_not (guardG_of (by kernel_rfl) ho), ?_⟩
    refine meets_call (args := #[.agg #[bv, wv, pv, .int .i64 c.over, .int .i64 c.done, .int .i64 c.need, ov], .agg #[.int .i64 p0, .int .i64 p1, .int .i64 p2, .int .i64 p3, .int .i64 p4]]) h1 rfl rfl (by have e29 := (fg_val 29 (.agg #[bv, wv, pv, .int .i64 c.over, .int .i64 c.done, .int .i64 c.need, ov]) hn (by kernel_rfl) rfl); have e31 := (fg_val 31 (.agg #[.int .i64 p0, .int .i64 p1, .int .i64 p2, .int .i64 p3, .int .i64 p4]) hn (by kernel_rfl) rfl); simp [e29, e31]) Tryz.func27 (by kernel_rfl) (by kernel_rfl) fun d hd => ?_
    refine (kc W hG.1.bel).mono ?_
    rintro e W' ⟨rfl, hb⟩
    exact ⟨_, rfl, hb, (fg_put h2 rfl d hd)⟩
  · have hop := opG_of (x := .binOp .neq 36 (.tmp 32) (.const (.int .i64 0)) 36) (d := some 33) (by kernel_rfl) ho
    obtain ⟨h1, h2⟩ := hop
    refine .inl ⟨free_not (guardG_of (by kernel_rfl) ho), ?_⟩
    exact meets_value (v := .bool true) (by have e32 := (fg_val 32 (.int .i64 z) hn (by kernel_rfl) rfl); unfold execOp; simp only [h1, e32]; simp [go_sem, BigFrame.eval_const, hz]) (fg_put h2 rfl)
  · have hop := opG_of (x := .move (.tmp 33)) (d := some 34) (by kernel_rfl) ho
    obtain ⟨h1, h2⟩ := hop
    refine .inl ⟨free_not (guardG_of (by kernel_rfl) ho), ?_⟩
    exact meets_move (.inl h1) fun d hd => by rw [h2] at hd; obtain rfl := Option.some.inj hd; exact (fg_val 33 (.bool true) hn (by kernel_rfl) rfl)
  · have hop := opG_of (x := .move (.tmp 7)) (d := some 35) (by kernel_rfl) ho
    obtain ⟨h1, h2⟩ := hop
    exact .inr ⟨(guard_at (j := 5) (d := 34) (b := false) (b' := true) (by kernel_rfl : (acCOps[6]?).map (·.guard) = some (some (5, false))) (by kernel_rfl) ho (fg_tmp 34 (.bool true) hn (by kernel_rfl) rfl)), fg_put h2 rfl⟩
  · have hop := opG_of (x := .binOp .gtr 3 (.tmp 35) (.const (.int .i64 0)) 3) (d := some 36) (by kernel_rfl) ho
    obtain ⟨h1, h2⟩ := hop
    exact .inr ⟨(guard_at (j := 5) (d := 34) (b := false) (b' := true) (by kernel_rfl : (acCOps[7]?).map (·.guard) = some (some (5, false))) (by kernel_rfl) ho (fg_tmp 34 (.bool true) hn (by kernel_rfl) rfl)), fg_put h2 rfl⟩
  · have hop := opG_of (x := .move (.tmp 36)) (d := some 37) (by kernel_rfl) ho
    obtain ⟨h1, h2⟩ := hop
    exact .inr ⟨(guard_at (j := 5) (d := 34) (b := false) (b' := true) (by kernel_rfl : (acCOps[8]?).map (·.guard) = some (some (5, false))) (by kernel_rfl) ho (fg_tmp 34 (.bool true) hn (by kernel_rfl) rfl)), fg_put h2 rfl⟩
  · have hop := opG_of (x := .move (.tmp 1)) (d := some 38) (by kernel_rfl) ho
    obtain ⟨h1, h2⟩ := hop
    refine .inr ⟨guard_un (j := 8) (d := 37) (by kernel_rfl : (acCOps[9]?).map (·.guard) = some (some (8, true))) (by kernel_rfl) ho (fg_tmp 37 (undef) hn (by kernel_rfl) rfl), fg_put h2 rfl⟩
  · have hop := opG_of (x := .move (.tmp 7)) (d := some 39) (by kernel_rfl) ho
    obtain ⟨h1, h2⟩ := hop
    refine .inr ⟨guard_un (j := 8) (d := 37) (by kernel_rfl : (acCOps[10]?).map (·.guard) = some (some (8, true))) (by kernel_rfl) ho (fg_tmp 37 (undef) hn (by kernel_rfl) rfl), fg_put h2 rfl⟩
  · have hop := opG_of (x := .binOp .sub 3 (.tmp 39) (.const (.int .i64 1)) 3) (d := some 40) (by kernel_rfl) ho
    obtain ⟨h1, h2⟩ := hop
    refine .inr ⟨guard_un (j := 8) (d := 37) (by kernel_rfl : (acCOps[11]?).map (·.guard) = some (some (8, true))) (by kernel_rfl) ho (fg_tmp 37 (undef) hn (by kernel_rfl) rfl), fg_put h2 rfl⟩
  · have hop := opG_of (x := .indexAddr 35 (.tmp 38) (.tmp 40)) (d := some 41) (by kernel_rfl) ho
    obtain ⟨h1, h2⟩ := hop
    refine .inr ⟨guard_un (j := 8) (d := 37) (by kernel_rfl : (acCOps[12]?).map (·.guard) = some (some (8, true))) (by kernel_rfl) ho (fg_tmp 37 (undef) hn (by kernel_rfl) rfl), fg_put h2 rfl⟩
  · have hop := opG_of (x := .fieldAddr 32 (.tmp 41) 0) (d := some 42) (by kernel_rfl) ho
    obtain ⟨h1, h2⟩ := hop
    refine .inr ⟨guard_un (j := 8) (d := 37) (by kernel_rfl : (acCOps[13]?).map (·.guard) = some (some (8, true))) (by kernel_rfl) ho (fg_tmp 37 (undef) hn (by kernel_rfl) rfl), fg_put h2 rfl⟩
  · have hop := opG_of (x := .load 30 (.tmp 42)) (d := some 43) (by kernel_rfl) ho
    obtain ⟨h1, h2⟩ := hop
    refine .inr ⟨guard_un (j := 8) (d := 37) (by kernel_rfl : (acCOps[14]?).map (·.guard) = some (some (8, true))) (by kernel_rfl) ho (fg_tmp 37 (undef) hn (by kernel_rfl) rfl), fg_put h2 rfl⟩
  · have hop := opG_of (x := .fieldAddr 32 (.tmp 8) 0) (d := some 44) (by kernel_rfl) ho
    obtain ⟨h1, h2⟩ := hop
    refine .inr ⟨guard_un (j := 8) (d := 37) (by kernel_rfl : (acCOps[15]?).map (·.guard) = some (some (8, true))) (by kernel_rfl) ho (fg_tmp 37 (undef) hn (by kernel_rfl) rfl), fg_put h2 rfl⟩
  · have hop := opG_of (x := .load 30 (.tmp 44)) (d := some 45) (by kernel_rfl) ho
    obtain ⟨h1, h2⟩ := hop
    refine .inr ⟨guard_un (j := 8) (d := 37) (by kernel_rfl : (acCOps[16]?).map (·.guard) = some (some (8, true))) (by kernel_rfl) ho (fg_tmp 37 (undef) hn (by kernel_rfl) rfl), fg_put h2 rfl⟩
  · have hop := opG_of (x := .call { callee := .value (.func 28), args := #[.tmp 43, .tmp 45], argTypes := #[30, 30] }) (d := some 46) (by kernel_rfl) ho
    obtain ⟨h1, h2⟩ := hop
    refine .inr ⟨guard_un (j := 8) (d := 37) (by kernel_rfl : (acCOps[17]?).map (·.guard) = some (some (8, true))) (by kernel_rfl) ho (fg_tmp 37 (undef) hn (by kernel_rfl) rfl), fg_put h2 rfl⟩
  · have hop := opG_of (x := .binOp .geq 3 (.tmp 46) (.const (.int .i64 0)) 3) (d := some 47) (by kernel_rfl) ho
    obtain ⟨h1, h2⟩ := hop
    refine .inr ⟨guard_un (j := 8) (d := 37) (by kernel_rfl : (acCOps[18]?).map (·.guard) = some (some (8, true))) (by kernel_rfl) ho (fg_tmp 37 (undef) hn (by kernel_rfl) rfl), fg_put h2 rfl⟩
  · have hop := opG_of (x := .pick (.tmp 37) (.tmp 47) (.const (.bool false))) (d := some 48) (by kernel_rfl) ho
    obtain ⟨h1, h2⟩ := hop
    exact .inr ⟨(guard_at (j := 5) (d := 34) (b := false) (b' := true) (by kernel_rfl : (acCOps[19]?).map (·.guard) = some (some (5, false))) (by kernel_rfl) ho (fg_tmp 34 (.bool true) hn (by kernel_rfl) rfl)), fg_put h2 rfl⟩
  · have hop := opG_of (x := .pick (.tmp 34) (.const (.bool true)) (.tmp 48)) (d := some 49) (by kernel_rfl) ho
    obtain ⟨h1, h2⟩ := hop
    refine .inl ⟨free_not (guardG_of (by kernel_rfl) ho), ?_⟩
    exact meets_value (v := .bool true) (by have e34 := (fg_val 34 (.bool true) hn (by kernel_rfl) rfl); have e48 := (fg_val 48 (undef) hn (by kernel_rfl) rfl); unfold execOp; simp only [h1, e34, e48]; simp [go_sem, BigFrame.eval_const]) (fg_put h2 rfl)
def acCTabB (c : Chs) (bv wv pv ov v : Value) (p0 p1 p2 p3 p4 vv z : Int) (g gv k : Nat) : List (Nat × Value) := [(1, v), (2, .pointer (some ⟨g, 0, none⟩)), (7, .int .i64 (k : Int)), (8, .pointer (some ⟨gv, 0, none⟩)), (29, .agg #[bv, wv, pv, .int .i64 c.over, .int .i64 c.done, .int .i64 c.need, ov]), (30, .pointer (some ⟨gv, 0, none⟩)), (31, .agg #[.int .i64 p0, .int .i64 p1, .int .i64 p2, .int .i64 p3, .int .i64 p4]), (32, .int .i64 z), (33, .bool false), (34, .bool false), (35, .int .i64 (k : Int)), (36, .bool false), (37, .bool false), (38, undef), (39, undef), (40, undef), (41, undef), (42, undef), (43, undef), (44, undef), (45, undef), (46, undef), (47, undef), (48, .bool false), (49, .bool false)]
def acCMaskB (c : Chs) (bv wv pv ov v : Value) (p0 p1 p2 p3 p4 vv z : Int) (g gv k : Nat) : List (Option Value) := none :: none :: none :: none :: none :: none :: none :: none :: none :: none :: none :: none :: none :: none :: none :: none :: none :: none :: none :: none :: none :: none :: none :: none :: none :: none :: none :: none :: none :: some (.agg #[bv, wv, pv, .int .i64 c.over, .int .i64 c.done, .int .i64 c.need, ov]) :: some (.pointer (some ⟨gv, 0, none⟩)) :: some (.agg #[.int .i64 p0, .int .i64 p1, .int .i64 p2, .int .i64 p3, .int .i64 p4]) :: some (.int .i64 z) :: some (.bool false) :: some (.bool false) :: some (.int .i64 (k : Int)) :: some (.bool false) :: some (.bool false) :: some (undef) :: some (undef) :: some (undef) :: some (undef) :: some (undef) :: some (undef) :: some (undef) :: some (undef) :: some (undef) :: some (undef) :: some (.bool false) :: some (.bool false) :: none :: none :: none :: none :: none :: none :: none :: none :: none :: none :: none :: none :: none :: none :: none :: none :: none :: none :: none :: none :: none :: none :: none :: []
set_option maxRecDepth 100000 in
set_option maxHeartbeats 4000000 in
theorem acC_freeB (c : Chs) (bv wv pv ov v : Value) (p0 p1 p2 p3 p4 vv z : Int) (gv k : Nat) (w : World) (kc : ∀ W, Below w.heap.size w W → Calls Tryz.prog 27 #[.agg #[bv, wv, pv, .int .i64 c.over, .int .i64 c.done, .int .i64 c.need, ov], .agg #[.int .i64 p0, .int .i64 p1, .int .i64 p2, .int .i64 p3, .int .i64 p4]] W fun e W' => e = .returned (.int .i64 z) ∧ Below W.heap.size W W') (hz : z = 0) (hk : k = 0) :
    FreeG Tryz.prog acCOps (tabV (acCTabB c bv wv pv ov v p0 p1 p2 p3 p4 vv z w.heap.size gv k)) (fun W => AcRC w W c bv wv pv ov ∧ Blk W gv 32 #[.int .i64 p0, .int .i64 p1, .int .i64 p2, .int .i64 p3, .int .i64 p4, .int .i64 vv]) (fun i => acCNeeds.getD i []) [1, 2, 7, 8] 73 := by
  refine ⟨backG_of (by kernel_rfl), dstG_of (by kernel_rfl), needG_of (by kernel_rfl), fun d w1 w2 v h _ => h, fun W W' h hb => ⟨h.1.below hb, h.2.below hb h.2.lt⟩, ?_⟩
  intro i o ho a W hG hn
  have hlt : i < 21 := by rw [← acC_size]; exact (Array.getElem?_eq_some_iff.1 ho).1
  have hcase : i = 0 ∨ i = 1 ∨ i = 2 ∨ i = 3 ∨ i = 4 ∨ i = 5 ∨ i = 6 ∨ i = 7 ∨ i = 8 ∨ i = 9 ∨ i = 10 ∨ i = 11 ∨ i = 12 ∨ i = 13 ∨ i = 14 ∨ i = 15 ∨ i = 16 ∨ i = 17 ∨ i = 18 ∨ i = 19 ∨ i = 20 := by omega
  rcases hcase with rfl | rfl | rfl | rfl | rfl | rfl | rfl | rfl | rfl | rfl | rfl | rfl | rfl | rfl | rfl | rfl | rfl | rfl | rfl | rfl | rfl
  · have hop := opG_of (x := .load 28 (.tmp 2)) (d := some 29) (by kernel_rfl) ho
    obtain ⟨h1, h2⟩ := hop
    refine .inl ⟨free_not (guardG_of (by kernel_rfl) ho), ?_⟩
    exact meets_load h1 (fg_val 2 (.pointer (some ⟨w.heap.size, 0, none⟩)) hn (by kernel_rfl) rfl) (load_chsZ hG.1.box) (fg_put h2 rfl)
  · have hop := opG_of (x := .fieldAddr 32 (.tmp 8) 0) (d := some 30) (by kernel_rfl) ho
    obtain ⟨h1, h2⟩ := hop
    refine .inl ⟨free_not (guardG_of (by kernel_rfl) ho), ?_⟩
    exact meets_field h1 (fg_val 8 (.pointer (some ⟨gv, 0, none⟩)) hn (by kernel_rfl) rfl) (by kernel_rfl : (Instr.fieldAt 32 (.pointer (some ⟨gv, 0, none⟩)) 0).run Tryz.prog W = .ok (.pointer (some ⟨gv, 0, none⟩)) W) (fg_put h2 rfl)
  · have hop := opG_of (x := .load 30 (.tmp 30)) (d := some 31) (by kernel_rfl) ho
    obtain ⟨h1, h2⟩ := hop
    refine .inl ⟨free_not (guardG_of (by kernel_rfl) ho), ?_⟩
    exact meets_load h1 (fg_val 30 (.pointer (some ⟨gv, 0, none⟩)) hn (by kernel_rfl) rfl) (blk_cst hG.2) (fg_put h2 rfl)
  · have hop := opG_of (x := .call { callee := .value (.func 27), args := #[.tmp 29, .tmp 31], argTypes := #[28, 30] }) (d := some 32) (by kernel_rfl) ho
    obtain ⟨h1, h2⟩ := hop
    refine .inl ⟨free_not (guardG_of (by kernel_rfl) ho), ?_⟩
    refine meets_call (args := #[.agg #[bv, wv, pv, .int .i64 c.over, .int .i64 c.done, .int .i64 c.need, ov], .agg #[.int .i64 p0, .int .i64 p1, .int .i64 p2, .int .i64 p3, .int .i64 p4]]) h1 rfl rfl (by have e29 := (fg_val 29 (.agg #[bv, wv, pv, .int .i64 c.over, .int .i64 c.done, .int .i64 c.need, ov]) hn (by kernel_rfl) rfl); have e31 := (fg_val 31 (.agg #[.int .i64 p0, .int .i64 p1, .int .i64 p2, .int .i64 p3, .int .i64 p4]) hn (by kernel_rfl) rfl); simp [e29, e31]) Tryz.func27 (by kernel_rfl) (by kernel_rfl) fun d hd => ?_
    refine (kc W hG.1.bel).mono ?_
    rintro e W' ⟨rfl, hb⟩
    exact ⟨_, rfl, hb, (fg_put h2 rfl d hd)⟩
  · have hop := opG_of (x := .binOp .neq 36 (.tmp 32) (.const (.int .i64 0)) 36) (d := some 33) (by kernel_rfl) ho
    obtain ⟨h1, h2⟩ := hop
    refine .inl ⟨free_not (guardG_of (by kernel_rfl) ho), ?_⟩
    exact meets_value (v := .bool false) (by have e32 := (fg_val 32 (.int .i64 z) hn (by kernel_rfl) rfl); unfold execOp; simp only [h1, e32]; simp [go_sem, BigFrame.eval_const, hz]) (fg_put h2 rfl)
  · have hop := opG_of (x := .move (.tmp 33)) (d := some 34) (by kernel_rfl) ho
    obtain ⟨h1, h2⟩ := hop
    refine .inl ⟨free_not (guardG_of (by kernel_rfl) ho), ?_⟩
    exact meets_move (.inl h1) fun d hd => by rw [h2] at hd; obtain rfl := Option.some.inj hd; exact (fg_val 33 (.bool false) hn (by kernel_rfl) rfl)
  · have hop := opG_of (x := .move (.tmp 7)) (d := some 35) (by kernel_rfl) ho
    obtain ⟨h1, h2⟩ := hop
    refine .inl ⟨(guard_at (j := 5) (d := 34) (b := false) (b' := false) (by kernel_rfl : (acCOps[6]?).map (·.guard) = some (some (5, false))) (by kernel_rfl) ho (fg_tmp 34 (.bool false) hn (by kernel_rfl) rfl)), ?_⟩
    exact meets_move (.inl h1) fun d hd => by rw [h2] at hd; obtain rfl := Option.some.inj hd; exact (fg_val 7 (.int .i64 (k : Int)) hn (by kernel_rfl) rfl)
  · have hop := opG_of (x := .binOp .gtr 3 (.tmp 35) (.const (.int .i64 0)) 3) (d := some 36) (by kernel_rfl) ho
    obtain ⟨h1, h2⟩ := hop
    refine .inl ⟨(guard_at (j := 5) (d := 34) (b := false) (b' := false) (by kernel_rfl : (acCOps[7]?).map (·.guard) = some (some (5, false))) (by kernel_rfl) ho (fg_tmp 34 (.bool false) hn (by kernel_rfl) rfl)), ?_⟩
    exact meets_value (v := .bool false) (by have e35 := (fg_val 35 (.int .i64 (k : Int)) hn (by kernel_rfl) rfl); unfold execOp; simp only [h1, e35]; simp [go_sem, BigFrame.eval_const, hk]) (fg_put h2 rfl)
  · have hop := opG_of (x := .move (.tmp 36)) (d := some 37) (by kernel_rfl) ho
    obtain ⟨h1, h2⟩ := hop
    refine .inl ⟨(guard_at (j := 5) (d := 34) (b := false) (b' := false) (by kernel_rfl : (acCOps[8]?).map (·.guard) = some (some (5, false))) (by kernel_rfl) ho (fg_tmp 34 (.bool false) hn (by kernel_rfl) rfl)), ?_⟩
    exact meets_move (.inl h1) fun d hd => by rw [h2] at hd; obtain rfl := Option.some.inj hd; exact (fg_val 36 (.bool false) hn (by kernel_rfl) rfl)
  · have hop := opG_of (x := .move (.tmp 1)) (d := some 38) (by kernel_rfl) ho
    obtain ⟨h1, h2⟩ := hop
    exact .inr ⟨(guard_at (j := 8) (d := 37) (b := true) (b' := false) (by kernel_rfl : (acCOps[9]?).map (·.guard) = some (some (8, true))) (by kernel_rfl) ho (fg_tmp 37 (.bool false) hn (by kernel_rfl) rfl)), fg_put h2 rfl⟩
  · have hop := opG_of (x := .move (.tmp 7)) (d := some 39) (by kernel_rfl) ho
    obtain ⟨h1, h2⟩ := hop
    exact .inr ⟨(guard_at (j := 8) (d := 37) (b := true) (b' := false) (by kernel_rfl : (acCOps[10]?).map (·.guard) = some (some (8, true))) (by kernel_rfl) ho (fg_tmp 37 (.bool false) hn (by kernel_rfl) rfl)), fg_put h2 rfl⟩
  · have hop := opG_of (x := .binOp .sub 3 (.tmp 39) (.const (.int .i64 1)) 3) (d := some 40) (by kernel_rfl) ho
    obtain ⟨h1, h2⟩ := hop
    exact .inr ⟨(guard_at (j := 8) (d := 37) (b := true) (b' := false) (by kernel_rfl : (acCOps[11]?).map (·.guard) = some (some (8, true))) (by kernel_rfl) ho (fg_tmp 37 (.bool false) hn (by kernel_rfl) rfl)), fg_put h2 rfl⟩
  · have hop := opG_of (x := .indexAddr 35 (.tmp 38) (.tmp 40)) (d := some 41) (by kernel_rfl) ho
    obtain ⟨h1, h2⟩ := hop
    exact .inr ⟨(guard_at (j := 8) (d := 37) (b := true) (b' := false) (by kernel_rfl : (acCOps[12]?).map (·.guard) = some (some (8, true))) (by kernel_rfl) ho (fg_tmp 37 (.bool false) hn (by kernel_rfl) rfl)), fg_put h2 rfl⟩
  · have hop := opG_of (x := .fieldAddr 32 (.tmp 41) 0) (d := some 42) (by kernel_rfl) ho
    obtain ⟨h1, h2⟩ := hop
    exact .inr ⟨(guard_at (j := 8) (d := 37) (b := true) (b' := false) (by kernel_rfl : (acCOps[13]?).map (·.guard) = some (some (8, true))) (by kernel_rfl) ho (fg_tmp 37 (.bool false) hn (by kernel_rfl) rfl)), fg_put h2 rfl⟩
  · have hop := opG_of (x := .load 30 (.tmp 42)) (d := some 43) (by kernel_rfl) ho
    obtain ⟨h1, h2⟩ := hop
    exact .inr ⟨(guard_at (j := 8) (d := 37) (b := true) (b' := false) (by kernel_rfl : (acCOps[14]?).map (·.guard) = some (some (8, true))) (by kernel_rfl) ho (fg_tmp 37 (.bool false) hn (by kernel_rfl) rfl)), fg_put h2 rfl⟩
  · have hop := opG_of (x := .fieldAddr 32 (.tmp 8) 0) (d := some 44) (by kernel_rfl) ho
    obtain ⟨h1, h2⟩ := hop
    exact .inr ⟨(guard_at (j := 8) (d := 37) (b := true) (b' := false) (by kernel_rfl : (acCOps[15]?).map (·.guard) = some (some (8, true))) (by kernel_rfl) ho (fg_tmp 37 (.bool false) hn (by kernel_rfl) rfl)), fg_put h2 rfl⟩
  · have hop := opG_of (x := .load 30 (.tmp 44)) (d := some 45) (by kernel_rfl) ho
    obtain ⟨h1, h2⟩ := hop
    exact .inr ⟨(guard_at (j := 8) (d := 37) (b := true) (b' := false) (by kernel_rfl : (acCOps[16]?).map (·.guard) = some (some (8, true))) (by kernel_rfl) ho (fg_tmp 37 (.bool false) hn (by kernel_rfl) rfl)), fg_put h2 rfl⟩
  · have hop := opG_of (x := .call { callee := .value (.func 28), args := #[.tmp 43, .tmp 45], argTypes := #[30, 30] }) (d := some 46) (by kernel_rfl) ho
    obtain ⟨h1, h2⟩ := hop
    exact .inr ⟨(guard_at (j := 8) (d := 37) (b := true) (b' := false) (by kernel_rfl : (acCOps[17]?).map (·.guard) = some (some (8, true))) (by kernel_rfl) ho (fg_tmp 37 (.bool false) hn (by kernel_rfl) rfl)), fg_put h2 rfl⟩
  · have hop := opG_of (x := .binOp .geq 3 (.tmp 46) (.const (.int .i64 0)) 3) (d := some 47) (by kernel_rfl) ho
    obtain ⟨h1, h2⟩ := hop
    exact .inr ⟨(guard_at (j := 8) (d := 37) (b := true) (b' := false) (by kernel_rfl : (acCOps[18]?).map (·.guard) = some (some (8, true))) (by kernel_rfl) ho (fg_tmp 37 (.bool false) hn (by kernel_rfl) rfl)), fg_put h2 rfl⟩
  · have hop := opG_of (x := .pick (.tmp 37) (.tmp 47) (.const (.bool false))) (d := some 48) (by kernel_rfl) ho
    obtain ⟨h1, h2⟩ := hop
    refine .inl ⟨(guard_at (j := 5) (d := 34) (b := false) (b' := false) (by kernel_rfl : (acCOps[19]?).map (·.guard) = some (some (5, false))) (by kernel_rfl) ho (fg_tmp 34 (.bool false) hn (by kernel_rfl) rfl)), ?_⟩
    exact meets_value (v := .bool false) (by have e37 := (fg_val 37 (.bool false) hn (by kernel_rfl) rfl); have e47 := (fg_val 47 (undef) hn (by kernel_rfl) rfl); unfold execOp; simp only [h1, e37, e47]; simp [go_sem, BigFrame.eval_const]) (fg_put h2 rfl)
  · have hop := opG_of (x := .pick (.tmp 34) (.const (.bool true)) (.tmp 48)) (d := some 49) (by kernel_rfl) ho
    obtain ⟨h1, h2⟩ := hop
    refine .inl ⟨free_not (guardG_of (by kernel_rfl) ho), ?_⟩
    exact meets_value (v := .bool false) (by have e34 := (fg_val 34 (.bool false) hn (by kernel_rfl) rfl); have e48 := (fg_val 48 (.bool false) hn (by kernel_rfl) rfl); unfold execOp; simp only [h1, e34, e48]; simp [go_sem, BigFrame.eval_const]) (fg_put h2 rfl)
def acCTabC (c : Chs) (bv wv pv ov : Value) (p0 p1 p2 p3 p4 vv z : Int) (g gv k : Nat) (r0 r1 r2 r3 r4 rv q : Int) (b0 o0 n0 c0 : Nat) : List (Nat × Value) := [(1, .slice (some ⟨b0, o0, none⟩) n0 c0), (2, .pointer (some ⟨g, 0, none⟩)), (7, .int .i64 (k : Int)), (8, .pointer (some ⟨gv, 0, none⟩)), (29, .agg #[bv, wv, pv, .int .i64 c.over, .int .i64 c.done, .int .i64 c.need, ov]), (30, .pointer (some ⟨gv, 0, none⟩)), (31, .agg #[.int .i64 p0, .int .i64 p1, .int .i64 p2, .int .i64 p3, .int .i64 p4]), (32, .int .i64 z), (33, .bool false), (34, .bool false), (35, .int .i64 (k : Int)), (36, .bool true), (37, .bool true), (38, .slice (some ⟨b0, o0, none⟩) n0 c0), (39, .int .i64 (k : Int)), (40, .int .i64 ((k - 1 : Nat) : Int)), (41, .pointer (some ⟨b0, o0 + (k - 1) * 6, none⟩)), (42, .pointer (some ⟨b0, o0 + (k - 1) * 6, none⟩)), (43, .agg #[.int .i64 r0, .int .i64 r1, .int .i64 r2, .int .i64 r3, .int .i64 r4]), (44, .pointer (some ⟨gv, 0, none⟩)), (45, .agg #[.int .i64 p0, .int .i64 p1, .int .i64 p2, .int .i64 p3, .int .i64 p4]), (46, .int .i64 q), (47, .bool true), (48, .bool true), (49, .bool true)]
def acCMaskC (c : Chs) (bv wv pv ov : Value) (p0 p1 p2 p3 p4 vv z : Int) (g gv k : Nat) (r0 r1 r2 r3 r4 rv q : Int) (b0 o0 n0 c0 : Nat) : List (Option Value) := none :: none :: none :: none :: none :: none :: none :: none :: none :: none :: none :: none :: none :: none :: none :: none :: none :: none :: none :: none :: none :: none :: none :: none :: none :: none :: none :: none :: none :: some (.agg #[bv, wv, pv, .int .i64 c.over, .int .i64 c.done, .int .i64 c.need, ov]) :: some (.pointer (some ⟨gv, 0, none⟩)) :: some (.agg #[.int .i64 p0, .int .i64 p1, .int .i64 p2, .int .i64 p3, .int .i64 p4]) :: some (.int .i64 z) :: some (.bool false) :: some (.bool false) :: some (.int .i64 (k : Int)) :: some (.bool true) :: some (.bool true) :: some (.slice (some ⟨b0, o0, none⟩) n0 c0) :: some (.int .i64 (k : Int)) :: some (.int .i64 ((k - 1 : Nat) : Int)) :: some (.pointer (some ⟨b0, o0 + (k - 1) * 6, none⟩)) :: some (.pointer (some ⟨b0, o0 + (k - 1) * 6, none⟩)) :: some (.agg #[.int .i64 r0, .int .i64 r1, .int .i64 r2, .int .i64 r3, .int .i64 r4]) :: some (.pointer (some ⟨gv, 0, none⟩)) :: some (.agg #[.int .i64 p0, .int .i64 p1, .int .i64 p2, .int .i64 p3, .int .i64 p4]) :: some (.int .i64 q) :: some (.bool true) :: some (.bool true) :: some (.bool true) :: none :: none :: none :: none :: none :: none :: none :: none :: none :: none :: none :: none :: none :: none :: none :: none :: none :: none :: none :: none :: none :: none :: none :: []
set_option maxRecDepth 100000 in
set_option maxHeartbeats 4000000 in
theorem acC_freeC (c : Chs) (bv wv pv ov : Value) (p0 p1 p2 p3 p4 vv z : Int) (gv k : Nat) (r0 r1 r2 r3 r4 rv q : Int) (b0 o0 n0 c0 : Nat) (w : World) (kc : ∀ W, Below w.heap.size w W → Calls Tryz.prog 27 #[.agg #[bv, wv, pv, .int .i64 c.over, .int .i64 c.done, .int .i64 c.need, ov], .agg #[.int .i64 p0, .int .i64 p1, .int .i64 p2, .int .i64 p3, .int .i64 p4]] W fun e W' => e = .returned (.int .i64 z) ∧ Below W.heap.size W W') (kq : ∀ W, Calls Tryz.prog 28 #[.agg #[.int .i64 r0, .int .i64 r1, .int .i64 r2, .int .i64 r3, .int .i64 r4], .agg #[.int .i64 p0, .int .i64 p1, .int .i64 p2, .int .i64 p3, .int .i64 p4]] W fun e W' => e = .returned (.int .i64 q) ∧ Below W.heap.size W W') (hz : z = 0) (hk : 0 < k) (hkn : k ≤ n0) (hn0 : n0 ≤ 1000000000000) (hb0 : b0 < w.heap.size) (hprev : w.cell? ⟨b0, o0 + (k - 1) * 6, none⟩ = some (.int .i64 r0) ∧ w.cell? ⟨b0, o0 + (k - 1) * 6 + 1, none⟩ = some (.int .i64 r1) ∧ w.cell? ⟨b0, o0 + (k - 1) * 6 + 2, none⟩ = some (.int .i64 r2) ∧ w.cell? ⟨b0, o0 + (k - 1) * 6 + 3, none⟩ = some (.int .i64 r3) ∧ w.cell? ⟨b0, o0 + (k - 1) * 6 + 4, none⟩ = some (.int .i64 r4) ∧ w.cell? ⟨b0, o0 + (k - 1) * 6 + 5, none⟩ = some (.int .i64 rv)) (hq : 0 ≤ q) :
    FreeG Tryz.prog acCOps (tabV (acCTabC c bv wv pv ov p0 p1 p2 p3 p4 vv z w.heap.size gv k r0 r1 r2 r3 r4 rv q b0 o0 n0 c0)) (fun W => AcRC w W c bv wv pv ov ∧ Blk W gv 32 #[.int .i64 p0, .int .i64 p1, .int .i64 p2, .int .i64 p3, .int .i64 p4, .int .i64 vv]) (fun i => acCNeeds.getD i []) [1, 2, 7, 8] 73 := by
  refine ⟨backG_of (by kernel_rfl), dstG_of (by kernel_rfl), needG_of (by kernel_rfl), fun d w1 w2 v h _ => h, fun W W' h hb => ⟨h.1.below hb, h.2.below hb h.2.lt⟩, ?_⟩
  intro i o ho a W hG hn
  have hlt : i < 21 := by rw [← acC_size]; exact (Array.getElem?_eq_some_iff.1 ho).1
  have hs1 : IntKind.i64.wrap ((k : Int) - 1) = ((k - 1 : Nat) : Int) := by rw [IntWalk.i64_in _ (by omega)]; omega
  have hs2 : k - 1 < n0 := by omega
  have hs3 : (0 : Int) < (k : Int) := by omega
  have hcase : i = 0 ∨ i = 1 ∨ i = 2 ∨ i = 3 ∨ i = 4 ∨ i = 5 ∨ i = 6 ∨ i = 7 ∨ i = 8 ∨ i = 9 ∨ i = 10 ∨ i = 11 ∨ i = 12 ∨ i = 13 ∨ i = 14 ∨ i = 15 ∨ i = 16 ∨ i = 17 ∨ i = 18 ∨ i = 19 ∨ i = 20 := by omega
  rcases hcase with rfl | rfl | rfl | rfl | rfl | rfl | rfl | rfl | rfl | rfl | rfl | rfl | rfl | rfl | rfl | rfl | rfl | rfl | rfl | rfl | rfl
  · have hop := opG_of (x := .load 28 (.tmp 2)) (d := some 29) (by kernel_rfl) ho
    obtain ⟨h1, h2⟩ := hop
    refine .inl ⟨free_not (guardG_of (by kernel_rfl) ho), ?_⟩
    exact meets_load h1 (fg_val 2 (.pointer (some ⟨w.heap.size, 0, none⟩)) hn (by kernel_rfl) rfl) (load_chsZ hG.1.box) (fg_put h2 rfl)
  · have hop := opG_of (x := .fieldAddr 32 (.tmp 8) 0) (d := some 30) (by kernel_rfl) ho
    obtain ⟨h1, h2⟩ := hop
    refine .inl ⟨free_not (guardG_of (by kernel_rfl) ho), ?_⟩
    exact meets_field h1 (fg_val 8 (.pointer (some ⟨gv, 0, none⟩)) hn (by kernel_rfl) rfl) (by kernel_rfl : (Instr.fieldAt 32 (.pointer (some ⟨gv, 0, none⟩)) 0).run Tryz.prog W = .ok (.pointer (some ⟨gv, 0, none⟩)) W) (fg_put h2 rfl)
  · have hop := opG_of (x := .load 30 (.tmp 30)) (d := some 31) (by kernel_rfl) ho
    obtain ⟨h1, h2⟩ := hop
    refine .inl ⟨free_not (guardG_of (by kernel_rfl) ho), ?_⟩
    exact meets_load h1 (fg_val 30 (.pointer (some ⟨gv, 0, none⟩)) hn (by kernel_rfl) rfl) (blk_cst hG.2) (fg_put h2 rfl)
  · have hop := opG_of (x := .call { callee := .value (.func 27), args := #[.tmp 29, .tmp 31], argTypes := #[28, 30] }) (d := some 32) (by kernel_rfl) ho
    obtain ⟨h1, h2⟩ := hop
    refine .inl ⟨free_not (guardG_of (by kernel_rfl) ho), ?_⟩
    refine meets_call (args := #[.agg #[bv, wv, pv, .int .i64 c.over, .int .i64 c.done, .int .i64 c.need, ov], .agg #[.int .i64 p0, .int .i64 p1, .int .i64 p2, .int .i64 p3, .int .i64 p4]]) h1 rfl rfl (by have e29 := (fg_val 29 (.agg #[bv, wv, pv, .int .i64 c.over, .int .i64 c.done, .int .i64 c.need, ov]) hn (by kernel_rfl) rfl); have e31 := (fg_val 31 (.agg #[.int .i64 p0, .int .i64 p1, .int .i64 p2, .int .i64 p3, .int .i64 p4]) hn (by kernel_rfl) rfl); simp [e29, e31]) Tryz.func27 (by kernel_rfl) (by kernel_rfl) fun d hd => ?_
    refine (kc W hG.1.bel).mono ?_
    rintro e W' ⟨rfl, hb⟩
    exact ⟨_, rfl, hb, (fg_put h2 rfl d hd)⟩
  · have hop := opG_of (x := .binOp .neq 36 (.tmp 32) (.const (.int .i64 0)) 36) (d := some 33) (by kernel_rfl) ho
    obtain ⟨h1, h2⟩ := hop
    refine .inl ⟨free_not (guardG_of (by kernel_rfl) ho), ?_⟩
    exact meets_value (v := .bool false) (by have e32 := (fg_val 32 (.int .i64 z) hn (by kernel_rfl) rfl); unfold execOp; simp only [h1, e32]; simp [go_sem, BigFrame.eval_const, hz]) (fg_put h2 rfl)
  · have hop := opG_of (x := .move (.tmp 33)) (d := some 34) (by kernel_rfl) ho
    obtain ⟨h1, h2⟩ := hop
    refine .inl ⟨free_not (guardG_of (by kernel_rfl) ho), ?_⟩
    exact meets_move (.inl h1) fun d hd => by rw [h2] at hd; obtain rfl := Option.some.inj hd; exact (fg_val 33 (.bool false) hn (by kernel_rfl) rfl)
  · have hop := opG_of (x := .move (.tmp 7)) (d := some 35) (by kernel_rfl) ho
    obtain ⟨h1, h2⟩ := hop
    refine .inl ⟨(guard_at (j := 5) (d := 34) (b := false) (b' := false) (by kernel_rfl : (acCOps[6]?).map (·.guard) = some (some (5, false))) (by kernel_rfl) ho (fg_tmp 34 (.bool false) hn (by kernel_rfl) rfl)), ?_⟩
    exact meets_move (.inl h1) fun d hd => by rw [h2] at hd; obtain rfl := Option.some.inj hd; exact (fg_val 7 (.int .i64 (k : Int)) hn (by kernel_rfl) rfl)
  · have hop := opG_of (x := .binOp .gtr 3 (.tmp 35) (.const (.int .i64 0)) 3) (d := some 36) (by kernel_rfl) ho
    obtain ⟨h1, h2⟩ := hop
    refine .inl ⟨(guard_at (j := 5) (d := 34) (b := false) (b' := false) (by kernel_rfl : (acCOps[7]?).map (·.guard) = some (some (5, false))) (by kernel_rfl) ho (fg_tmp 34 (.bool false) hn (by kernel_rfl) rfl)), ?_⟩
    exact meets_value (v := .bool true) (by have e35 := (fg_val 35 (.int .i64 (k : Int)) hn (by kernel_rfl) rfl); unfold execOp; simp only [h1, e35]; simp [go_sem, BigFrame.eval_const, hs3, hk]) (fg_put h2 rfl)
  · have hop := opG_of (x := .move (.tmp 36)) (d := some 37) (by kernel_rfl) ho
    obtain ⟨h1, h2⟩ := hop
    refine .inl ⟨(guard_at (j := 5) (d := 34) (b := false) (b' := false) (by kernel_rfl : (acCOps[8]?).map (·.guard) = some (some (5, false))) (by kernel_rfl) ho (fg_tmp 34 (.bool false) hn (by kernel_rfl) rfl)), ?_⟩
    exact meets_move (.inl h1) fun d hd => by rw [h2] at hd; obtain rfl := Option.some.inj hd; exact (fg_val 36 (.bool true) hn (by kernel_rfl) rfl)
  · have hop := opG_of (x := .move (.tmp 1)) (d := some 38) (by kernel_rfl) ho
    obtain ⟨h1, h2⟩ := hop
    refine .inl ⟨(guard_at (j := 8) (d := 37) (b := true) (b' := true) (by kernel_rfl : (acCOps[9]?).map (·.guard) = some (some (8, true))) (by kernel_rfl) ho (fg_tmp 37 (.bool true) hn (by kernel_rfl) rfl)), ?_⟩
    exact meets_move (.inl h1) fun d hd => by rw [h2] at hd; obtain rfl := Option.some.inj hd; exact (fg_val 1 (.slice (some ⟨b0, o0, none⟩) n0 c0) hn (by kernel_rfl) rfl)
  · have hop := opG_of (x := .move (.tmp 7)) (d := some 39) (by kernel_rfl) ho
    obtain ⟨h1, h2⟩ := hop
    refine .inl ⟨(guard_at (j := 8) (d := 37) (b := true) (b' := true) (by kernel_rfl : (acCOps[10]?).map (·.guard) = some (some (8, true))) (by kernel_rfl) ho (fg_tmp 37 (.bool true) hn (by kernel_rfl) rfl)), ?_⟩
    exact meets_move (.inl h1) fun d hd => by rw [h2] at hd; obtain rfl := Option.some.inj hd; exact (fg_val 7 (.int .i64 (k : Int)) hn (by kernel_rfl) rfl)
  · have hop := opG_of (x := .binOp .sub 3 (.tmp 39) (.const (.int .i64 1)) 3) (d := some 40) (by kernel_rfl) ho
    obtain ⟨h1, h2⟩ := hop
    refine .inl ⟨(guard_at (j := 8) (d := 37) (b := true) (b' := true) (by kernel_rfl : (acCOps[11]?).map (·.guard) = some (some (8, true))) (by kernel_rfl) ho (fg_tmp 37 (.bool true) hn (by kernel_rfl) rfl)), ?_⟩
    exact meets_value (v := .int .i64 ((k - 1 : Nat) : Int)) (by have e39 := (fg_val 39 (.int .i64 (k : Int)) hn (by kernel_rfl) rfl); unfold execOp; simp only [h1, e39]; simp [go_sem, BigFrame.eval_const, hs1]) (fg_put h2 rfl)
  · have hop := opG_of (x := .indexAddr 35 (.tmp 38) (.tmp 40)) (d := some 41) (by kernel_rfl) ho
    obtain ⟨h1, h2⟩ := hop
    refine .inl ⟨(guard_at (j := 8) (d := 37) (b := true) (b' := true) (by kernel_rfl : (acCOps[12]?).map (·.guard) = some (some (8, true))) (by kernel_rfl) ho (fg_tmp 37 (.bool true) hn (by kernel_rfl) rfl)), ?_⟩
    exact meets_value (v := .pointer (some ⟨b0, o0 + (k - 1) * 6, none⟩)) (by have e38 := (fg_val 38 (.slice (some ⟨b0, o0, none⟩) n0 c0) hn (by kernel_rfl) rfl); have e40 := (fg_val 40 (.int .i64 ((k - 1 : Nat) : Int)) hn (by kernel_rfl) rfl); unfold execOp; simp only [h1, e38, e40]; simp [go_sem, BigFrame.eval_const, hs2]) (fg_put h2 rfl)
  · have hop := opG_of (x := .fieldAddr 32 (.tmp 41) 0) (d := some 42) (by kernel_rfl) ho
    obtain ⟨h1, h2⟩ := hop
    refine .inl ⟨(guard_at (j := 8) (d := 37) (b := true) (b' := true) (by kernel_rfl : (acCOps[13]?).map (·.guard) = some (some (8, true))) (by kernel_rfl) ho (fg_tmp 37 (.bool true) hn (by kernel_rfl) rfl)), ?_⟩
    exact meets_field h1 (fg_val 41 (.pointer (some ⟨b0, o0 + (k - 1) * 6, none⟩)) hn (by kernel_rfl) rfl) (by kernel_rfl : (Instr.fieldAt 32 (.pointer (some ⟨b0, o0 + (k - 1) * 6, none⟩)) 0).run Tryz.prog W = .ok (.pointer (some ⟨b0, o0 + (k - 1) * 6, none⟩)) W) (fg_put h2 rfl)
  · have hop := opG_of (x := .load 30 (.tmp 42)) (d := some 43) (by kernel_rfl) ho
    obtain ⟨h1, h2⟩ := hop
    refine .inl ⟨(guard_at (j := 8) (d := 37) (b := true) (b' := true) (by kernel_rfl : (acCOps[14]?).map (·.guard) = some (some (8, true))) (by kernel_rfl) ho (fg_tmp 37 (.bool true) hn (by kernel_rfl) rfl)), ?_⟩
    exact meets_load h1 (fg_val 42 (.pointer (some ⟨b0, o0 + (k - 1) * 6, none⟩)) hn (by kernel_rfl) rfl) (six_cst (sixC_below hG.1.bel hb0 hprev)) (fg_put h2 rfl)
  · have hop := opG_of (x := .fieldAddr 32 (.tmp 8) 0) (d := some 44) (by kernel_rfl) ho
    obtain ⟨h1, h2⟩ := hop
    refine .inl ⟨(guard_at (j := 8) (d := 37) (b := true) (b' := true) (by kernel_rfl : (acCOps[15]?).map (·.guard) = some (some (8, true))) (by kernel_rfl) ho (fg_tmp 37 (.bool true) hn (by kernel_rfl) rfl)), ?_⟩
    exact meets_field h1 (fg_val 8 (.pointer (some ⟨gv, 0, none⟩)) hn (by kernel_rfl) rfl) (by kernel_rfl : (Instr.fieldAt 32 (.pointer (some ⟨gv, 0, none⟩)) 0).run Tryz.prog W = .ok (.pointer (some ⟨gv, 0, none⟩)) W) (fg_put h2 rfl)
  · have hop := opG_of (x := .load 30 (.tmp 44)) (d := some 45) (by kernel_rfl) ho
    obtain ⟨h1, h2⟩ := hop
    refine .inl ⟨(guard_at (j := 8) (d := 37) (b := true) (b' := true) (by kernel_rfl : (acCOps[16]?).map (·.guard) = some (some (8, true))) (by kernel_rfl) ho (fg_tmp 37 (.bool true) hn (by kernel_rfl) rfl)), ?_⟩
    exact meets_load h1 (fg_val 44 (.pointer (some ⟨gv, 0, none⟩)) hn (by kernel_rfl) rfl) (blk_cst hG.2) (fg_put h2 rfl)
  · have hop := opG_of (x := .call { callee := .value (.func 28), args := #[.tmp 43, .tmp 45], argTypes := #[30, 30] }) (d := some 46) (by kernel_rfl) ho
    obtain ⟨h1, h2⟩ := hop
    refine .inl ⟨(guard_at (j := 8) (d := 37) (b := true) (b' := true) (by kernel_rfl : (acCOps[17]?).map (·.guard) = some (some (8, true))) (by kernel_rfl) ho (fg_tmp 37 (.bool true) hn (by kernel_rfl) rfl)), ?_⟩
    refine meets_call (args := #[.agg #[.int .i64 r0, .int .i64 r1, .int .i64 r2, .int .i64 r3, .int .i64 r4], .agg #[.int .i64 p0, .int .i64 p1, .int .i64 p2, .int .i64 p3, .int .i64 p4]]) h1 rfl rfl (by have e43 := (fg_val 43 (.agg #[.int .i64 r0, .int .i64 r1, .int .i64 r2, .int .i64 r3, .int .i64 r4]) hn (by kernel_rfl) rfl); have e45 := (fg_val 45 (.agg #[.int .i64 p0, .int .i64 p1, .int .i64 p2, .int .i64 p3, .int .i64 p4]) hn (by kernel_rfl) rfl); simp [e43, e45]) Tryz.func28 (by kernel_rfl) (by kernel_rfl) fun d hd => ?_
    refine (kq W).mono ?_
    rintro e W' ⟨rfl, hb⟩
    exact ⟨_, rfl, hb, (fg_put h2 rfl d hd)⟩
  · have hop := opG_of (x := .binOp .geq 3 (.tmp 46) (.const (.int .i64 0)) 3) (d := some 47) (by kernel_rfl) ho
    obtain ⟨h1, h2⟩ := hop
    refine .inl ⟨(guard_at (j := 8) (d := 37) (b := true) (b' := true) (by kernel_rfl : (acCOps[18]?).map (·.guard) = some (some (8, true))) (by kernel_rfl) ho (fg_tmp 37 (.bool true) hn (by kernel_rfl) rfl)), ?_⟩
    exact meets_value (v := .bool true) (by have e46 := (fg_val 46 (.int .i64 q) hn (by kernel_rfl) rfl); unfold execOp; simp only [h1, e46]; simp [go_sem, BigFrame.eval_const, hq]) (fg_put h2 rfl)
  · have hop := opG_of (x := .pick (.tmp 37) (.tmp 47) (.const (.bool false))) (d := some 48) (by kernel_rfl) ho
    obtain ⟨h1, h2⟩ := hop
    refine .inl ⟨(guard_at (j := 5) (d := 34) (b := false) (b' := false) (by kernel_rfl : (acCOps[19]?).map (·.guard) = some (some (5, false))) (by kernel_rfl) ho (fg_tmp 34 (.bool false) hn (by kernel_rfl) rfl)), ?_⟩
    exact meets_value (v := .bool true) (by have e37 := (fg_val 37 (.bool true) hn (by kernel_rfl) rfl); have e47 := (fg_val 47 (.bool true) hn (by kernel_rfl) rfl); unfold execOp; simp only [h1, e37, e47]; simp [go_sem, BigFrame.eval_const]) (fg_put h2 rfl)
  · have hop := opG_of (x := .pick (.tmp 34) (.const (.bool true)) (.tmp 48)) (d := some 49) (by kernel_rfl) ho
    obtain ⟨h1, h2⟩ := hop
    refine .inl ⟨free_not (guardG_of (by kernel_rfl) ho), ?_⟩
    exact meets_value (v := .bool true) (by have e34 := (fg_val 34 (.bool false) hn (by kernel_rfl) rfl); have e48 := (fg_val 48 (.bool true) hn (by kernel_rfl) rfl); unfold execOp; simp only [h1, e34, e48]; simp [go_sem, BigFrame.eval_const]) (fg_put h2 rfl)
def acCTabD (c : Chs) (bv wv pv ov : Value) (p0 p1 p2 p3 p4 vv z : Int) (g gv k : Nat) (r0 r1 r2 r3 r4 rv q : Int) (b0 o0 n0 c0 : Nat) : List (Nat × Value) := [(1, .slice (some ⟨b0, o0, none⟩) n0 c0), (2, .pointer (some ⟨g, 0, none⟩)), (7, .int .i64 (k : Int)), (8, .pointer (some ⟨gv, 0, none⟩)), (29, .agg #[bv, wv, pv, .int .i64 c.over, .int .i64 c.done, .int .i64 c.need, ov]), (30, .pointer (some ⟨gv, 0, none⟩)), (31, .agg #[.int .i64 p0, .int .i64 p1, .int .i64 p2, .int .i64 p3, .int .i64 p4]), (32, .int .i64 z), (33, .bool false), (34, .bool false), (35, .int .i64 (k : Int)), (36, .bool true), (37, .bool true), (38, .slice (some ⟨b0, o0, none⟩) n0 c0), (39, .int .i64 (k : Int)), (40, .int .i64 ((k - 1 : Nat) : Int)), (41, .pointer (some ⟨b0, o0 + (k - 1) * 6, none⟩)), (42, .pointer (some ⟨b0, o0 + (k - 1) * 6, none⟩)), (43, .agg #[.int .i64 r0, .int .i64 r1, .int .i64 r2, .int .i64 r3, .int .i64 r4]), (44, .pointer (some ⟨gv, 0, none⟩)), (45, .agg #[.int .i64 p0, .int .i64 p1, .int .i64 p2, .int .i64 p3, .int .i64 p4]), (46, .int .i64 q), (47, .bool false), (48, .bool false), (49, .bool false)]
def acCMaskD (c : Chs) (bv wv pv ov : Value) (p0 p1 p2 p3 p4 vv z : Int) (g gv k : Nat) (r0 r1 r2 r3 r4 rv q : Int) (b0 o0 n0 c0 : Nat) : List (Option Value) := none :: none :: none :: none :: none :: none :: none :: none :: none :: none :: none :: none :: none :: none :: none :: none :: none :: none :: none :: none :: none :: none :: none :: none :: none :: none :: none :: none :: none :: some (.agg #[bv, wv, pv, .int .i64 c.over, .int .i64 c.done, .int .i64 c.need, ov]) :: some (.pointer (some ⟨gv, 0, none⟩)) :: some (.agg #[.int .i64 p0, .int .i64 p1, .int .i64 p2, .int .i64 p3, .int .i64 p4]) :: some (.int .i64 z) :: some (.bool false) :: some (.bool false) :: some (.int .i64 (k : Int)) :: some (.bool true) :: some (.bool true) :: some (.slice (some ⟨b0, o0, none⟩) n0 c0) :: some (.int .i64 (k : Int)) :: some (.int .i64 ((k - 1 : Nat) : Int)) :: some (.pointer (some ⟨b0, o0 + (k - 1) * 6, none⟩)) :: some (.pointer (some ⟨b0, o0 + (k - 1) * 6, none⟩)) :: some (.agg #[.int .i64 r0, .int .i64 r1, .int .i64 r2, .int .i64 r3, .int .i64 r4]) :: some (.pointer (some ⟨gv, 0, none⟩)) :: some (.agg #[.int .i64 p0, .int .i64 p1, .int .i64 p2, .int .i64 p3, .int .i64 p4]) :: some (.int .i64 q) :: some (.bool false) :: some (.bool false) :: some (.bool false) :: none :: none :: none :: none :: none :: none :: none :: none :: none :: none :: none :: none :: none :: none :: none :: none :: none :: none :: none :: none :: none :: none :: none :: []
set_option maxRecDepth 100000 in
set_option maxHeartbeats 4000000 in
theorem acC_freeD (c : Chs) (bv wv pv ov : Value) (p0 p1 p2 p3 p4 vv z : Int) (gv k : Nat) (r0 r1 r2 r3 r4 rv q : Int) (b0 o0 n0 c0 : Nat) (w : World) (kc : ∀ W, Below w.heap.size w W → Calls Tryz.prog 27 #[.agg #[bv, wv, pv, .int .i64 c.over, .int .i64 c.done, .int .i64 c.need, ov], .agg #[.int .i64 p0, .int .i64 p1, .int .i64 p2, .int .i64 p3, .int .i64 p4]] W fun e W' => e = .returned (.int .i64 z) ∧ Below W.heap.size W W') (kq : ∀ W, Calls Tryz.prog 28 #[.agg #[.int .i64 r0, .int .i64 r1, .int .i64 r2, .int .i64 r3, .int .i64 r4], .agg #[.int .i64 p0, .int .i64 p1, .int .i64 p2, .int .i64 p3, .int .i64 p4]] W fun e W' => e = .returned (.int .i64 q) ∧ Below W.heap.size W W') (hz : z = 0) (hk : 0 < k) (hkn : k ≤ n0) (hn0 : n0 ≤ 1000000000000) (hb0 : b0 < w.heap.size) (hprev : w.cell? ⟨b0, o0 + (k - 1) * 6, none⟩ = some (.int .i64 r0) ∧ w.cell? ⟨b0, o0 + (k - 1) * 6 + 1, none⟩ = some (.int .i64 r1) ∧ w.cell? ⟨b0, o0 + (k - 1) * 6 + 2, none⟩ = some (.int .i64 r2) ∧ w.cell? ⟨b0, o0 + (k - 1) * 6 + 3, none⟩ = some (.int .i64 r3) ∧ w.cell? ⟨b0, o0 + (k - 1) * 6 + 4, none⟩ = some (.int .i64 r4) ∧ w.cell? ⟨b0, o0 + (k - 1) * 6 + 5, none⟩ = some (.int .i64 rv)) (hq : q < 0) :
    FreeG Tryz.prog acCOps (tabV (acCTabD c bv wv pv ov p0 p1 p2 p3 p4 vv z w.heap.size gv k r0 r1 r2 r3 r4 rv q b0 o0 n0 c0)) (fun W => AcRC w W c bv wv pv ov ∧ Blk W gv 32 #[.int .i64 p0, .int .i64 p1, .int .i64 p2, .int .i64 p3, .int .i64 p4, .int .i64 vv]) (fun i => acCNeeds.getD i []) [1, 2, 7, 8] 73 := by
  refine ⟨backG_of (by kernel_rfl), dstG_of (by kernel_rfl), needG_of (by kernel_rfl), fun d w1 w2 v h _ => h, fun W W' h hb => ⟨h.1.below hb, h.2.below hb h.2.lt⟩, ?_⟩
  intro i o ho a W hG hn
  have hlt : i < 21 := by rw [← acC_size]; exact (Array.getElem?_eq_some_iff.1 ho).1
  have hs1 : IntKind.i64.wrap ((k : Int) - 1) = ((k - 1 : Nat) : Int) := by rw [IntWalk.i64_in _ (by omega)]; omega
  have hs2 : k - 1 < n0 := by omega
  have hs3 : (0 : Int) < (k : Int) := by omega
  have hcase : i = 0 ∨ i = 1 ∨ i = 2 ∨ i = 3 ∨ i = 4 ∨ i = 5 ∨ i = 6 ∨ i = 7 ∨ i = 8 ∨ i = 9 ∨ i = 10 ∨ i = 11 ∨ i = 12 ∨ i = 13 ∨ i = 14 ∨ i = 15 ∨ i = 16 ∨ i = 17 ∨ i = 18 ∨ i = 19 ∨ i = 20 := by omega
  rcases hcase with rfl | rfl | rfl | rfl | rfl | rfl | rfl | rfl | rfl | rfl | rfl | rfl | rfl | rfl | rfl | rfl | rfl | rfl | rfl | rfl | rfl
  · have hop := opG_of (x := .load 28 (.tmp 2)) (d := some 29) (by kernel_rfl) ho
    obtain ⟨h1, h2⟩ := hop
    refine .inl ⟨free_not (guardG_of (by kernel_rfl) ho), ?_⟩
    exact meets_load h1 (fg_val 2 (.pointer (some ⟨w.heap.size, 0, none⟩)) hn (by kernel_rfl) rfl) (load_chsZ hG.1.box) (fg_put h2 rfl)
  · have hop := opG_of (x := .fieldAddr 32 (.tmp 8) 0) (d := some 30) (by kernel_rfl) ho
    obtain ⟨h1, h2⟩ := hop
    refine .inl ⟨free_not (guardG_of (by kernel_rfl) ho), ?_⟩
    exact meets_field h1 (fg_val 8 (.pointer (some ⟨gv, 0, none⟩)) hn (by kernel_rfl) rfl) (by kernel_rfl : (Instr.fieldAt 32 (.pointer (some ⟨gv, 0, none⟩)) 0).run Tryz.prog W = .ok (.pointer (some ⟨gv, 0, none⟩)) W) (fg_put h2 rfl)
  · have hop := opG_of (x := .load 30 (.tmp 30)) (d := some 31) (by kernel_rfl) ho
    obtain ⟨h1, h2⟩ := hop
    refine .inl ⟨free_not (guardG_of (by kernel_rfl) ho), ?_⟩
    exact meets_load h1 (fg_val 30 (.pointer (some ⟨gv, 0, none⟩)) hn (by kernel_rfl) rfl) (blk_cst hG.2) (fg_put h2 rfl)
  · have hop := opG_of (x := .call { callee := .value (.func 27), args := #[.tmp 29, .tmp 31], argTypes := #[28, 30] }) (d := some 32) (by kernel_rfl) ho
    obtain ⟨h1, h2⟩ := hop
    refine .inl ⟨free_not (guardG_of (by kernel_rfl) ho), ?_⟩
    refine meets_call (args := #[.agg #[bv, wv, pv, .int .i64 c.over, .int .i64 c.done, .int .i64 c.need, ov], .agg #[.int .i64 p0, .int .i64 p1, .int .i64 p2, .int .i64 p3, .int .i64 p4]]) h1 rfl rfl (by have e29 := (fg_val 29 (.agg #[bv, wv, pv, .int .i64 c.over, .int .i64 c.done, .int .i64 c.need, ov]) hn (by kernel_rfl) rfl); have e31 := (fg_val 31 (.agg #[.int .i64 p0, .int .i64 p1, .int .i64 p2, .int .i64 p3, .int .i64 p4]) hn (by kernel_rfl) rfl); simp [e29, e31]) Tryz.func27 (by kernel_rfl) (by kernel_rfl) fun d hd => ?_
    refine (kc W hG.1.bel).mono ?_
    rintro e W' ⟨rfl, hb⟩
    exact ⟨_, rfl, hb, (fg_put h2 rfl d hd)⟩
  · have hop := opG_of (x := .binOp .neq 36 (.tmp 32) (.const (.int .i64 0)) 36) (d := some 33) (by kernel_rfl) ho
    obtain ⟨h1, h2⟩ := hop
    refine .inl ⟨free_not (guardG_of (by kernel_rfl) ho), ?_⟩
    exact meets_value (v := .bool false) (by have e32 := (fg_val 32 (.int .i64 z) hn (by kernel_rfl) rfl); unfold execOp; simp only [h1, e32]; simp [go_sem, BigFrame.eval_const, hz]) (fg_put h2 rfl)
  · have hop := opG_of (x := .move (.tmp 33)) (d := some 34) (by kernel_rfl) ho
    obtain ⟨h1, h2⟩ := hop
    refine .inl ⟨free_not (guardG_of (by kernel_rfl) ho), ?_⟩
    exact meets_move (.inl h1) fun d hd => by rw [h2] at hd; obtain rfl := Option.some.inj hd; exact (fg_val 33 (.bool false) hn (by kernel_rfl) rfl)
  · have hop := opG_of (x := .move (.tmp 7)) (d := some 35) (by kernel_rfl) ho
    obtain ⟨h1, h2⟩ := hop
    refine .inl ⟨(guard_at (j := 5) (d := 34) (b := false) (b' := false) (by kernel_rfl : (acCOps[6]?).map (·.guard) = some (some (5, false))) (by kernel_rfl) ho (fg_tmp 34 (.bool false) hn (by kernel_rfl) rfl)), ?_⟩
    exact meets_move (.inl h1) fun d hd => by rw [h2] at hd; obtain rfl := Option.some.inj hd; exact (fg_val 7 (.int .i64 (k : Int)) hn (by kernel_rfl) rfl)
  · have hop := opG_of (x := .binOp .gtr 3 (.tmp 35) (.const (.int .i64 0)) 3) (d := some 36) (by kernel_rfl) ho
    obtain ⟨h1, h2⟩ := hop
    refine .inl ⟨(guard_at (j := 5) (d := 34) (b := false) (b' := false) (by kernel_rfl : (acCOps[7]?).map (·.guard) = some (some (5, false))) (by kernel_rfl) ho (fg_tmp 34 (.bool false) hn (by kernel_rfl) rfl)), ?_⟩
    exact meets_value (v := .bool true) (by have e35 := (fg_val 35 (.int .i64 (k : Int)) hn (by kernel_rfl) rfl); unfold execOp; simp only [h1, e35]; simp [go_sem, BigFrame.eval_const, hs3, hk]) (fg_put h2 rfl)
  · have hop := opG_of (x := .move (.tmp 36)) (d := some 37) (by kernel_rfl) ho
    obtain ⟨h1, h2⟩ := hop
    refine .inl ⟨(guard_at (j := 5) (d := 34) (b := false) (b' := false) (by kernel_rfl : (acCOps[8]?).map (·.guard) = some (some (5, false))) (by kernel_rfl) ho (fg_tmp 34 (.bool false) hn (by kernel_rfl) rfl)), ?_⟩
    exact meets_move (.inl h1) fun d hd => by rw [h2] at hd; obtain rfl := Option.some.inj hd; exact (fg_val 36 (.bool true) hn (by kernel_rfl) rfl)
  · have hop := opG_of (x := .move (.tmp 1)) (d := some 38) (by kernel_rfl) ho
    obtain ⟨h1, h2⟩ := hop
    refine .inl ⟨(guard_at (j := 8) (d := 37) (b := true) (b' := true) (by kernel_rfl : (acCOps[9]?).map (·.guard) = some (some (8, true))) (by kernel_rfl) ho (fg_tmp 37 (.bool true) hn (by kernel_rfl) rfl)), ?_⟩
    exact meets_move (.inl h1) fun d hd => by rw [h2] at hd; obtain rfl := Option.some.inj hd; exact (fg_val 1 (.slice (some ⟨b0, o0, none⟩) n0 c0) hn (by kernel_rfl) rfl)
  · have hop := opG_of (x := .move (.tmp 7)) (d := some 39) (by kernel_rfl) ho
    obtain ⟨h1, h2⟩ := hop
    refine .inl ⟨(guard_at (j := 8) (d := 37) (b := true) (b' := true) (by kernel_rfl : (acCOps[10]?).map (·.guard) = some (some (8, true))) (by kernel_rfl) ho (fg_tmp 37 (.bool true) hn (by kernel_rfl) rfl)), ?_⟩
    exact meets_move (.inl h1) fun d hd => by rw [h2] at hd; obtain rfl := Option.some.inj hd; exact (fg_val 7 (.int .i64 (k : Int)) hn (by kernel_rfl) rfl)
  · have hop := opG_of (x := .binOp .sub 3 (.tmp 39) (.const (.int .i64 1)) 3) (d := some 40) (by kernel_rfl) ho
    obtain ⟨h1, h2⟩ := hop
    refine .inl ⟨(guard_at (j := 8) (d := 37) (b := true) (b' := true) (by kernel_rfl : (acCOps[11]?).map (·.guard) = some (some (8, true))) (by kernel_rfl) ho (fg_tmp 37 (.bool true) hn (by kernel_rfl) rfl)), ?_⟩
    exact meets_value (v := .int .i64 ((k - 1 : Nat) : Int)) (by have e39 := (fg_val 39 (.int .i64 (k : Int)) hn (by kernel_rfl) rfl); unfold execOp; simp only [h1, e39]; simp [go_sem, BigFrame.eval_const, hs1]) (fg_put h2 rfl)
  · have hop := opG_of (x := .indexAddr 35 (.tmp 38) (.tmp 40)) (d := some 41) (by kernel_rfl) ho
    obtain ⟨h1, h2⟩ := hop
    refine .inl ⟨(guard_at (j := 8) (d := 37) (b := true) (b' := true) (by kernel_rfl : (acCOps[12]?).map (·.guard) = some (some (8, true))) (by kernel_rfl) ho (fg_tmp 37 (.bool true) hn (by kernel_rfl) rfl)), ?_⟩
    exact meets_value (v := .pointer (some ⟨b0, o0 + (k - 1) * 6, none⟩)) (by have e38 := (fg_val 38 (.slice (some ⟨b0, o0, none⟩) n0 c0) hn (by kernel_rfl) rfl); have e40 := (fg_val 40 (.int .i64 ((k - 1 : Nat) : Int)) hn (by kernel_rfl) rfl); unfold execOp; simp only [h1, e38, e40]; simp [go_sem, BigFrame.eval_const, hs2]) (fg_put h2 rfl)
  · have hop := opG_of (x := .fieldAddr 32 (.tmp 41) 0) (d := some 42) (by kernel_rfl) ho
    obtain ⟨h1, h2⟩ := hop
    refine .inl ⟨(guard_at (j := 8) (d := 37) (b := true) (b' := true) (by kernel_rfl : (acCOps[13]?).map (·.guard) = some (some (8, true))) (by kernel_rfl) ho (fg_tmp 37 (.bool true) hn (by kernel_rfl) rfl)), ?_⟩
    exact meets_field h1 (fg_val 41 (.pointer (some ⟨b0, o0 + (k - 1) * 6, none⟩)) hn (by kernel_rfl) rfl) (by kernel_rfl : (Instr.fieldAt 32 (.pointer (some ⟨b0, o0 + (k - 1) * 6, none⟩)) 0).run Tryz.prog W = .ok (.pointer (some ⟨b0, o0 + (k - 1) * 6, none⟩)) W) (fg_put h2 rfl)
  · have hop := opG_of (x := .load 30 (.tmp 42)) (d := some 43) (by kernel_rfl) ho
    obtain ⟨h1, h2⟩ := hop
    refine .inl ⟨(guard_at (j := 8) (d := 37) (b := true) (b' := true) (by kernel_rfl : (acCOps[14]?).map (·.guard) = some (some (8, true))) (by kernel_rfl) ho (fg_tmp 37 (.bool true) hn (by kernel_rfl) rfl)), ?_⟩
    exact meets_load h1 (fg_val 42 (.pointer (some ⟨b0, o0 + (k - 1) * 6, none⟩)) hn (by kernel_rfl) rfl) (six_cst (sixC_below hG.1.bel hb0 hprev)) (fg_put h2 rfl)
  · have hop := opG_of (x := .fieldAddr 32 (.tmp 8) 0) (d := some 44) (by kernel_rfl) ho
    obtain ⟨h1, h2⟩ := hop
    refine .inl ⟨(guard_at (j := 8) (d := 37) (b := true) (b' := true) (by kernel_rfl : (acCOps[15]?).map (·.guard) = some (some (8, true))) (by kernel_rfl) ho (fg_tmp 37 (.bool true) hn (by kernel_rfl) rfl)), ?_⟩
    exact meets_field h1 (fg_val 8 (.pointer (some ⟨gv, 0, none⟩)) hn (by kernel_rfl) rfl) (by kernel_rfl : (Instr.fieldAt 32 (.pointer (some ⟨gv, 0, none⟩)) 0).run Tryz.prog W = .ok (.pointer (some ⟨gv, 0, none⟩)) W) (fg_put h2 rfl)
  · have hop := opG_of (x := .load 30 (.tmp 44)) (d := some 45) (by kernel_rfl) ho
    obtain ⟨h1, h2⟩ := hop
    refine .inl ⟨(guard_at (j := 8) (d := 37) (b := true) (b' := true) (by kernel_rfl : (acCOps[16]?).map (·.guard) = some (some (8, true))) (by kernel_rfl) ho (fg_tmp 37 (.bool true) hn (by kernel_rfl) rfl)), ?_⟩
    exact meets_load h1 (fg_val 44 (.pointer (some ⟨gv, 0, none⟩)) hn (by kernel_rfl) rfl) (blk_cst hG.2) (fg_put h2 rfl)
  · have hop := opG_of (x := .call { callee := .value (.func 28), args := #[.tmp 43, .tmp 45], argTypes := #[30, 30] }) (d := some 46) (by kernel_rfl) ho
    obtain ⟨h1, h2⟩ := hop
    refine .inl ⟨(guard_at (j := 8) (d := 37) (b := true) (b' := true) (by kernel_rfl : (acCOps[17]?).map (·.guard) = some (some (8, true))) (by kernel_rfl) ho (fg_tmp 37 (.bool true) hn (by kernel_rfl) rfl)), ?_⟩
    refine meets_call (args := #[.agg #[.int .i64 r0, .int .i64 r1, .int .i64 r2, .int .i64 r3, .int .i64 r4], .agg #[.int .i64 p0, .int .i64 p1, .int .i64 p2, .int .i64 p3, .int .i64 p4]]) h1 rfl rfl (by have e43 := (fg_val 43 (.agg #[.int .i64 r0, .int .i64 r1, .int .i64 r2, .int .i64 r3, .int .i64 r4]) hn (by kernel_rfl) rfl); have e45 := (fg_val 45 (.agg #[.int .i64 p0, .int .i64 p1, .int .i64 p2, .int .i64 p3, .int .i64 p4]) hn (by kernel_rfl) rfl); simp [e43, e45]) Tryz.func28 (by kernel_rfl) (by kernel_rfl) fun d hd => ?_
    refine (kq W).mono ?_
    rintro e W' ⟨rfl, hb⟩
    exact ⟨_, rfl, hb, (fg_put h2 rfl d hd)⟩
  · have hop := opG_of (x := .binOp .geq 3 (.tmp 46) (.const (.int .i64 0)) 3) (d := some 47) (by kernel_rfl) ho
    obtain ⟨h1, h2⟩ := hop
    refine .inl ⟨(guard_at (j := 8) (d := 37) (b := true) (b' := true) (by kernel_rfl : (acCOps[18]?).map (·.guard) = some (some (8, true))) (by kernel_rfl) ho (fg_tmp 37 (.bool true) hn (by kernel_rfl) rfl)), ?_⟩
    exact meets_value (v := .bool false) (by have e46 := (fg_val 46 (.int .i64 q) hn (by kernel_rfl) rfl); unfold execOp; simp only [h1, e46]; simp [go_sem, BigFrame.eval_const, hq]) (fg_put h2 rfl)
  · have hop := opG_of (x := .pick (.tmp 37) (.tmp 47) (.const (.bool false))) (d := some 48) (by kernel_rfl) ho
    obtain ⟨h1, h2⟩ := hop
    refine .inl ⟨(guard_at (j := 5) (d := 34) (b := false) (b' := false) (by kernel_rfl : (acCOps[19]?).map (·.guard) = some (some (5, false))) (by kernel_rfl) ho (fg_tmp 34 (.bool false) hn (by kernel_rfl) rfl)), ?_⟩
    exact meets_value (v := .bool false) (by have e37 := (fg_val 37 (.bool true) hn (by kernel_rfl) rfl); have e47 := (fg_val 47 (.bool false) hn (by kernel_rfl) rfl); unfold execOp; simp only [h1, e37, e47]; simp [go_sem, BigFrame.eval_const]) (fg_put h2 rfl)
  · have hop := opG_of (x := .pick (.tmp 34) (.const (.bool true)) (.tmp 48)) (d := some 49) (by kernel_rfl) ho
    obtain ⟨h1, h2⟩ := hop
    refine .inl ⟨free_not (guardG_of (by kernel_rfl) ho), ?_⟩
    exact meets_value (v := .bool false) (by have e34 := (fg_val 34 (.bool false) hn (by kernel_rfl) rfl); have e48 := (fg_val 48 (.bool false) hn (by kernel_rfl) rfl); unfold execOp; simp only [h1, e34, e48]; simp [go_sem, BigFrame.eval_const]) (fg_put h2 rfl)
set_option maxRecDepth 100000 in
set_option maxHeartbeats 8000000 in
theorem ch44_Accept (c : Chs) (bv wv pv ov v : Value) (l : List Cve) (w : World) (h : ChAt w (· < w.heap.size) bv wv pv ov c) (hl : Sl 6 elCv w (· < w.heap.size) v l) (hn : l.length ≤ 1000000000000) :
    Calls Tryz.prog 10 #[chV c bv wv pv ov, v] w fun e w' => e = .returned (.int .i64 (acceptC c l)) ∧ Below w.heap.size w w' := by
  have k1 := fun W (hW : Below w.heap.size w W) => ch44_Start c _ _ _ _ W (h.below hW)
  have kchk := fun (k : Nat) (hk : k < l.length) W (hW : Below w.heap.size w W) => ch44_checkState c l[k].st _ _ _ _ W (h.below hW)
  have hkeep := fun W (hW : Below w.heap.size w W) => (hl.keep elCv_good (Same.of_below hW) fun b hb => Nat.lt_of_lt_of_le hb hW.size : Sl 6 elCv W (· < W.heap.size) v l)
  have kfi0 := fun (hs : StrictC l) (t : Cst) W (hW : Below w.heap.size w W) => ch44_find l v t W (hkeep W hW) hn hs
  have ken0 := fun (hc : OkC c) (hs : StrictC l) (x : Cve) (hx : OkS c x.st) W (hW : Below w.heap.size w W) => ch44_entry c hc x hx bv wv pv ov v l W (h.below hW) (hkeep W hW) hn hs
  clear hkeep
  unfold chV at k1 kchk ken0 ⊢
  obtain ⟨A, ca, rfl, hc1, hc2⟩ := h.mdl.bat.shape
  obtain ⟨A1, ca1, rfl, hc3, hc4⟩ := h.mdl.bow.shape
  obtain ⟨A2, ca2, rfl, hc5, hc6⟩ := h.bow.shape
  obtain ⟨A3, ca3, rfl, hc7, hc8⟩ := h.ord.shape
  obtain ⟨A4, ca4, rfl, hc9, hc10⟩ := hl.shape
  have HX := Lib.hid (AcRC.new w c (.slice A c.mdl.bats.length ca) (.slice A1 c.mdl.bows.length ca1) (.slice A2 c.bows.length ca2) (.slice A3 c.ord.length ca3))
  have HL := Lib.hid hl
  obtain ⟨z, hz⟩ : ∃ z, z = acceptC c l := ⟨_, rfl⟩
  rw [← hz]
  have hbad := fun h0 => hz.trans (acceptC_bad (c := c) (l := l) h0)
  have hform := fun h0 (hf : ¬ FormC c l) => hz.trans (acceptC_form h0 hf)
  have hnone := fun h0 (hf : FormC c l) h2 => hz.trans (acceptC_none h0 hf h2)
  have hent := fun h0 (hf : FormC c l) h2 => hz.trans (acceptC_ent h0 hf h2)
  have hok0 := fun h0 => startC_ok (c := c) h0
  obtain ⟨⟨s, u⟩, hsu⟩ : ∃ x, x = startC c := ⟨_, rfl⟩
  simp only [← hsu] at k1 hbad hform hnone hent hok0
  have tok0 : True := trivial
  by_cases h0 : u = 0
  case neg =>
    have HZ := Lib.hid (hbad h0)
    have eu : (u != 0) = true := by simp [h0]
    obtain ⟨s0, s1, s2, s3, s4⟩ := s
    unfold stV at k1
    dsimp only at k1
    have K1 := Lib.hid k1
    clear kchk ken0 hz h0 k1 hsu h hl hbad hform hnone hent hok0 kfi0
    go_enter Tryz.func10, Tryz.ntmps10
    go_wp2_with (clear tok0; go_at_call 22; refine (K1.out _ HX.out.bel).mono ?_; rintro e w2 ⟨rfl, hb2⟩; have HX2 := Lib.hid (HX.out.below hb2); clear hb2; have tok1 : True := trivial)
    go_ret
    exact ⟨ret_i HZ.out.symm, HX2.out.bel.trans ((Below.alloc (Below.refl _ _) (Nat.le_refl _) _).mono HX2.out.bel.size)⟩
  obtain ⟨_, hc, hs0⟩ := hok0 h0
  have eu : (u != 0) = false := by simp [h0]
  have HF4 := Lib.hid (hform h0)
  have HN6 := Lib.hid (hnone h0)
  have HEN := Lib.hid (hent h0)
  have KCHK := Lib.hid kchk
  have KFI0 := Lib.hid (fun hs => kfi0 hs s)
  have KEN0 := Lib.hid (ken0 hc)
  have HFOK := Lib.hid (fun (hf : FormC c l) => (⟨formC_strict hf, formC_ok hf⟩ : StrictC l ∧ ∀ (i : Nat) (hi : i < l.length), OkS c l[i].st))
  clear kchk ken0 hz h0 hsu h hl hbad hform hnone hent hok0 hs0 hc kfi0
  have HKF := Lib.hid KFI0.out
  obtain ⟨lk, hlk⟩ : ∃ lk, lk = lookC l := ⟨_, rfl⟩
  have hlk0 : Hid (lk = lookC l) := Lib.hid hlk
  rw [← hlk] at HN6 HEN HKF 
  obtain ⟨s0, s1, s2, s3, s4⟩ := s
  unfold stV at k1 HKF
  dsimp only at k1 HN6
  have K1 := Lib.hid k1
  clear k1 hlk KFI0
  go_enter Tryz.func10, Tryz.ntmps10
  go_wp2_with (clear tok0; go_at_call 22; refine (K1.out _ HX.out.bel).mono ?_; rintro e w2 ⟨rfl, hb2⟩; have HX2 := Lib.hid (HX.out.below hb2); have HM2 := Lib.hid (AcC.new HX2.out ⟨s0, s1, s2, s3, s4⟩); clear hb2; have tok1 : True := trivial)
  go_loopw [24] (fun i wr => ∃ k : Nat, k ≤ l.length ∧ i = .int .i64 k ∧ Hid (AcC w wr w2.heap.size ⟨s0, s1, s2, s3, s4⟩ c (.slice A c.mdl.bats.length ca) (.slice A1 c.mdl.bows.length ca1) (.slice A2 c.bows.length ca2) (.slice A3 c.ord.length ca3)) ∧ Hid (FormToC c l k)) (fun i _ => l.length - (intOf i).toNat)
  case atStart => exact ⟨0, Nat.zero_le _, rfl, HM2, Lib.hid (fun i hi hk => by omega)⟩
  case round =>
    clear HX2 HM2
    obtain ⟨k, hk, rfl, HS, HFT⟩ := hrel
    obtain ⟨x0, x1, x2, x3, x4, x5, x6, g0, g1, g2, g3, g4⟩ := HS.out.cells
    have hl1 := HS.out.box.lt
    have hl2 := HS.out.st.lt
    by_cases hlt : k < l.length
    · obtain ⟨b0, o0, rfl, hbl, yy⟩ := cv_at HL.out (k := k) hlt
      have yy := sixC_below HS.out.bel hbl yy
      have kC := KCHK.out k hlt
      have hnx := fun h1 h2 => formC_step HFT.out hlt h1 h2
      have hbd1 : stateC c l[k].st ≠ 0 → z = 4 := fun h1 => HF4.out fun hf => h1 (hf k hlt).1
      have hbd2 : ∀ h0 : 0 < k, ¬ cmpS (l[k - 1]'(by omega)).st l[k].st < 0 → z = 4 := fun h0 h1 => HF4.out fun hf => h1 ((hf k hlt).2 h0)
      have hpv : ∀ h0 : 0 < k, ∃ b1 o1, (some (⟨b0, o0, none⟩ : Addr)) = some ⟨b1, o1, none⟩ ∧ b1 < w.heap.size ∧ _ := fun h0 => cv_at HL.out (k := k - 1) (by omega)
      have hbl2 : b0 < wr.heap.size := Nat.lt_of_lt_of_le hbl HS.out.bel.size
      obtain ⟨y, hy⟩ : ∃ y, y = stateC c l[k].st := ⟨_, rfl⟩
      simp only [← hy] at kC hnx hbd1
      obtain ⟨⟨⟨p0, p1, p2, p3, p4⟩, vv⟩, hp⟩ : ∃ x, x = l[k]'hlt := ⟨_, rfl⟩
      simp only [← hp] at yy kC hnx hbd2
      unfold stV at kC
      dsimp only at yy kC hnx hbd2
      have HSE := Lib.hid (HS.out.alloc (.cells #[.int .i64 p0, .int .i64 p1, .int .i64 p2, .int .i64 p3, .int .i64 p4, .int .i64 vv] 32))
      have HSR := Lib.hid HSE.out.toAcRC
      have HBE := Lib.hid (Blk.new wr 32 #[.int .i64 p0, .int .i64 p1, .int .i64 p2, .int .i64 p3, .int .i64 p4, .int .i64 vv])
      obtain ⟨y0, y1, y2, y3, y4, y5⟩ := yy
      have KC := Lib.hid kC
      have HNX := Lib.hid hnx
      have HBD1 := Lib.hid hbd1
      have HBD2 := Lib.hid hbd2
      have HPV := Lib.hid hpv
      clear kC hnx hbd1 hbd2 hpv hp hy HFT
      by_cases hy0 : y = 0
      case neg =>
        have HZ := Lib.hid (HBD1.out hy0)
        have HY := Lib.hid hy0
        clear hy0
        go_wp2
        refine wp_region_freeF (dl := [29, 30, 31, 32, 33, 34, 35, 36, 37, 38, 39, 40, 41, 42, 43, 44, 45, 46, 47, 48, 49]) (mask := acCMaskA c (.slice A c.mdl.bats.length ca) (.slice A1 c.mdl.bows.length ca1) (.slice A2 c.bows.length ca2) (.slice A3 c.ord.length ca3) (.slice (some ⟨b0, o0, none⟩) l.length ca4) p0 p1 p2 p3 p4 vv y w.heap.size wr.heap.size k) (T := _ :: _ :: _ :: _ :: _ :: _ :: _ :: _ :: _ :: _ :: _ :: _ :: _ :: _ :: _ :: _ :: _ :: _ :: _ :: _ :: _ :: _ :: _ :: _ :: _ :: _ :: _ :: _ :: _ :: _ :: _ :: _ :: _ :: _ :: _ :: _ :: _ :: _ :: _ :: _ :: _ :: _ :: _ :: _ :: _ :: _ :: _ :: _ :: _ :: _ :: _ :: _ :: _ :: _ :: _ :: _ :: _ :: _ :: _ :: _ :: _ :: _ :: _ :: _ :: _ :: _ :: _ :: _ :: _ :: _ :: _ :: _ :: _ :: []) (by kernel_rfl : _ = acCOps) (by kernel_rfl) (acC_freeA c (.slice A c.mdl.bats.length ca) (.slice A1 c.mdl.bows.length ca1) (.slice A2 c.bows.length ca2) (.slice A3 c.ord.length ca3) (.slice (some ⟨b0, o0, none⟩) l.length ca4) p0 p1 p2 p3 p4 vv y wr.heap.size k w KC.out HY.out) rfl (by kernel_rfl) (by kernel_rfl) ⟨HSR.out, HBE.out⟩ (fun d hd => by simp only [List.mem_cons, List.not_mem_nil, or_false] at hd; rcases hd with rfl | rfl | rfl | rfl <;> rfl) rfl ?_
        intro wx hgx hbx
        have HGX := Lib.hid hgx
        clear hgx hbx
        go_wp2
        go_ret
        exact ⟨ret_i HZ.out.symm, HGX.out.1.bel⟩
      have HY := Lib.hid hy0
      skip
      clear hy0
      by_cases hk0 : k = 0
      · have HK0 := Lib.hid hk0
        have HFT2 := Lib.hid (HNX.out HY.out (fun h => by omega))
        clear hk0
        go_wp2
        refine wp_region_freeF (dl := [29, 30, 31, 32, 33, 34, 35, 36, 37, 38, 39, 40, 41, 42, 43, 44, 45, 46, 47, 48, 49]) (mask := acCMaskB c (.slice A c.mdl.bats.length ca) (.slice A1 c.mdl.bows.length ca1) (.slice A2 c.bows.length ca2) (.slice A3 c.ord.length ca3) (.slice (some ⟨b0, o0, none⟩) l.length ca4) p0 p1 p2 p3 p4 vv y w.heap.size wr.heap.size k) (T := _ :: _ :: _ :: _ :: _ :: _ :: _ :: _ :: _ :: _ :: _ :: _ :: _ :: _ :: _ :: _ :: _ :: _ :: _ :: _ :: _ :: _ :: _ :: _ :: _ :: _ :: _ :: _ :: _ :: _ :: _ :: _ :: _ :: _ :: _ :: _ :: _ :: _ :: _ :: _ :: _ :: _ :: _ :: _ :: _ :: _ :: _ :: _ :: _ :: _ :: _ :: _ :: _ :: _ :: _ :: _ :: _ :: _ :: _ :: _ :: _ :: _ :: _ :: _ :: _ :: _ :: _ :: _ :: _ :: _ :: _ :: _ :: _ :: []) (by kernel_rfl : _ = acCOps) (by kernel_rfl) (acC_freeB c (.slice A c.mdl.bats.length ca) (.slice A1 c.mdl.bows.length ca1) (.slice A2 c.bows.length ca2) (.slice A3 c.ord.length ca3) (.slice (some ⟨b0, o0, none⟩) l.length ca4) p0 p1 p2 p3 p4 vv y wr.heap.size k w KC.out HY.out HK0.out) rfl (by kernel_rfl) (by kernel_rfl) ⟨HSR.out, HBE.out⟩ (fun d hd => by simp only [List.mem_cons, List.not_mem_nil, or_false] at hd; rcases hd with rfl | rfl | rfl | rfl <;> rfl) rfl ?_
        intro wx hgx hbx
        have HSX := Lib.hid (HSE.out.below hbx)
        clear hgx hbx
        go_wp2
        go_roundw
        case rel => exact ⟨k + 1, by omega, by go_num, HSX, HFT2⟩
        case measure => simp [intOf]; omega
      · have hkp : 0 < k := by omega
        obtain ⟨b1, o1, he1, hbl1, rr⟩ := HPV.out hkp
        obtain ⟨rfl, rfl⟩ : b0 = b1 ∧ o0 = o1 := by injection he1 with h9; injection h9 with h8 h7; exact ⟨h8, h7⟩
        have hb2 := HBD2.out hkp
        have hn2 := fun (h1 : cmpS (l[k - 1]'(by omega)).st ⟨p0, p1, p2, p3, p4⟩ < 0) => HNX.out HY.out (fun _ => h1)
        have kq := fun W => ch44_order (l[k - 1]'(by omega)).st ⟨p0, p1, p2, p3, p4⟩ W
        skip
        obtain ⟨q, hq⟩ : ∃ q, q = cmpS (l[k - 1]'(by omega)).st ⟨p0, p1, p2, p3, p4⟩ := ⟨_, rfl⟩
        simp only [← hq] at hb2 hn2 kq
        obtain ⟨⟨⟨r0, r1, r2, r3, r4⟩, rv⟩, hr⟩ : ∃ x, x = l[k - 1]'(by omega) := ⟨_, rfl⟩
        simp only [← hr] at rr kq
        unfold stV at kq
        dsimp only at rr kq
        have HRR := Lib.hid rr
        have HB2 := Lib.hid hb2
        have HN2 := Lib.hid hn2
        have HKP := Lib.hid hkp
        clear he1 rr hb2 hn2 hq hr hk0
        by_cases hq0 : q < 0
        · have HFT2 := Lib.hid (HN2.out hq0)
          have HQ := Lib.hid hq0
          have KQ := Lib.hid kq
          clear hq0 kq
          go_wp2
          refine wp_region_freeF (dl := [29, 30, 31, 32, 33, 34, 35, 36, 37, 38, 39, 40, 41, 42, 43, 44, 45, 46, 47, 48, 49]) (mask := acCMaskD c (.slice A c.mdl.bats.length ca) (.slice A1 c.mdl.bows.length ca1) (.slice A2 c.bows.length ca2) (.slice A3 c.ord.length ca3) p0 p1 p2 p3 p4 vv y w.heap.size wr.heap.size k r0 r1 r2 r3 r4 rv q b0 o0 l.length ca4) (T := _ :: _ :: _ :: _ :: _ :: _ :: _ :: _ :: _ :: _ :: _ :: _ :: _ :: _ :: _ :: _ :: _ :: _ :: _ :: _ :: _ :: _ :: _ :: _ :: _ :: _ :: _ :: _ :: _ :: _ :: _ :: _ :: _ :: _ :: _ :: _ :: _ :: _ :: _ :: _ :: _ :: _ :: _ :: _ :: _ :: _ :: _ :: _ :: _ :: _ :: _ :: _ :: _ :: _ :: _ :: _ :: _ :: _ :: _ :: _ :: _ :: _ :: _ :: _ :: _ :: _ :: _ :: _ :: _ :: _ :: _ :: _ :: _ :: []) (by kernel_rfl : _ = acCOps) (by kernel_rfl) (acC_freeD c (.slice A c.mdl.bats.length ca) (.slice A1 c.mdl.bows.length ca1) (.slice A2 c.bows.length ca2) (.slice A3 c.ord.length ca3) p0 p1 p2 p3 p4 vv y wr.heap.size k r0 r1 r2 r3 r4 rv q b0 o0 l.length ca4 w KC.out KQ.out HY.out HKP.out (by omega) hn hbl HRR.out HQ.out) rfl (by kernel_rfl) (by kernel_rfl) ⟨HSR.out, HBE.out⟩ (fun d hd => by simp only [List.mem_cons, List.not_mem_nil, or_false] at hd; rcases hd with rfl | rfl | rfl | rfl <;> rfl) rfl ?_
          intro wx hgx hbx
          have HSX := Lib.hid (HSE.out.below hbx)
          clear hgx hbx
          go_wp2
          go_roundw
          case rel => exact ⟨k + 1, by omega, by go_num, HSX, HFT2⟩
          case measure => simp [intOf]; omega
        · have HZ := Lib.hid (HB2.out hq0)
          have HQ := Lib.hid (Int.not_lt.1 hq0)
          have KQ := Lib.hid kq
          clear hq0 kq
          go_wp2
          refine wp_region_freeF (dl := [29, 30, 31, 32, 33, 34, 35, 36, 37, 38, 39, 40, 41, 42, 43, 44, 45, 46, 47, 48, 49]) (mask := acCMaskC c (.slice A c.mdl.bats.length ca) (.slice A1 c.mdl.bows.length ca1) (.slice A2 c.bows.length ca2) (.slice A3 c.ord.length ca3) p0 p1 p2 p3 p4 vv y w.heap.size wr.heap.size k r0 r1 r2 r3 r4 rv q b0 o0 l.length ca4) (T := _ :: _ :: _ :: _ :: _ :: _ :: _ :: _ :: _ :: _ :: _ :: _ :: _ :: _ :: _ :: _ :: _ :: _ :: _ :: _ :: _ :: _ :: _ :: _ :: _ :: _ :: _ :: _ :: _ :: _ :: _ :: _ :: _ :: _ :: _ :: _ :: _ :: _ :: _ :: _ :: _ :: _ :: _ :: _ :: _ :: _ :: _ :: _ :: _ :: _ :: _ :: _ :: _ :: _ :: _ :: _ :: _ :: _ :: _ :: _ :: _ :: _ :: _ :: _ :: _ :: _ :: _ :: _ :: _ :: _ :: _ :: _ :: _ :: []) (by kernel_rfl : _ = acCOps) (by kernel_rfl) (acC_freeC c (.slice A c.mdl.bats.length ca) (.slice A1 c.mdl.bows.length ca1) (.slice A2 c.bows.length ca2) (.slice A3 c.ord.length ca3) p0 p1 p2 p3 p4 vv y wr.heap.size k r0 r1 r2 r3 r4 rv q b0 o0 l.length ca4 w KC.out KQ.out HY.out HKP.out (by omega) hn hbl HRR.out HQ.out) rfl (by kernel_rfl) (by kernel_rfl) ⟨HSR.out, HBE.out⟩ (fun d hd => by simp only [List.mem_cons, List.not_mem_nil, or_false] at hd; rcases hd with rfl | rfl | rfl | rfl <;> rfl) rfl ?_
          intro wx hgx hbx
          have HGX := Lib.hid hgx
          clear hgx hbx
          go_wp2
          go_ret
          exact ⟨ret_i HZ.out.symm, HGX.out.1.bel⟩
    · obtain rfl : k = l.length := by omega
      have hf := formC_all HFT.out
      have hn6 := HN6.out hf
      have hen := HEN.out hf
      obtain ⟨hs, hok⟩ := HFOK.out hf
      have kfi := HKF.out hs
      have kva := fun (k : Nat) (hk : k < l.length) => KEN0.out hs l[k] (hok k hk)
      simp only [← hlk0.out] at kva
      obtain ⟨⟨rv, ok⟩, hrv⟩ : ∃ r, r = lk ⟨s0, s1, s2, s3, s4⟩ := ⟨_, rfl⟩
      simp only [← hrv] at hn6 hen kfi
      have KFI := Lib.hid kfi
      have KVA := Lib.hid kva
      clear hs hok kfi kva hf HFT HKF HN6 HEN HF4 HFOK KCHK hlk0 KEN0 hrv
      have tok2 : True := trivial
      cases ok
      · have HZ := Lib.hid (hn6 rfl)
        skip
        clear hn6 hen
        go_wp2_with (clear tok2; go_at_call 29; refine (KFI.out _ HS.out.bel).mono ?_; rintro e w3 ⟨rfl, hb3⟩; have HS3 := Lib.hid (HS.out.below hb3); clear x0 x1 x2 x3 x4 x5 x6 g0 g1 g2 g3 g4 hl1 hl2; obtain ⟨x0, x1, x2, x3, x4, x5, x6, g0, g1, g2, g3, g4⟩ := HS3.out.cells; clear hb3; have tok3 : True := trivial)
        go_ret
        exact ⟨ret_i HZ.out.symm, HS3.out.bel⟩
      · have HE : Hid (z = entC c lk (l.drop 0)) := hen rfl
        clear hn6 hen
        go_wp2_with (clear tok2; go_at_call 29; refine (KFI.out _ HS.out.bel).mono ?_; rintro e w3 ⟨rfl, hb3⟩; have HS3 := Lib.hid (HS.out.below hb3); clear x0 x1 x2 x3 x4 x5 x6 g0 g1 g2 g3 g4 hl1 hl2; obtain ⟨x0, x1, x2, x3, x4, x5, x6, g0, g1, g2, g3, g4⟩ := HS3.out.cells; clear hb3; have tok3 : True := trivial)
        obtain ⟨wo, hwo⟩ : ∃ wo : World, wo = w3 := ⟨_, rfl⟩
        subst hwo
        go_loopw [61] (fun i wr => ∃ k : Nat, k ≤ l.length ∧ i = .int .i64 k ∧ Hid (AcC w wr w2.heap.size ⟨s0, s1, s2, s3, s4⟩ c (.slice A c.mdl.bats.length ca) (.slice A1 c.mdl.bows.length ca1) (.slice A2 c.bows.length ca2) (.slice A3 c.ord.length ca3)) ∧ Hid (z = entC c lk (l.drop k))) (fun i _ => l.length - (intOf i).toNat)
        case atStart => exact ⟨0, Nat.zero_le _, rfl, HS3, HE⟩
        case round =>
          clear x0 x1 x2 x3 x4 x5 x6 g0 g1 g2 g3 g4 HE HS3 HS
          obtain ⟨k, hk, rfl, HS, hzz⟩ := hrel
          obtain ⟨x0, x1, x2, x3, x4, x5, x6, g0, g1, g2, g3, g4⟩ := HS.out.cells
          have hl1 := HS.out.box.lt
          have hl2 := HS.out.st.lt
          by_cases hlt : k < l.length
          · obtain ⟨b0, o0, rfl, hbl, yy⟩ := cv_at HL.out (k := k) hlt
            have yy := sixC_below HS.out.bel hbl yy
            have kV := KVA.out k hlt
            have hst := hzz.out
            rw [entC_at hlt] at hst
            obtain ⟨er, her⟩ : ∃ r, r = entE c lk l[k] := ⟨_, rfl⟩
            simp only [← her] at kV hst
            obtain ⟨⟨⟨p0, p1, p2, p3, p4⟩, vv⟩, hp⟩ : ∃ x, x = l[k]'hlt := ⟨_, rfl⟩
            simp only [← hp] at yy kV hst
            try dsimp only at yy kV
            have HSE := Lib.hid (HS.out.alloc (.cells #[.int .i64 p0, .int .i64 p1, .int .i64 p2, .int .i64 p3, .int .i64 p4, .int .i64 vv] 32))
            have HBE := Lib.hid (Blk.new wr 32 #[.int .i64 p0, .int .i64 p1, .int .i64 p2, .int .i64 p3, .int .i64 p4, .int .i64 vv])
            obtain ⟨y0, y1, y2, y3, y4, y5⟩ := yy
            have KV := Lib.hid kV
            clear kV her hp hzz
            have tok5 : True := trivial
            by_cases he0 : er = 0
            · rw [if_neg (by simpa using he0)] at hst
              have HZ := Lib.hid hst
              have e5 : (er != 0) = false := by simp [he0]
              clear hst he0
              go_wp2_with (clear tok5; go_at_call 30; refine (KV.out _ HSE.out.bel).mono ?_; rintro e w6 ⟨rfl, hb6⟩; have HS6 := Lib.hid (HSE.out.below hb6); clear x0 x1 x2 x3 x4 x5 x6 g0 g1 g2 g3 g4 hl1 hl2; obtain ⟨x0, x1, x2, x3, x4, x5, x6, g0, g1, g2, g3, g4⟩ := HS6.out.cells; clear hb6; have tok6 : True := trivial)
              go_roundw
              case rel => exact ⟨k + 1, by omega, by go_num, HS6, HZ⟩
              case measure => simp [intOf]; omega
            · rw [if_pos he0] at hst
              have HZ := Lib.hid hst
              have e5 : (er != 0) = true := by simp [he0]
              clear hst he0
              go_wp2_with (clear tok5; go_at_call 30; refine (KV.out _ HSE.out.bel).mono ?_; rintro e w6 ⟨rfl, hb6⟩; have HS6 := Lib.hid (HSE.out.below hb6); clear x0 x1 x2 x3 x4 x5 x6 g0 g1 g2 g3 g4 hl1 hl2; obtain ⟨x0, x1, x2, x3, x4, x5, x6, g0, g1, g2, g3, g4⟩ := HS6.out.cells; clear hb6; have tok6 : True := trivial)
              go_ret
              exact ⟨ret_i HZ.out.symm, HS6.out.bel⟩
          · obtain rfl : k = l.length := by omega
            have hz2 := hzz.out
            rw [List.drop_of_length_le (Nat.le_refl _), entC] at hz2
            have HZ := Lib.hid hz2
            clear hzz hz2
            go_wp2
            go_ret
            exact ⟨ret_i HZ.out.symm, HS.out.bel⟩
end Go.Proofs.YtdlmmbfnmnglaaaGreatDoor
